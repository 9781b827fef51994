/-
  DERIVED. The walk of day.pieces at a template of texts and fields. Conditions: sizes. By an AI agent.
-/
import Derived.Test.YtghadhdmbcigpaaDoorTpSmall
import Derived.Test.YtghadhdmbcigpaaDoorTpShelf
namespace Go.Proofs.YtghadhdmbcigpaaDoor
open Go.RowKit

structure Pc where
  text : ByteArray
  field : ByteArray
  other : ByteArray
  has : Bool
def pcV (x : Pc) : List Value := [.string x.text, .string x.field, .string x.other, .bool x.has]
def rowsP (M : List Pc) : List Value := M.flatMap pcV
theorem rowsP_app (M N : List Pc) : rowsP (M ++ N) = rowsP M ++ rowsP N := by simp [rowsP]
def tOf (t : ByteArray) : Pc := ⟨t, ⟨#[]⟩, ⟨#[]⟩, false⟩
def fOf (n : ByteArray) : Pc := ⟨⟨#[]⟩, n, ⟨#[]⟩, false⟩
def pcs : List Seg → ByteArray → List Pc
  | [], z => [tOf z]
  | x :: r, z => tOf x.1 :: fOf x.2 :: pcs r z
theorem pcs_len (z : ByteArray) : ∀ T : List Seg, (pcs T z).length = 2 * T.length + 1
  | [] => rfl
  | x :: r => by rw [pcs, List.length_cons, List.length_cons, pcs_len z r, List.length_cons]; omega
def pcZ : Value := .agg #[.string ⟨#[]⟩, .string ⟨#[]⟩, .string ⟨#[]⟩, .bool false]
theorem pc_info : (Tryd.prog.info? 51).map (fun i => (i.zero, i.size, i.bytes)) = some (some pcZ, 4, 56) := by kernel_rfl
theorem pc_one (M : List Pc) : ∀ u ∈ rowsP M, u.oneCell' = true := by
  intro u hu
  obtain ⟨x, _, hu⟩ := List.mem_flatMap.1 hu
  unfold pcV at hu
  simp only [List.mem_cons, List.not_mem_nil, or_false] at hu
  rcases hu with rfl | rfl | rfl | rfl <;> rfl
theorem new_cells (w : World) (g : Nat) (cs : List Value) (t : TypeId) (hg : g = w.heap.size) : ∀ j u, cs[j]? = some u → (w.alloc (.cells cs.toArray t)).cell? ((⟨g, 0, none⟩ : Addr).add j) = some u := by
  subst hg
  intro j u hu
  rw [Addr.add_lit, Nat.zero_add, (Blk.new w t cs.toArray).cell j]
  simpa using hu

/-- the text that comes next -/
def cur : List Seg → ByteArray → ByteArray
  | [], z => z
  | x :: _, _ => x.1
theorem pre3 {s : ByteArray} {a : Nat} (h : ¬ (bt s a = 123 ∧ bt s (a + 1) = 123)) : Lib.hasPrefix (s.extract a s.size).data.toList [123, 123, 123] = false := by
  rw [hasPrefix_three, Bool.eq_false_iff]
  simp only [ne_eq, Bool.and_eq_true, beq_iff_eq, not_and]
  intro h1 _
  exact absurd h1 (by simpa using h)
theorem pre3' {s : ByteArray} {a : Nat} (h : bt s (a + 2) ≠ 123) : Lib.hasPrefix (s.extract a s.size).data.toList [123, 123, 123] = false := by
  rw [hasPrefix_three, Bool.eq_false_iff]
  simp only [ne_eq, Bool.and_eq_true, beq_iff_eq, not_and]
  intro _ h2
  exact h (by simpa using h2)
theorem pre2 {s : ByteArray} {a : Nat} (h : ¬ (bt s a = 123 ∧ bt s (a + 1) = 123)) : Lib.hasPrefix (s.extract a s.size).data.toList [123, 123] = false := by
  rw [hasPrefix_two, Bool.eq_false_iff]
  simpa using h
theorem pre2' {s : ByteArray} {a : Nat} (h : bt s a = 123 ∧ bt s (a + 1) = 123) : Lib.hasPrefix (s.extract a s.size).data.toList [123, 123] = true := by
  rw [hasPrefix_two]
  simpa using h

/-- what has been read of a template, and what is left of it -/
structure PcR (T : List Seg) (z s : ByteArray) (done : List Pc) (rest : List Seg) (f a : Nat) : Prop where
  pre : ∃ pre : ByteArray, pre.size = f ∧ s = pre ++ tpl rest z
  all : done ++ pcs rest z = pcs T z
  ok : ∀ x ∈ rest, okS x
  okz : okZ z
  fa : f ≤ a
  le : a ≤ f + (cur rest z).size

theorem PcR.start {T : List Seg} {z : ByteArray} (h : ∀ x ∈ T, okS x) (hz : okZ z) : PcR T z (tpl T z) [] T 0 0 :=
  ⟨⟨⟨#[]⟩, rfl, (ByteArray.empty_append).symm⟩, rfl, h, hz, Nat.le_refl _, Nat.zero_le _⟩
theorem PcR.small {T : List Seg} {z s : ByteArray} {done : List Pc} {rest : List Seg} {f a : Nat} (h : PcR T z s done rest f a) : done.length ≤ 2 * T.length := by
  have := congrArg List.length h.all
  rw [List.length_append, pcs_len, pcs_len] at this
  omega
theorem PcR.inside {T : List Seg} {z s : ByteArray} {done : List Pc} {rest : List Seg} {f a : Nat} (h : PcR T z s done rest f a) (ha : a < f + (cur rest z).size) : ¬ (bt s a = 123 ∧ bt s (a + 1) = 123) ∧ a < s.size ∧ PcR T z s done rest f (a + 1) := by
  obtain ⟨⟨pre, rfl, rfl⟩, h1, h2, h3, h4, h5⟩ := h
  obtain ⟨j, rfl⟩ : ∃ j, a = pre.size + j := ⟨a - pre.size, by omega⟩
  refine ⟨?_, ?_, ⟨⟨pre, rfl, rfl⟩, h1, h2, h3, by omega, by omega⟩⟩
  · cases rest with
    | nil => exact in_last h3 j
    | cons x r => obtain ⟨t, n⟩ := x; exact in_text (h2 _ (List.mem_cons_self)).1 (by simp only [cur] at ha ⊢; omega)
  · rw [ByteArray.size_append]
    cases rest with
    | nil => simp only [cur, tpl] at ha ⊢; omega
    | cons x r => simp only [cur] at ha; simp only [tpl, ByteArray.size_append]; omega
theorem PcR.field {T : List Seg} {z s t n : ByteArray} {done : List Pc} {r : List Seg} {f a : Nat} (h : PcR T z s done ((t, n) :: r) f a) (ha : ¬ a < f + t.size) :
    AtField s a n ∧ okN n ∧ s.extract f a = t ∧ a + n.size + 4 ≤ s.size ∧ f ≤ a ∧ PcR T z s (done ++ [tOf t, fOf n]) r (a + n.size + 4) (a + n.size + 4) := by
  obtain ⟨⟨pre, rfl, rfl⟩, h1, h2, h3, h4, h5⟩ := h
  simp only [cur] at h5
  obtain rfl : a = pre.size + t.size := by omega
  have hn := (h2 _ (List.mem_cons_self)).2
  have hf := at_field (pre := pre) (t := t) (z := z) (r := r) hn
  refine ⟨hf, hn, text_at _ _ _ _ _, hf.size, by omega, ⟨⟨_, ?_, next_pre _ _ _ _ _⟩, ?_, fun x hx => h2 x (List.mem_cons_of_mem _ hx), h3, Nat.le_refl _, Nat.le_add_right _ _⟩⟩
  · rw [next_size]
  · rw [← h1]; simp [pcs]
theorem PcR.last {T : List Seg} {z s : ByteArray} {done : List Pc} {f a : Nat} (h : PcR T z s done [] f a) (ha : ¬ a < f + z.size) : a = s.size ∧ s.extract f s.size = z ∧ done ++ [tOf z] = pcs T z ∧ f ≤ s.size := by
  obtain ⟨⟨pre, rfl, rfl⟩, h1, h2, h3, h4, h5⟩ := h
  simp only [cur] at h5
  refine ⟨?_, ext_end _ _, h1, by rw [ByteArray.size_append]; omega⟩
  rw [ByteArray.size_append]; simp only [tpl]; omega

set_option maxHeartbeats 8000000 in
set_option maxRecDepth 100000 in
theorem pieces_any (T : List Seg) (z s : ByteArray) (w : World) (hs : s.size ≤ 4294967280) (hT : T.length ≤ 100) (he : s = tpl T z) (hok : ∀ x ∈ T, okS x) (hz : okZ z) :
    Calls Tryd.prog 31 #[.string s] w fun e w' => ∃ v, e = .returned (.tuple #[v, .int .i64 0, .bool true]) ∧ w'.ownsRow w.heap.size 51 4 v (pcs T z).length (rowsP (pcs T z)) ∧ Below w.heap.size w w' := by
  obtain ⟨i0, hi, hz0, hz1, hz2⟩ := info_parts pc_info
  have P0 : Hid (PcR T z s [] T 0 0) := by show PcR _ _ _ _ _ _ _; rw [he]; exact PcR.start hok hz
  clear he hok hz
  go_enter Tryd.func31, Tryd.ntmps31
  go_wp2_with fail
  go_loopg [2, 3, 5] s.size (fun gg s1 s2 s4 wr => ∃ (done : List Pc) (rest : List Seg) (f a k : Nat), Hid (PcR T z s done rest f a) ∧ a + gg = s.size ∧ s2 = .int .i64 (a : Int) ∧ s4 = .int .i64 (f : Int) ∧ done.length = k ∧ k ≤ 200 ∧ wr.ownsRow w.heap.size 51 4 s1 k (rowsP done) ∧ Below w.heap.size w wr)
  case atStart => exact ⟨[], T, 0, 0, 0, P0, by omega, rfl, rfl, rfl, by omega, World.ownsRow_nil _ _ _ _, Below.refl _ _⟩
  case round =>
    clear P0
    obtain ⟨done, rest, f, a, k, hp, hag, rfl, rfl, hk, hk2, hown, hbel⟩ := hrel
    have i0' : (0 : Int) ≤ (a : Int) := by omega
    have HB := Lib.hid hbel
    have HK := Lib.hid hk
    clear hbel hk
    by_cases hin : a < f + (cur rest z).size
    · obtain ⟨hno, has, hnext⟩ := hp.out.inside hin
      have HN := Lib.hid hnext
      have H3 := Lib.hid (pre3 hno)
      have H2 := Lib.hid (pre2 hno)
      have i1 : (a : Int) < (s.size : Int) := by omega
      have i2 : (a : Int) ≤ (s.size : Int) := by omega
      clear hno hnext hin
      go_wp2_with fail
      refine (Tryd.strings_HasPrefix _ _ _).mono ?_
      rintro e w1 ⟨rfl, rfl⟩
      rw [show (⟨#[123, 123, 123]⟩ : ByteArray).data.toList = [123, 123, 123] from rfl, H3.out]
      go_wp2_with fail
      refine (Tryd.strings_HasPrefix _ _ _).mono ?_
      rintro e w1 ⟨rfl, rfl⟩
      rw [show (⟨#[123, 123]⟩ : ByteArray).data.toList = [123, 123] from rfl, H2.out]
      go_wp2_with fail
      go_roundg (s.size - (a + 1))
      case measure => omega
      case rel => exact ⟨done, rest, f, a + 1, k, HN, by omega, by go_num, rfl, HK.out, hk2, hown, HB.out⟩
    · cases rest with
      | nil =>
        obtain ⟨rfl, hx, hall, hfs⟩ := hp.out.last hin
        have HX := Lib.hid hx
        have HA := Lib.hid hall
        clear hin hp hx hall
        have j1 : (0 : Int) ≤ (f : Int) := by omega
        have j2 : (f : Int) ≤ (s.size : Int) := by omega
        go_wp2_with (at_builtin; refine wpList_append_own_at _ rfl _ _ 39 rfl w.heap.size 51 i0 pcZ 4 56 Tryd.underlying39 hi hz0 hz1 hz2 rfl (by decide) _ k _ rfl (hown.alloc _) ⟨wr.heap.size, 0, none⟩ 1 1 (rowsP [tOf (s.extract f s.size)]) rfl rfl (new_cells _ _ (rowsP [tOf (s.extract f s.size)]) _ rfl) (pc_one _) (by unfold maxLen; omega) (by omega) (by have := HB.out.size; simp; omega) ?_; intro v7 w7 hown7 hg7 _ _)
        have hlt := hown.lt
        refine bodyPost_ret (v := .tuple #[v7, .int .i64 0, .bool true]) (by simp [results, Tryd.results31, go_sem]) rfl ⟨v7, rfl, ?_, (HB.out.alloc HB.out.size _).grown hg7 (by have := HB.out.size; simp; omega) (fun g h => (hlt g h).1)⟩
        rw [← rowsP_app, HX.out, HA.out] at hown7
        rw [← HA.out, List.length_append, HK.out, List.length_singleton, HA.out]
        exact hown7
      | cons x r =>
        obtain ⟨t, n⟩ := x
        obtain ⟨hf, hn, hx, hsz, hfa, hnext⟩ := hp.out.field hin
        have hno : Lib.hasPrefix (s.extract a s.size).data.toList [123, 123, 123] = false := pre3' (field_third hf hn.1)
        have hyes : Lib.hasPrefix (s.extract a s.size).data.toList [123, 123] = true := pre2' ⟨hf.lo, hf.hi⟩
        have hsm := hnext.small
        rw [List.length_append] at hsm
        have H3 := Lib.hid hno
        have H2 := Lib.hid hyes
        have HX := Lib.hid hx
        have HN := Lib.hid hnext
        have HF := Lib.hid (fun w1 => fieldAt_any s n a w1 hs hf hn)
        have hks : k + 2 ≤ 200 := by have := HK.out; simp at hsm; omega
        clear hin hp hno hyes hx hnext hf hn hsm
        have i1 : (a : Int) < (s.size : Int) := by omega
        have i2 : (a : Int) ≤ (s.size : Int) := by omega
        have i3 : (0 : Int) ≤ (f : Int) := by omega
        have i4 : (f : Int) ≤ (a : Int) := by omega
        go_wp2_with fail
        refine (Tryd.strings_HasPrefix _ _ _).mono ?_
        rintro e w1 ⟨rfl, rfl⟩
        rw [show (⟨#[123, 123, 123]⟩ : ByteArray).data.toList = [123, 123, 123] from rfl, H3.out]
        go_wp2_with fail
        refine (Tryd.strings_HasPrefix _ _ _).mono ?_
        rintro e w1 ⟨rfl, rfl⟩
        rw [show (⟨#[123, 123]⟩ : ByteArray).data.toList = [123, 123] from rfl, H2.out]
        go_wp2_with fail
        refine (HF.out _).mono ?_
        rintro e w2 ⟨rfl, hb2⟩
        have HB2 : Hid (Below w.heap.size w w2) := HB.out.trans (hb2.mono HB.out.size)
        have hown2 := own_below hown hb2
        have hzw : w.heap.size ≤ w2.heap.size := HB2.out.size
        clear hb2 hown
        have i5 : ((a + n.size + 4 : Nat) : Int) ≤ (s.size : Int) := by omega
        have hlt := hown2.lt
        have HLT := Lib.hid hlt
        have OW := hown2
        have HRD : Hid (Reads (((w2.alloc (.cells #[.string ⟨#[]⟩, .string n, .string ⟨#[]⟩, .bool false] 51)).alloc (.cells (rowsP [tOf (s.extract f a), fOf n]).toArray 51)).drew) (w2.heap.size + 2) 4 (some ⟨w2.heap.size + 1, 0, none⟩) 2 (rowsP [tOf (s.extract f a), fOf n])) :=
          ⟨rfl, fun _ => ⟨_, rfl, by simp, new_cells _ _ (rowsP [tOf (s.extract f a), fOf n]) _ (by simp)⟩⟩
        clear hlt hown2
        go_wp2_with fail
        go_region_law (refine step_append_any _ (by rfl) _ _ _ (by rfl) w.heap.size 51 i0 pcZ 4 56 Tryd.underlying39 hi hz0 hz1 hz2 rfl (by decide) _ k _ (by rfl) (((OW.alloc _).alloc _).drew) (w2.heap.size + 2) (some ⟨w2.heap.size + 1, 0, none⟩) 2 2 (rowsP [tOf (s.extract f a), fOf n]) (by rfl) HRD.out (pc_one _) (by unfold maxLen; omega) (by omega) (by simp; omega) ?_; intro v7 w7 hown7 hg7 _)
        have HB7 : Hid (Below w.heap.size w w7) := ((HB2.out.alloc hzw _).alloc (by simp; omega) _).drew.grown hg7 (by simp; omega) (fun g h => (HLT.out g h).1)
        rw [← rowsP_app, HX.out] at hown7
        clear hg7 OW HLT
        go_wp2_with fail
        go_roundg (s.size - (a + n.size + 4))
        case measure => omega
        case rel => exact ⟨_, r, a + n.size + 4, a + n.size + 4, k + 2, HN, by omega, rfl, rfl, by simp [HK.out], hks, hown7, HB7.out⟩
end Go.Proofs.YtghadhdmbcigpaaDoor
