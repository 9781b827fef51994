/-
  DERIVED. Slices of ints: the walk of Clip, what Clone says. Conditions: sizes.
  A number in a row: the walks of slices.Index and Contains at ints, the reference's hasNumber and without. Conditions: sizes.
  A base in a row of the call's own that is turned in place: what its blocks lead to lies elsewhere. Conditions: none.
  By an AI agent.
-/
import Derived.Test.YtackphgnkdpgnaaGreatTj07
import Derived.Test.YtackphgnkdpgnaaGreatTj09
import Derived.Test.YtackphgnkdpgnaaGreatChecked
import Derived.Deep.DeepCutAuto
import Derived.Test.YtackphgnkdpgnaaGreatTj06
import Derived.Deep.LoopGhost
import Derived.Laws.IdiomCopy
import Derived.Laws.CopyRow
import Derived.Laws.Tables
namespace Go.Proofs.YtackphgnkdpgnaaGreat
open Go.RowKit

set_option maxHeartbeats 400000 in
theorem clipI_any (A : Option Addr) (n c : Nat) (w : World) (hn : n ≤ c) (_h0 : A = none → n = 0 ∧ c = 0) :
    Calls Tryz.prog 70 #[.slice A n c] w fun e w' => e = .returned (.slice A n n) ∧ w' = w := by
  have i0 : (0 : Int) ≤ (n : Int) := by omega
  have i1 : (n : Int) ≤ (c : Int) := by omega
  go_enter Tryz.func70, Tryz.ntmps70
  go_wp2_with fail
  go_ret
  exact ⟨rfl, rfl⟩
/-- a row of ints of the call's own -/
theorem RInX.of_own {w : World} {base n : Nat} {v : Value} {l : List Int} (h : w.ownsRow base 3 1 v n (l.map (.int .i64))) (hn : n = l.length) (hb : n * 8 ≤ 140737488351232) (hl : ∀ x ∈ l, I64 x) : ∃ A c, v = .slice A n c ∧ (A = none → n = 0 ∧ c = 0) ∧ RInX w (fun b => v.ownBlock = some b ∧ base ≤ b ∧ b < w.heap.size) (.slice A n c) l ∧ RInX w (fun b => v.ownBlock = some b ∧ base ≤ b ∧ b < w.heap.size) (.slice A n n) l := by
  obtain ⟨A, c, e, hc, hr⟩ := RdX.of_own h
  refine ⟨A, c, e, fun ha => ?_, ⟨A, n, c, rfl, hn, ⟨hc, hb⟩, hr, hl⟩, ⟨A, n, n, rfl, hn, ⟨Nat.le_refl _, hb⟩, hr, hl⟩⟩
  rcases h.2 with ⟨h, h0⟩ | ⟨g, cap, cur, h, _⟩
  · rw [e] at h; injection h with _ h1 h2
    exact ⟨h1, h2⟩
  · rw [e, ha] at h; injection h with h; cases h
/-- what copying ints leaves -/
def IntsR (l : List Int) (w : World) (e : Ending) (w' : World) : Prop := (∃ A n c, e = .returned (.slice A n c) ∧ (A = none → n = 0 ∧ c = 0) ∧ RInX w' (fun b => w.heap.size ≤ b ∧ b < w'.heap.size) (.slice A n c) l ∧ RInX w' (fun b => w.heap.size ≤ b ∧ b < w'.heap.size) (.slice A n n) l ∧ n ≤ c) ∧ Below w.heap.size w w'
theorem RIn.getD {w : World} {B b off n c : Nat} {l : List Int} (h : RIn w B (.slice (some ⟨b, off, none⟩) n c) l) : ∀ j, j < l.length → w.cell? ⟨b, off + j, none⟩ = some (.int .i64 (l.getD j 0)) := by
  intro j hj
  obtain ⟨b', off', e, _, hc⟩ := h.at_ (List.getElem?_eq_getElem hj)
  injection e with e
  injection e with e1 e2
  subst e1 e2
  rw [hc, List.getD_eq_getElem?_getD, List.getElem?_eq_getElem hj]; rfl
theorem cloneI_any (A : Option Addr) (n c : Nat) (l : List Int) (w : World) (B : Nat) (h : RIn w B (.slice A n c) l) :
    Calls Tryz.prog 71 #[.slice A n c] w (IntsR l w) := by
  have hn := h.len
  have hi : ∀ x ∈ l, I64 x := fun x hx => h.i64 hx
  have key : ∀ (v' : Value) (w' : World), w'.ownsRow w.heap.size 3 1 v' n (l.map (.int .i64)) → Below w.heap.size w w' → IntsR l w (.returned v') w' := fun v' w' ho hb => by
    obtain ⟨A', c', rfl, h0, h1, h2⟩ := RInX.of_own ho hn.1 hn.2.2 hi
    refine ⟨⟨A', n, c', rfl, h0, h1.weak fun b hb => hb.2, h2.weak fun b hb => hb.2, ?_⟩, hb⟩
    obtain ⟨_, _, _, e, _, h3, _⟩ := h1
    injection e with _ e1 e2
    omega
  rcases A with _ | ad
  · have h0 : n = 0 := by
      rcases Nat.eq_zero_or_pos n with g | g
      · exact g
      · obtain ⟨ad, e, _⟩ := h.reads.2 g
        cases e
    subst h0
    have hl : l = [] := List.eq_nil_of_length_eq_zero hn.1.symm
    subst hl
    refine (Tryz.slices_Clone_int_nil 0 c w).mono ?_
    rintro e w' ⟨rfl, rfl⟩
    exact key _ _ (World.ownsRow_nil _ _ _ _) (Below.refl _ _)
  · rcases Nat.eq_zero_or_pos n with g | g
    · subst g
      have hl : l = [] := List.eq_nil_of_length_eq_zero hn.1.symm
      subst hl
      refine (Tryz.slices_Clone_int_zero ad c w).mono ?_
      rintro e w' ⟨v', rfl, ho, _, hb⟩
      exact key _ _ ho hb
    · obtain ⟨b, off, e, _, _⟩ := h.reads.plain g (by omega)
      injection e with e
      subst e
      refine (Tryz.slices_Clone_int b off n c l w (by omega) (by omega) h.getD).mono ?_
      rintro e w' ⟨v', rfl, ho, _, hb⟩
      rw [List.take_of_length_le (by omega)] at ho
      exact key _ _ ho hb
theorem int_info : (Tryz.prog.info? 3).map (fun i => (i.zero, i.size, i.bytes)) = some (some (.int .i64 0), 1, 8) := by kernel_rfl
theorem ints_one (L : List Int) : ∀ u ∈ L.map (Value.int .i64), u.oneCell' = true := by
  intro u hu
  obtain ⟨x, _, rfl⟩ := List.mem_map.1 hu
  rfl
/-- a row of ints of the call's own, at the end -/
theorem IntsR.of_own {w w' : World} {n : Nat} {v : Value} {L : List Int} (h : w'.ownsRow w.heap.size 3 1 v n (L.map (.int .i64))) (hn : n = L.length) (hs : n ≤ 100000) (hL : ∀ x ∈ L, I64 x) (hb : Below w.heap.size w w') : IntsR L w (.returned v) w' := by
  obtain ⟨A, c, rfl, h0, h1, h2⟩ := RInX.of_own h hn (by omega) hL
  refine ⟨⟨A, n, c, rfl, h0, h1.weak fun b hb => hb.2, h2.weak fun b hb => hb.2, ?_⟩, hb⟩
  obtain ⟨_, _, _, e, _, h3, _⟩ := h1
  injection e with _ e1 e2
  omega
theorem RInX.reads1 {w : World} {S : Nat → Prop} {A : Option Addr} {n c B : Nat} {L : List Int} (h : RInX w S (.slice A n c) L) (hS : ∀ b, S b → b < B) : Reads w B 1 A n (L.map (.int .i64)) ∧ n = L.length :=
  ⟨(h.reads hS).reads, (h.reads hS).len.1⟩
end Go.Proofs.YtackphgnkdpgnaaGreat
namespace Go.Proofs.YtackphgnkdpgnaaGreat
open Go.RowKit

/-- the place of the first such number, from a place on -/
def ixFrom : List Int → Int → Nat → Int
  | [], _, _ => -1
  | a :: l, x, k => if x = a then (k : Int) else ixFrom l x (k + 1)
def ixOf (l : List Int) (x : Int) : Int := ixFrom l x 0
theorem ixFrom_at {l : List Int} {k : Nat} {a : Int} (h : l[k]? = some a) (x : Int) : ixFrom (l.drop k) x k = if x = a then (k : Int) else ixFrom (l.drop (k + 1)) x (k + 1) := by
  obtain ⟨hk, e⟩ := List.getElem?_eq_some_iff.1 h
  rw [List.drop_eq_getElem_cons hk, ixFrom, e]
theorem ixFrom_spec : ∀ (l : List Int) (x : Int) (k : Nat), (ixFrom l x k = -1 ∧ x ∉ l) ∨ ∃ i : Nat, ixFrom l x k = ((k + i : Nat) : Int) ∧ l[i]? = some x ∧ x ∉ l.take i
  | [], x, k => .inl ⟨rfl, by simp⟩
  | a :: l, x, k => by
    rw [ixFrom]
    by_cases h : x = a
    · rw [if_pos h]; exact .inr ⟨0, rfl, by rw [h]; rfl, by simp⟩
    · rw [if_neg h]
      rcases ixFrom_spec l x (k + 1) with ⟨h1, h2⟩ | ⟨i, h1, h2, h3⟩
      · exact .inl ⟨h1, by rw [List.mem_cons]; exact fun e => e.elim h h2⟩
      · exact .inr ⟨i + 1, by rw [h1]; congr 1; omega, by simpa using h2, by rw [List.take_succ_cons, List.mem_cons]; exact fun e => e.elim h h3⟩
theorem ixOf_spec (l : List Int) (x : Int) : (ixOf l x = -1 ∧ x ∉ l) ∨ ∃ i : Nat, ixOf l x = (i : Int) ∧ l[i]? = some x ∧ x ∉ l.take i := by
  rcases ixFrom_spec l x 0 with h | ⟨i, h1, h2⟩
  · exact .inl h
  · exact .inr ⟨i, by rw [ixOf, h1]; congr 1; omega, h2⟩
theorem ixOf_has (l : List Int) (x : Int) : decide (0 ≤ ixOf l x) = decide (x ∈ l) := by
  rcases ixOf_spec l x with ⟨h1, h2⟩ | ⟨i, h1, h2, _⟩
  · rw [decide_eq_false (by omega), decide_eq_false h2]
  · rw [decide_eq_true (by omega), decide_eq_true (List.mem_of_getElem? h2)]

set_option maxHeartbeats 1000000 in
/-- slices.Index at ints -/
theorem indexI_any (l : List Int) (A : Option Addr) (n c : Nat) (x : Int) (w : World) (B : Nat) (h : RIn w B (.slice A n c) l) :
    Calls Tryz.prog 66 #[.slice A n c, .int .i64 x] w fun e w' => e = .returned (.int .i64 (ixOf l x)) ∧ w' = w := by
  obtain ⟨V, hV⟩ : ∃ V, V = ixOf l x := ⟨_, rfl⟩
  rw [← hV]
  have HV : Hid (V = ixFrom (l.drop 0) x 0) := hV
  have HN := Lib.hid h.len
  have H := Lib.hid h
  clear h hV
  go_enter Tryz.func66, Tryz.ntmps66
  go_wp2_with fail
  go_loopg [8] n (fun gg s8 wr => ∃ k : Nat, k + gg = n ∧ s8 = .int .i64 (k : Int) ∧ Hid (V = ixFrom (l.drop k) x k) ∧ Hid (wr = w))
  case atStart => exact ⟨0, by omega, rfl, HV, rfl⟩
  case round =>
    obtain ⟨k, hkg, rfl, hno, hw⟩ := hrel
    obtain rfl : w = wr := hw.out.symm
    clear hw
    have hbg : n ≤ c ∧ n * 8 ≤ 140737488351232 := HN.out.2
    by_cases hk : k < n
    · obtain ⟨a, ha⟩ : ∃ a, l[k]? = some a := ⟨_, List.getElem?_eq_getElem (by have := HN.out.1; omega)⟩
      obtain ⟨b, off, rfl, hbb, g0⟩ := H.out.at_ ha
      have hst := hno.out.trans (ixFrom_at ha x)
      have j0 : (0 : Int) ≤ (k : Int) := by omega
      have j1 : (k : Int) < (n : Int) := by omega
      clear ha
      by_cases he : x = a
      · have HL := Lib.hid (hst.trans (if_pos he))
        have he' : (x == a) = true := by simpa using he
        clear hst he
        go_wp2_with fail
        go_ret
        exact ⟨by rw [HL.out]; rfl, rfl⟩
      · have HL := Lib.hid (hst.trans (if_neg he))
        have he' : (x == a) = false := by simpa using he
        clear hst he
        go_wp2_with fail
        go_roundg (n - (k + 1))
        case measure => omega
        case rel => exact ⟨k + 1, by omega, by go_num, HL, rfl⟩
    · obtain rfl : k = n := by omega
      have HZ : Hid (V = -1) := hno.out.trans (by rw [List.drop_of_length_le (by rw [← HN.out.1]; exact Nat.le_refl _)]; rfl)
      go_wp2_with fail
      go_ret
      exact ⟨by rw [HZ.out]; rfl, rfl⟩
set_option maxHeartbeats 400000 in
/-- slices.Contains at ints -/
theorem containsI_any (l : List Int) (A : Option Addr) (n c : Nat) (x : Int) (w : World) (B : Nat) (h : RIn w B (.slice A n c) l) :
    Calls Tryz.prog 80 #[.slice A n c, .int .i64 x] w fun e w' => e = .returned (.bool (decide (x ∈ l))) ∧ w' = w := by
  have HX := Lib.hid (indexI_any l A n c x w B h)
  rw [← ixOf_has]
  obtain ⟨V, hV⟩ : ∃ V, V = ixOf l x := ⟨_, rfl⟩
  rw [← hV] at HX ⊢
  clear h hV
  go_enter Tryz.func80, Tryz.ntmps80
  go_wp2_with fail
  refine HX.out.mono ?_
  rintro e w1 ⟨rfl, hw⟩
  rw [hw]
  clear hw
  go_wp2_with fail
  go_ret
  exact ⟨rfl, rfl⟩
set_option maxHeartbeats 1000000 in
/-- the reference's hasNumber -/
theorem hasNumber_any (l : List Int) (A : Option Addr) (n c : Nat) (x : Int) (w : World) (B : Nat) (h : RIn w B (.slice A n c) l) :
    Calls Tryz.prog 24 #[.slice A n c, .int .i64 x] w fun e w' => e = .returned (.bool (decide (x ∈ l))) ∧ w' = w := by
  rw [← ixOf_has]
  obtain ⟨V, hV⟩ : ∃ V, V = ixOf l x := ⟨_, rfl⟩
  rw [← hV]
  have HV : Hid (V = ixFrom (l.drop 0) x 0) := hV
  have HN := Lib.hid h.len
  have H := Lib.hid h
  clear h hV
  go_enter Tryz.func24, Tryz.ntmps24
  go_wp2_with fail
  go_loopg [9] n (fun gg s9 wr => ∃ k : Nat, k + gg = n ∧ s9 = .int .i64 (k : Int) ∧ Hid (V = ixFrom (l.drop k) x k) ∧ Hid (wr = w))
  case atStart => exact ⟨0, by omega, rfl, HV, rfl⟩
  case round =>
    obtain ⟨k, hkg, rfl, hno, hw⟩ := hrel
    obtain rfl : w = wr := hw.out.symm
    clear hw
    have hbg : n ≤ c ∧ n * 8 ≤ 140737488351232 := HN.out.2
    by_cases hk : k < n
    · obtain ⟨a, ha⟩ : ∃ a, l[k]? = some a := ⟨_, List.getElem?_eq_getElem (by have := HN.out.1; omega)⟩
      obtain ⟨b, off, rfl, hbb, g0⟩ := H.out.at_ ha
      have hst := hno.out.trans (ixFrom_at ha x)
      have j0 : (0 : Int) ≤ (k : Int) := by omega
      have j1 : (k : Int) < (n : Int) := by omega
      clear ha
      by_cases he : x = a
      · have HL : Hid (decide (0 ≤ V) = true) := decide_eq_true (by have := hst.trans (if_pos he); omega)
        have he' : (a == x) = true := by simpa using he.symm
        clear hst he
        go_wp2_with fail
        go_ret
        exact ⟨by rw [HL.out]; rfl, rfl⟩
      · have HL := Lib.hid (hst.trans (if_neg he))
        have he' : (a == x) = false := by simpa using fun e => he e.symm
        clear hst he
        go_wp2_with fail
        go_roundg (n - (k + 1))
        case measure => omega
        case rel => exact ⟨k + 1, by omega, by go_num, HL, rfl⟩
    · obtain rfl : k = n := by omega
      have HZ : Hid (V = -1) := hno.out.trans (by rw [List.drop_of_length_le (by rw [← HN.out.1]; exact Nat.le_refl _)]; rfl)
      have HL : Hid (decide (0 ≤ V) = false) := decide_eq_false (by have := HZ.out; omega)
      go_wp2_with fail
      go_ret
      exact ⟨by rw [HL.out]; rfl, rfl⟩
theorem less_snoc (l : List Int) (a x : Int) : lessK (l ++ [a]) x = lessK l x ++ if a = x then [] else [a] := by
  unfold lessK
  rw [List.filter_append, List.filter_cons, List.filter_nil]
  by_cases h : a = x
  · rw [if_neg (by simpa using h), if_pos h]
  · rw [if_pos (by simpa using h), if_neg h]
set_option maxHeartbeats 2000000 in
/-- the reference's without -/
theorem without_any (l : List Int) (A : Option Addr) (n c : Nat) (x : Int) (w : World) (B : Nat) (hB : B ≤ w.heap.size) (h : RIn w B (.slice A n c) l) (hs : n ≤ 100000) :
    Calls Tryz.prog 23 #[.slice A n c, .int .i64 x] w (IntsR (lessK l x) w) := by
  obtain ⟨i0, hi, hq0, hq1, hq2⟩ := info_parts int_info
  have HN := Lib.hid h.len
  have H64 : Hid (∀ y ∈ l, I64 y) := fun y hy => h.i64 hy
  have H := Lib.hid h
  clear h
  go_enter Tryz.func23, Tryz.ntmps23
  go_wp2_with fail
  go_loopg [5, 10] n (fun gg s5 s10 wr => ∃ (k t : Nat) (v : Value), k + gg = n ∧ v = s5 ∧ s10 = .int .i64 (k : Int) ∧ Hid (t = (lessK (l.take k) x).length) ∧ Hid (wr.ownsRow w.heap.size 3 1 v t ((lessK (l.take k) x).map (Value.int .i64))) ∧ Hid (Below w.heap.size w wr))
  case atStart => exact ⟨0, 0, _, by omega, rfl, rfl, rfl, World.ownsRow_nil _ _ _ _, Below.refl _ _⟩
  case round =>
    obtain ⟨k, t, v, hkg, rfl, rfl, ht, hown, hbel⟩ := hrel
    obtain ⟨W1, rfl⟩ : ∃ W1, W1 = wr := ⟨_, rfl⟩
    have hzr : w.heap.size ≤ W1.heap.size := hbel.out.size
    have htk : t ≤ k := by
      have h1 := less_len (l.take k) x
      have h2 : (l.take k).length ≤ k := List.length_take_le _ _
      have := ht.out
      omega
    by_cases hk : k < n
    · obtain ⟨a, ha⟩ : ∃ a, l[k]? = some a := ⟨_, List.getElem?_eq_getElem (by have := HN.out.1; omega)⟩
      have HT : Hid (lessK (l.take (k + 1)) x = lessK (l.take k) x ++ if a = x then [] else [a]) := by
        show _ = _
        rw [List.take_add_one, ha]
        exact less_snoc _ _ _
      obtain ⟨b, off, rfl, hbb, g0⟩ := H.out.at_ ha
      have g0 := (hbel.out.cell (p := ⟨b, off + k, none⟩) (by show b < _; omega)).trans g0
      have j0 : (0 : Int) ≤ (k : Int) := by omega
      have j1 : (k : Int) < (n : Int) := by omega
      clear ha
      by_cases he : a = x
      · have he' : (a != x) = false := by simpa using he
        have HL : Hid (lessK (l.take (k + 1)) x = lessK (l.take k) x) := HT.out.trans (by rw [if_pos he, List.append_nil])
        clear he
        go_wp2_with fail
        go_roundg (n - (k + 1))
        case measure => omega
        case rel => exact ⟨k + 1, t, v, by omega, rfl, by go_num, by rw [HL.out]; exact ht, by rw [HL.out]; exact hown, hbel⟩
      · have he' : (a != x) = true := by simpa using he
        have HL : Hid (lessK (l.take (k + 1)) x = lessK (l.take k) x ++ [a]) := HT.out.trans (by rw [if_neg he])
        have hb1 : t + 1 ≤ maxLen := by unfold maxLen; omega
        have hb2 : (t + 1) * 8 ≤ 140737488355328 := by omega
        have HR1 : Hid (Reads (W1.alloc (.cells #[.int .i64 a] 3)) (W1.heap.size + 1) 1 (some ⟨W1.heap.size, 0, none⟩) 1 [.int .i64 a]) := Reads.blk (Blk.new _ _ _) rfl
        have hbase : w.heap.size ≤ (W1.alloc (.cells #[.int .i64 a] 3)).heap.size := by simp; omega
        have hone : ∀ u ∈ [Value.int .i64 a], u.oneCell' = true := ints_one [a]
        have HOW := Lib.hid (hown.out.alloc (.cells #[.int .i64 a] 3))
        have HBA := Lib.hid (hbel.out.alloc hzr (.cells #[.int .i64 a] 3))
        have HVB : Hid (∀ g, v.ownBlock = some g → w.heap.size ≤ g) := fun g hg => (own_block_lt hown.out g hg).1
        clear he
        go_wp2_with (at_builtin; refine wpList_append_any _ rfl _ _ 42 rfl w.heap.size 3 i0 (.int .i64 0) 1 8 Tryz.underlying42 hi hq0 hq1 hq2 rfl (by decide) v t _ rfl HOW.out _ _ 1 1 _ rfl HR1.out hone hb1 hb2 hbase ?_)
        intro v2 w2 hown2 hg2 hat2
        have HO2 : Hid (w2.ownsRow w.heap.size 3 1 v2 (t + 1) ((lessK (l.take (k + 1)) x).map (Value.int .i64))) := by rw [HL.out, List.map_append]; exact hown2
        have HB2 : Hid (Below w.heap.size w w2) := HBA.out.grown hg2 (Nat.le_trans hzr (by simp)) (fun g hg => HVB.out g hg)
        have HT2 : Hid (t + 1 = (lessK (l.take (k + 1)) x).length) := by show _ = _; rw [HL.out, List.length_append, ← ht.out]; rfl
        clear hown2 hg2 hat2
        go_wp2_with fail
        go_roundg (n - (k + 1))
        case measure => omega
        case rel => exact ⟨k + 1, t + 1, v2, by omega, rfl, by go_num, HT2, HO2, HB2⟩
    · obtain rfl : n = k := by omega
      have HF : Hid (IntsR (lessK l x) w (.returned v) W1) := by
        show IntsR _ _ _ _
        have e : l.take n = l := List.take_of_length_le (by rw [← HN.out.1]; exact Nat.le_refl _)
        have h1 := hown.out
        have h2 := ht.out
        rw [e] at h1 h2
        exact IntsR.of_own h1 h2 (by omega) (fun y hy => H64.out y ((less_mem _ _ _).1 hy).1) hbel.out
      go_wp2_with fail
      go_ret
      exact HF.out
end Go.Proofs.YtackphgnkdpgnaaGreat
namespace Go.Proofs.YtackphgnkdpgnaaGreat
open Go.RowKit

def bZ : Value := .agg #[.int .i64 0, .int .i64 0, .slice none 0 0, .string ⟨#[]⟩, .slice none 0 0]
theorem block_info : (Tryz.prog.info? 45).map (fun i => (i.zero, i.size, i.bytes)) = some (some bZ, 5, 80) := by kernel_rfl
abbrev BK := Bl × Value × Value
/-- blocks in block g, with room for cap -/
structure RowB (w : World) (g cap : Nat) (M : List BK) : Prop where
  row : ∃ sp : List Value, Blk w g 45 (M.flatMap blV ++ sp).toArray ∧ M.length * 5 + sp.length = cap * 5
  room : cap ≤ maxLen
  few : M.length ≤ 100000
  nest : ∀ x ∈ M, NB w (fun b => b < w.heap.size ∧ b ≠ g) x
theorem fmB_len (M : List BK) : (M.flatMap blV).length = M.length * 5 := by
  induction M with
  | nil => rfl
  | cons a M ih => rw [List.flatMap_cons, List.length_append, ih, List.length_cons, blV_len]; omega
theorem szB (M : List BK) (sp : List Value) : (M.flatMap blV ++ sp).toArray.size = M.length * 5 + sp.length := by rw [List.size_toArray, List.length_append, fmB_len]
theorem fmB_set : ∀ (M : List BK) (k j : Nat) (x y : BK) (u : Value), M[k]? = some x → j < 5 → blV y = (blV x).set j u → (M.flatMap blV).set (k * 5 + j) u = (M.set k y).flatMap blV
  | [], k, j, x, y, u, h, _, _ => by simp at h
  | a :: M, 0, j, x, y, u, h, hj, e => by
    obtain rfl : a = x := by simpa using h
    rw [List.set_cons_zero, List.flatMap_cons, List.flatMap_cons, Nat.zero_mul, Nat.zero_add, List.set_append_left _ _ (by rw [blV_len]; exact hj), e]
  | a :: M, k + 1, j, x, y, u, h, hj, e => by
    rw [List.set_cons_succ, List.flatMap_cons, List.flatMap_cons, List.set_append_right _ _ (by rw [blV_len]; omega), blV_len, show (k + 1) * 5 + j - 5 = k * 5 + j by omega, fmB_set M k j x y u (by simpa using h) hj e]
section
variable {w w' : World} {g cap : Nat} {M : List BK}
theorem RowB.lt (h : RowB w g cap M) : g < w.heap.size := by
  obtain ⟨sp, h1, _⟩ := h.row
  exact h1.lt
theorem RowB.len (h : RowB w g cap M) : M.length ≤ cap := by
  obtain ⟨sp, _, h2⟩ := h.row
  omega
theorem RowB.below (h : RowB w g cap M) (hb : Below w.heap.size w w') : RowB w' g cap M := by
  obtain ⟨sp, h1, h2⟩ := h.row
  exact ⟨⟨sp, h1.below hb h1.lt, h2⟩, h.room, h.few, fun x hx => NB_ok _ _ _ _ x (h.nest x hx) (fun p hp => hb.cell hp.1) fun b hb' => ⟨Nat.lt_of_lt_of_le hb'.1 hb.size, hb'.2⟩⟩
theorem RowB.frozen (h : RowB w g cap M) (i : Nat) : w.frozen? ⟨g, i, none⟩ = false := by
  obtain ⟨sp, h1, _⟩ := h.row
  exact h1.frozen i
theorem RowB.some_ (h : RowB w g cap M) {i : Nat} (hi : i < cap * 5) : (w.cell? ⟨g, i, none⟩).isSome = true := by
  obtain ⟨sp, h1, h2⟩ := h.row
  rw [h1.cell, Array.getElem?_eq_getElem (by rw [szB]; omega)]; rfl
theorem RowB.shape (h : RowB w g cap M) : w.shape? g = some (45, cap * 5) := by
  obtain ⟨sp, h1, h2⟩ := h.row
  unfold Blk at h1
  unfold World.shape?
  rw [h1]
  show some (_, _) = _
  rw [szB, h2]
theorem RowB.cells (h : RowB w g cap M) {j : Nat} {u : Value} (hu : (M.flatMap blV)[j]? = some u) : w.cell? ⟨g, j, none⟩ = some u := by
  obtain ⟨sp, h1, h2⟩ := h.row
  have hj := (List.getElem?_eq_some_iff.1 hu).1
  rw [h1.cell, List.getElem?_toArray, List.getElem?_append_left hj, hu]
theorem RowB.cell (h : RowB w g cap M) {k : Nat} {x : BK} (hx : M[k]? = some x) {i : Nat} {u : Value} (hu : (blV x)[i]? = some u) : w.cell? ⟨g, k * 5 + i, none⟩ = some u := by
  refine h.cells ?_
  have hi := (List.getElem?_eq_some_iff.1 hu).1
  rw [blV_len] at hi
  rw [fm_get blV 5 blV_len M k i x hx hi, hu]
theorem RowB.reads (h : RowB w g cap M) : Reads w w.heap.size 5 (some ⟨g, 0, none⟩) M.length (M.flatMap blV) :=
  ⟨fmB_len M, fun _ => ⟨_, rfl, h.lt, fun j u hu => by rw [Addr.add_lit, Nat.zero_add]; exact h.cells hu⟩⟩
/-- read as a base -/
theorem RowB.rb (h : RowB w g cap M) : RB w w.heap.size (.slice (some ⟨g, 0, none⟩) M.length cap) (M.map Prod.fst) :=
  ⟨_, _, _, M, rfl, rfl, rfl, ⟨h.len, by have := h.few; omega⟩, h.reads, fun x hx => ⟨(h.nest x hx).1.reads fun b hb => hb.1, (h.nest x hx).2.reads fun b hb => hb.1⟩⟩
/-- a field is stored -/
theorem RowB.store (h : RowB w g cap M) {k j : Nat} {x y : BK} {u : Value} (hx : M[k]? = some x) (hj : j < 5) (he : blV y = (blV x).set j u) (hn : NB w (fun b => b < w.heap.size ∧ b ≠ g) y) : RowB (w.setCell ⟨g, k * 5 + j, none⟩ u) g cap (M.set k y) := by
  obtain ⟨sp, h1, h2⟩ := h.row
  have hk := (List.getElem?_eq_some_iff.1 hx).1
  have hsz : (w.setCell ⟨g, k * 5 + j, none⟩ u).heap.size = w.heap.size := by simp [World.setCell]
  have hkeep : ∀ p : Addr, p.block < w.heap.size ∧ p.block ≠ g → (w.setCell ⟨g, k * 5 + j, none⟩ u).cell? p = w.cell? p := fun p hp => World.cell?_setCell_other _ _ p _ (by intro e; subst e; exact hp.2 rfl)
  refine ⟨⟨sp, ?_, by rw [List.length_set]; exact h2⟩, h.room, by rw [List.length_set]; exact h.few, fun z hz => ?_⟩
  · have := h1.set_ (k * 5 + j) u
    rw [List.setIfInBounds_toArray, List.set_append_left _ _ (by rw [fmB_len]; omega), fmB_set M k j x y u hx hj he] at this
    exact this
  · rw [hsz]
    rcases List.mem_or_eq_of_mem_set hz with hz | rfl
    · exact NB_ok _ _ _ _ z (h.nest z hz) hkeep fun b hb => hb
    · exact NB_ok _ _ _ _ z hn hkeep fun b hb => hb
/-- a whole row anew -/
theorem RowB.setRow (h : RowB w g cap M) {M' : List BK} {sp : List Value} (hl : M'.length * 5 + sp.length = cap * 5) (hf : M'.length ≤ 100000) (hn : ∀ x ∈ M', NB w (fun b => b < w.heap.size ∧ b ≠ g) x) : RowB (w.setRow g (M'.flatMap blV ++ sp).toArray) g cap M' := by
  obtain ⟨sp0, h1, h2⟩ := h.row
  have hkeep : ∀ p : Addr, p.block < w.heap.size ∧ p.block ≠ g → (w.setRow g (M'.flatMap blV ++ sp).toArray).cell? p = w.cell? p := fun p hp => cell_setRow_other _ _ _ _ hp.2
  exact ⟨⟨sp, setRow_heap w g _ _ _ _ h1, hl⟩, h.room, hf, fun x hx => by rw [setRow_size]; exact NB_ok _ _ _ _ x (hn x hx) hkeep fun b hb => hb⟩
/-- a row of the call's own, as the append's law has it -/
theorem RowB.own (h : RowB w g cap M) {base : Nat} (hb : base ≤ g) : w.ownsRow base 45 5 (.slice (some ⟨g, 0, none⟩) M.length cap) M.length (M.flatMap blV) := by
  obtain ⟨sp, h1, h2⟩ := h.row
  refine ⟨fmB_len M, .inr ⟨g, cap, _, rfl, hb, h1, h.len, h.room, by rw [szB, h2], ?_⟩⟩
  rw [List.toList_toArray, List.take_append_of_le_length (by rw [fmB_len]; exact Nat.le_refl _), List.take_of_length_le (by rw [fmB_len]; exact Nat.le_refl _)]
theorem RowB.of_own {base : Nat} {v : Value} (h : w.ownsRow base 45 5 v M.length (M.flatMap blV)) (h0 : 0 < M.length) (hf : M.length ≤ 100000) (hn : ∀ x ∈ M, NB w (fun b => b < w.heap.size ∧ v.ownBlock ≠ some b) x) : ∃ g cap, v = .slice (some ⟨g, 0, none⟩) M.length cap ∧ base ≤ g ∧ RowB w g cap M := by
  rcases h.2 with ⟨_, h1⟩ | ⟨g, cap, cur, rfl, hb, hh, hl, hm, hs, ht⟩
  · omega
  · refine ⟨g, cap, rfl, hb, ⟨⟨cur.toList.drop (M.length * 5), ?_, by
      have e : cur.toList.length = cap * 5 := by rw [Array.length_toList]; exact hs
      rw [List.length_drop, e]; omega⟩, hm, hf, fun x hx => NB_ok _ _ _ _ x (hn x hx) (fun _ _ => rfl) fun b hb => ⟨hb.1, fun e => hb.2 (by rw [e]; rfl)⟩⟩⟩
    show w.heap[g]? = _
    rw [hh, ← ht, List.take_append_drop]
end

/-- copy between rows whose elements take more than one cell -/
theorem run_copy_rowN {P : Program} (w : World) (dT sT ty elem : TypeId) (g o dLen dCap : Nat) (a : Addr) (sLen sCap size : Nat) (cur : Array Value) (t : TypeId) (cs : List Value)
    (hu : P.underlying dT = some (.slice elem)) (hs : (P.info? elem).map (·.size) = some size)
    (hg : w.heap[g]? = some (.cells cur t (0, 0))) (hn : cs.length = Nat.min sLen dLen * size)
    (hsrc : ∀ j v, cs[j]? = some v → w.cell? (a.add j) = some v) (hfit : o + cs.length ≤ cur.size) (h1 : ∀ v ∈ cs, v.oneCell' = true) :
    (Builtin.copy_ #[dT, sT] ty #[.slice (some ⟨g, o, none⟩) dLen dCap, .slice (some a) sLen sCap]).run P w =
      .ok (goInt (Nat.min sLen dLen)) (w.setRow g (cur.toList.take o ++ cs ++ cur.toList.drop (o + cs.length)).toArray) := by
  have hl := run_loadCells_list (P := P) w a cs hsrc
  have hst := run_storeCells_at P g o t cs 0 cur w hg (by simpa using hfit) h1
  cases hq : P.info? elem with
  | none => simp [hq] at hs
  | some i =>
    have hi : i.size = size := by simpa [hq] using hs
    simp [Builtin.copy_, run_underlying hu, Builtin.lenOf, Builtin.firstCells, sizeOf, typeInfo, hq, hi, ← hn, hl, hst]
end Go.Proofs.YtackphgnkdpgnaaGreat
