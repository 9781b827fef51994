/-
  DERIVED. The walks of day.names and day.readTemplate at a template of texts and fields. Conditions: sizes. By an AI agent.
-/
import Derived.Test.YtghadhdmbcigpaaDoorTpPieces
namespace Go.Proofs.YtghadhdmbcigpaaDoor
open Go.RowKit

theorem fm_get {α : Type} (enc : α → List Value) (c : Nat) (h : ∀ x, (enc x).length = c) : ∀ (M : List α) (k i : Nat) (x : α), M[k]? = some x → i < c → (M.flatMap enc)[k * c + i]? = (enc x)[i]?
  | [], k, i, x, hk, hi => by simp at hk
  | a :: M, 0, i, x, hk, hi => by
    obtain rfl : a = x := by simpa using hk
    rw [List.flatMap_cons, Nat.zero_mul, Nat.zero_add, List.getElem?_append_left (by rw [h]; exact hi)]
  | a :: M, k + 1, i, x, hk, hi => by
    have := fm_get enc c h M k i x (by simpa using hk) hi
    rw [List.flatMap_cons, List.getElem?_append_right (by rw [h, Nat.succ_mul]; omega), h, ← this]
    congr 1; rw [Nat.succ_mul]; omega
theorem Reads.struct_at {α : Type} {enc : α → List Value} {c : Nat} (henc : ∀ x, (enc x).length = c) {w : World} {B n : Nat} {A : Option Addr} {M : List α} (h : Reads w B c A n (M.flatMap enc)) (hn : n = M.length) {k : Nat} {x : α} (hk : M[k]? = some x) :
    ∃ ad, A = some ad ∧ ad.block < B ∧ ∀ i u, (enc x)[i]? = some u → w.cell? (ad.add (k * c + i)) = some u := by
  have hkl : k < M.length := (List.getElem?_eq_some_iff.1 hk).1
  obtain ⟨ad, e, hb, hc⟩ := h.2 (by omega)
  refine ⟨ad, e, hb, fun i u hu => hc _ _ ?_⟩
  rw [fm_get enc c henc M k i x hk (by rw [← henc x]; exact (List.getElem?_eq_some_iff.1 hu).1)]
  exact hu

theorem Reads.plain_at {α : Type} {enc : α → List Value} {c : Nat} (hc0 : 0 < c) (henc : ∀ x, (enc x).length = c) {w : World} {B n : Nat} {A : Option Addr} {M : List α} (h : Reads w B c A n (M.flatMap enc)) (hn : n = M.length) {k : Nat} {x : α} (hk : M[k]? = some x) :
    ∃ b off, A = some ⟨b, off, none⟩ ∧ b < B ∧ ∀ i u, (enc x)[i]? = some u → w.cell? ⟨b, off + k * c + i, none⟩ = some u := by
  have hkl : k < M.length := (List.getElem?_eq_some_iff.1 hk).1
  obtain ⟨b, off, e, hb, hcell⟩ := h.plain (by omega) hc0
  refine ⟨b, off, e, hb, fun i u hu => ?_⟩
  rw [Nat.add_assoc]
  refine hcell _ _ ?_
  rw [fm_get enc c henc M k i x hk (by rw [← henc x]; exact (List.getElem?_eq_some_iff.1 hu).1)]
  exact hu
theorem str_info : (Tryd.prog.info? 9).map (fun i => (i.zero, i.size, i.bytes)) = some (some (.string ⟨#[]⟩), 1, 16) := by kernel_rfl
theorem empty_of {t : ByteArray} (h : t.size = 0) : t = ⟨#[]⟩ := by
  obtain ⟨⟨l⟩⟩ := t
  have : l.length = 0 := h
  rw [List.length_eq_zero_iff.1 this]
theorem notEmpty_of {t : ByteArray} (h : 0 < t.size) : t.toList.isEmpty = false := by
  rw [ByteArray.toList_eq]
  obtain ⟨⟨l⟩⟩ := t
  cases l with
  | nil => cases h
  | cons a l => rfl
theorem pcV_len (x : Pc) : (pcV x).length = 4 := rfl

set_option maxHeartbeats 4000000 in
set_option maxRecDepth 100000 in
theorem names_any (M : List Pc) (A : Option Addr) (c n : Nat) (w : World) (B : Nat) (hr : Reads w B 4 A n (rowsP M)) (hB : B ≤ w.heap.size) (hn : n = M.length) (hl : n ≤ 40) :
    Calls Tryd.prog 32 #[.slice A n c] w fun e w' => ∃ A' m c', e = .returned (.slice A' m c') ∧ m ≤ 40 ∧ Below w.heap.size w w' := by
  obtain ⟨i0, hi, hz0, hz1, hz2⟩ := info_parts str_info
  have HR := Lib.hid hr
  have HN := Lib.hid hn
  clear hr hn
  go_enter Tryd.func32, Tryd.ntmps32
  go_wp2_with fail
  go_loopg [3, 8] n (fun gg s3 s8 wr => ∃ (k m : Nat) (xs : List Value), k + gg = n ∧ s8 = .int .i64 (k : Int) ∧ m ≤ k ∧ wr.ownsRow w.heap.size 9 1 s3 m xs ∧ Below w.heap.size w wr)
  case atStart => exact ⟨0, 0, [], by omega, rfl, Nat.le_refl _, World.ownsRow_nil _ _ _ _, Below.refl _ _⟩
  case round =>
    obtain ⟨k, m, xs, hkg, rfl, hmk, hown, hbel⟩ := hrel
    by_cases hk : k < n
    · obtain ⟨x, hkM⟩ : ∃ x, M[k]? = some x := ⟨_, List.getElem?_eq_getElem (by have := HN.out; omega)⟩
      obtain ⟨b, off, rfl, hbB, hc⟩ := Reads.plain_at (by decide) pcV_len HR.out HN.out hkM
      have hbw : b < w.heap.size := by omega
      have c0 := (hbel.cell (p := ⟨b, off + k * 4, none⟩) hbw).trans (hc 0 _ rfl)
      have c1 := (hbel.cell (p := ⟨b, off + k * 4 + 1, none⟩) hbw).trans (hc 1 _ rfl)
      have c2 := (hbel.cell (p := ⟨b, off + k * 4 + 2, none⟩) hbw).trans (hc 2 _ rfl)
      have c3 := (hbel.cell (p := ⟨b, off + k * 4 + 3, none⟩) hbw).trans (hc 3 _ rfl)
      have i0' : (0 : Int) ≤ (k : Int) := by omega
      have i1 : (k : Int) < (n : Int) := by omega
      have hzz := hbel.size
      have HB := Lib.hid hbel
      clear hc hkM hbel
      by_cases he : x.field.size = 0
      · have e1 : x.field = ⟨#[]⟩ := empty_of he
        rw [e1] at c1
        go_wp2_with fail
        go_roundg (n - (k + 1))
        case measure => omega
        case rel => exact ⟨k + 1, m, xs, by omega, by go_num, by omega, hown.alloc _, HB.out.alloc hzz _⟩
      · have e1 : x.field.toList.isEmpty = false := notEmpty_of (by omega)
        go_wp2_with (at_builtin; refine wpList_append_own_at _ rfl _ _ 32 rfl w.heap.size 9 i0 (.string ⟨#[]⟩) 1 16 Tryd.underlying32 hi hz0 hz1 hz2 rfl (by decide) _ m _ rfl ((hown.alloc _).alloc _) ⟨wr.heap.size + 1, 0, none⟩ 1 1 [.string x.field] rfl rfl (new_cells _ _ [.string x.field] _ (by simp)) (by intro u hu; simp at hu; subst hu; rfl) (by unfold maxLen; omega) (by omega) (by simp; omega) ?_; intro v7 w7 hown7 hg7 _ _)
        have hlt := hown.lt
        have HB7 : Hid (Below w.heap.size w w7) := ((HB.out.alloc hzz _).alloc (by simp; omega) _).grown hg7 (by simp; omega) (fun g h => (hlt g h).1)
        clear hg7 hown hlt
        go_wp2_with fail
        go_roundg (n - (k + 1))
        case measure => omega
        case rel => exact ⟨k + 1, m + 1, _, by omega, by go_num, by omega, hown7, HB7.out⟩
    · have i1 : ¬ (k : Int) < (n : Int) := by omega
      go_wp2_with fail
      go_ret
      obtain ⟨A', c', rfl, _⟩ := own_reads hown
      have hm40 : m ≤ 40 := by omega
      exact ⟨A', m, ⟨c', rfl⟩, hm40, hbel⟩

/-- what a template is read as -/
def ReadP (T : List Seg) (z s : ByteArray) (w : World) (e : Ending) (w' : World) : Prop :=
  Below w.heap.size w w' ∧ ((400000 < s.size ∧ e = .returned (.tuple #[.slice none 0 0, .int .i64 0, .int .i64 4])) ∨
    (s.size ≤ 400000 ∧ ∃ A c, e = .returned (.tuple #[.slice A (pcs T z).length c, .int .i64 0, .int .i64 0]) ∧ Reads w' w'.heap.size 4 A (pcs T z).length (rowsP (pcs T z))))

set_option maxHeartbeats 2000000 in
set_option maxRecDepth 100000 in
theorem readTemplate_any (T : List Seg) (z s : ByteArray) (w : World) (hs : s.size ≤ 4294967280) (hT : T.length ≤ 8) (he : s = tpl T z) (hok : ∀ x ∈ T, okS x) (hz : okZ z) :
    Calls Tryd.prog 12 #[.string s] w (ReadP T z s w) := by
  have HP := Lib.hid (fun w1 => pieces_any T z s w1 hs (by omega) he hok hz)
  have hlen : (pcs T z).length ≤ 40 := by rw [pcs_len]; omega
  clear he hok hz
  by_cases hbig : 400000 < s.size
  · have h1 : (400000 : Int) < (s.size : Int) := by omega
    clear HP
    go_enter Tryd.func12, Tryd.ntmps12
    go_wp2_with fail
    go_ret3
    exact ⟨Below.refl _ _, .inl ⟨hbig, rfl⟩⟩
  · have h1 : ¬ (400000 : Int) < (s.size : Int) := by omega
    have hsz : s.size ≤ 400000 := by omega
    clear hbig
    go_enter Tryd.func12, Tryd.ntmps12
    go_wp2_with fail
    refine (HP.out _).mono ?_
    rintro e w1 ⟨v, rfl, hown, hb1⟩
    obtain ⟨A, c, rfl, hr⟩ := own_reads hown
    obtain ⟨n, hn⟩ : ∃ n, n = (pcs T z).length := ⟨_, rfl⟩
    rw [← hn] at hr hlen
    have HR := Lib.hid hr
    have HN := Lib.hid hn
    have HB := Lib.hid hb1
    rw [← hn]
    clear hown hr hb1 hn HP
    go_wp2_with fail
    refine (names_any _ A c n _ w1.heap.size HR.out (Nat.le_refl _) HN.out hlen).mono ?_
    rintro e w2 ⟨A', m, c', rfl, hm, hb2⟩
    have h2 : ¬ (40 : Int) < (m : Int) := by omega
    have HB2 := Lib.hid hb2
    clear hb2
    go_wp2_with fail
    go_ret3
    refine ⟨HB.out.trans (HB2.out.mono HB.out.size), .inr ⟨hsz, A, c, ?_, ?_⟩⟩
    · rw [← HN.out]; rfl
    · rw [← HN.out]; exact (HR.out.below HB2.out).more HB2.out.size
end Go.Proofs.YtghadhdmbcigpaaDoor
