/-
  DERIVED. The walks of tree.index and slices.BinarySearchFunc at blocks. Conditions: sizes; ids that rise within their bounds. By an AI agent.
-/
import Derived.Test.YtbkhnfdfdgdfkaaBsPos
namespace Go.Proofs.Ytbkhnfdfdgdfkaa
open Go.RowKit

/-- what the closure says: is the block's id ahead -/
def cmpI (a b : Int) : Int := wrap64 (a - b)
theorem cmpI_near {a b : Int} (ha : 0 ≤ a ∧ a ≤ 1000000) (hb : 0 ≤ b ∧ b ≤ 1000000) : cmpI a b = a - b := IntWalk.wrap64_in _ (by omega)
set_option maxHeartbeats 400000 in
theorem idx1_any (i p t : Int) (s : ByteArray) (Ak Ap : Option Addr) (nk ck np cp : Nat) (w : World) :
    Calls Try.prog 62 #[.agg #[.int .i64 i, .int .i64 p, .slice Ak nk ck, .string s, .slice Ap np cp], .int .i64 t] w fun e w' => e = .returned (.int .i64 (cmpI i t)) ∧ Below w.heap.size w w' := by
  unfold cmpI
  go_enter Try.func62, Try.ntmps62
  go_wp2_with fail
  go_ret
  exact ⟨rfl, (Below.refl _ _).alloc (Nat.le_refl _) _⟩

theorem cmpI_zero {a b : Int} (ha : 0 ≤ a ∧ a ≤ 1000000) (hb : I64 b) (h : cmpI a b = 0) : a = b := by
  unfold cmpI wrap64 at h
  unfold I64 at hb
  omega
theorem posOf_lt {l : List Bl} {id : Int} (h : 0 ≤ posOf l id) : posOf l id < (l.length : Int) ∧ ∃ b : Bl, l[(posOf l id).toNat]? = some b ∧ b.id = id := by
  rcases posOf_spec l id with ⟨h1, _⟩ | ⟨i, b, h1, h2, h3, _⟩
  · omega
  · have := (List.getElem?_eq_some_iff.1 h2).1
    exact ⟨by omega, b, by rw [h1]; exact h2, h3⟩
theorem posOf_has {l : List Bl} {k : Nat} {x : Bl} (hx : l[k]? = some x) : 0 ≤ posOf l x.id := by
  rcases posOf_spec l x.id with ⟨_, h2⟩ | ⟨i, b, h1, _⟩
  · exact absurd rfl (h2 x (List.mem_of_getElem? hx))
  · omega
/-- which half the search takes -/
theorem idx_half {l : List Bl} (hr : Rise l) (hi : IdsIn l) {id : Int} {k : Nat} {x : Bl} (hx : l[k]? = some x) (hp : 0 ≤ posOf l id) : (cmpI x.id id < 0 → ((k + 1 : Nat) : Int) ≤ posOf l id) ∧ (¬ cmpI x.id id < 0 → posOf l id ≤ (k : Int)) := by
  obtain ⟨h1, b, h2, h3⟩ := posOf_lt hp
  have hb := hi b (List.mem_of_getElem? h2)
  have ha := hi x (List.mem_of_getElem? hx)
  rw [h3] at hb
  rw [cmpI_near ha hb]
  rcases Nat.lt_trichotomy k (posOf l id).toNat with g | g | g
  · have := hr _ _ _ _ g hx h2
    exact ⟨fun _ => by omega, fun h => by omega⟩
  · rw [← g, hx] at h2
    obtain rfl := Option.some.inj h2
    exact ⟨fun h => by omega, fun _ => by omega⟩
  · have := hr _ _ _ _ g h2 hx
    exact ⟨fun h => by omega, fun h => by omega⟩

/-- what the search returns -/
def BinR (l : List Bl) (id : Int) (e : Ending) : Prop := ∃ i : Nat, e = .returned (.tuple #[.int .i64 i, .bool (decide (0 ≤ posOf l id))]) ∧ (0 ≤ posOf l id → (i : Int) = posOf l id)
set_option maxHeartbeats 1000000 in
theorem binS_any (l : List Bl) (A : Option Addr) (n c : Nat) (id : Int) (w : World) (B : Nat) (hB : B ≤ w.heap.size) (h : RB w B (.slice A n c) l) (hr : Rise l) (hi : IdsIn l) (hid : I64 id) :
    Calls Try.prog 61 #[.slice A n c, .int .i64 id, .func (.func 62) #[] #[]] w fun e w' => BinR l id e ∧ Below w.heap.size w w' := by
  have HN := Lib.hid h.len
  have H := Lib.hid h
  clear h
  go_enter Try.func61, Try.ntmps61
  go_wp2_with fail
  go_loopg [9, 10] n (fun gg s9 s10 wr => ∃ i j : Nat, i ≤ j ∧ j ≤ n ∧ j - i ≤ gg ∧ s9 = .int .i64 (i : Int) ∧ s10 = .int .i64 (j : Int) ∧ Hid (0 ≤ posOf l id → (i : Int) ≤ posOf l id ∧ posOf l id ≤ (j : Int)) ∧ Hid (Below w.heap.size w wr))
  case atStart => exact ⟨0, n, by omega, by omega, by omega, rfl, rfl, (fun h => ⟨h, by have := (posOf_lt h).1; have := HN.out.1; omega⟩), Below.refl _ _⟩
  case round =>
    obtain ⟨i, j, hij, hjn, hg, rfl, rfl, hno, hbel⟩ := hrel
    have hbg : n * 80 ≤ 140737488351232 := HN.out.2.2
    have HL : Hid (n = l.length) := HN.out.1
    by_cases hk : i < j
    · have j1 : (i : Int) < (j : Int) := by omega
      have j2 : (0 : Int) ≤ (i : Int) := by omega
      obtain ⟨q, hh, h1, h2⟩ : ∃ q : Nat, ((i : Int) + (j : Int)) / 2 = (q : Int) ∧ i ≤ q ∧ q < j := ⟨(i + j) / 2, by omega, by omega, by omega⟩
      obtain ⟨x, hx⟩ : ∃ x, l[q]? = some x := ⟨_, List.getElem?_eq_getElem (by have := HL.out; omega)⟩
      obtain ⟨b, off, Ak, nk, ck, Ap, np, cp, rfl, hbb, g0, g1, g2, g3, g4, _, _⟩ := (H.out.below (hbel.out.mono hB)).at_ hx
      have HF := Lib.hid fun hp => idx_half hr hi (id := id) hx hp
      have HI := Lib.hid fun W => idx1_any x.id x.parent id x.text Ak Ap nk ck np cp W
      have q0 : (0 : Int) ≤ (q : Int) := by omega
      have q1 : (q : Int) < (n : Int) := by omega
      clear hx
      obtain ⟨d, hd⟩ : ∃ d, d = cmpI x.id id := ⟨_, rfl⟩
      simp only [← hd] at HF HI
      clear hd
      by_cases hz : d < 0
      all_goals
        go_wp2_with fail
        refine (HI.out _).mono ?_
        rintro e w2 ⟨rfl, hb⟩
        have HB2 : Hid (Below w.heap.size w w2) := hbel.out.trans (hb.mono hbel.out.size)
        clear hb
        go_wp2_with fail
      · go_roundg (j - (q + 1))
        case measure => omega
        case rel => exact ⟨q + 1, j, by omega, by omega, by omega, by go_num, rfl, (fun hp => ⟨(HF.out hp).1 hz, (hno.out hp).2⟩), HB2⟩
      · go_roundg (q - i)
        case measure => omega
        case rel => exact ⟨i, q, by omega, by omega, by omega, rfl, rfl, (fun hp => ⟨(hno.out hp).1, (HF.out hp).2 hz⟩), HB2⟩
    · obtain rfl : i = j := by omega
      have HE : Hid (0 ≤ posOf l id → (i : Int) = posOf l id) := fun hp => by have := hno.out hp; omega
      clear hno
      by_cases hin : i < n
      · have q0 : (0 : Int) ≤ (i : Int) := by omega
        have q1 : (i : Int) < (n : Int) := by omega
        obtain ⟨x, hx⟩ : ∃ x, l[i]? = some x := ⟨_, List.getElem?_eq_getElem (by have := HL.out; omega)⟩
        obtain ⟨b, off, Ak, nk, ck, Ap, np, cp, rfl, hbb, g0, g1, g2, g3, g4, _, _⟩ := (H.out.below (hbel.out.mono hB)).at_ hx
        have HI := Lib.hid fun W => idx1_any x.id x.parent id x.text Ak Ap nk ck np cp W
        obtain ⟨z, hz⟩ : ∃ z, z = (cmpI x.id id == 0) := ⟨_, rfl⟩
        have HZ : Hid (z = decide (0 ≤ posOf l id)) := by
          show _ = _
          rw [hz, Bool.eq_iff_iff, decide_eq_true_iff, beq_iff_eq]
          constructor
          · intro h
            have e := cmpI_zero (hi x (List.mem_of_getElem? hx)) hid h
            rw [← e]
            exact posOf_has hx
          · intro h
            obtain ⟨_, y, hy, hyi⟩ := posOf_lt h
            have e := HE.out h
            rw [← e] at hy
            have : y = x := by
              have e2 : ((i : Int)).toNat = i := by omega
              rw [e2, hx] at hy
              exact (Option.some.inj hy).symm
            subst this
            rw [← hyi, cmpI_near (hi _ (List.mem_of_getElem? hx)) (hi _ (List.mem_of_getElem? hx))]
            omega
        obtain ⟨d, hd⟩ : ∃ d, d = cmpI x.id id := ⟨_, rfl⟩
        simp only [← hd] at hz HI
        have hz' := hz.symm
        clear hd hx hz
        go_wp2_with fail
        refine (HI.out _).mono ?_
        rintro e w2 ⟨rfl, hb⟩
        have HB2 : Hid (Below w.heap.size w w2) := hbel.out.trans (hb.mono hbel.out.size)
        clear hb
        go_wp2_with fail
        go_ret2
        exact ⟨⟨i, by rw [← HZ.out]; rfl, HE.out⟩, HB2.out⟩
      · have q1 : ¬ (i : Int) < (n : Int) := by omega
        have HZ : Hid (decide (0 ≤ posOf l id) = false) := by
          refine decide_eq_false fun hp => ?_
          have := (posOf_lt hp).1
          have := HE.out hp
          have := HL.out
          omega
        go_wp2_with fail
        go_ret2
        exact ⟨⟨i, by rw [HZ.out]; rfl, HE.out⟩, hbel.out⟩

set_option maxHeartbeats 1000000 in
/-- tree.index -/
theorem index_any (l : List Bl) (A : Option Addr) (n c : Nat) (id : Int) (w : World) (B : Nat) (hB : B ≤ w.heap.size) (h : RB w B (.slice A n c) l) (hr : Rise l) (hi : IdsIn l) (hid : I64 id) :
    Calls Try.prog 52 #[.slice A n c, .int .i64 id] w fun e w' => e = .returned (.int .i64 (posOf l id)) ∧ Below w.heap.size w w' := by
  have HB := Lib.hid (binS_any l A n c id w B hB h hr hi hid)
  obtain ⟨V, hV⟩ : ∃ V, V = posOf l id := ⟨_, rfl⟩
  have hways : V = -1 ∨ 0 ≤ V := by
    rw [hV]
    rcases posOf_spec l id with ⟨h1, _⟩ | ⟨i, b, h1, _⟩
    · exact .inl h1
    · exact .inr (by omega)
  unfold BinR at HB
  rw [← hV] at HB ⊢
  clear h hr hi hV
  go_enter Try.func52, Try.ntmps52
  go_wp2_with fail
  refine HB.out.mono ?_
  rintro e w1 ⟨⟨i, rfl, he⟩, hb⟩
  have HB1 := Lib.hid hb
  clear hb
  rcases hways with rfl | hp
  · clear he
    go_wp2_with fail
    go_ret
    exact ⟨rfl, HB1.out⟩
  · obtain rfl : (i : Int) = V := he hp
    clear he
    rw [decide_eq_true hp]
    go_wp2_with fail
    go_ret
    exact ⟨rfl, HB1.out⟩
end Go.Proofs.Ytbkhnfdfdgdfkaa
