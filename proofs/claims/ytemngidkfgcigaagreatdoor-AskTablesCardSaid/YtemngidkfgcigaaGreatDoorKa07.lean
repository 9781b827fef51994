/-
  DERIVED. Same values: the plain law; a value as an aggregate. Conditions: none.
  Properties in a row; a property, a block as an aggregate. Conditions: none.
  Where a block with an id is in a base: the walks of florref1.at, tree.index and slices.BinarySearchFunc. Conditions: sizes; ids that rise.
  The walks of tree.index and slices.BinarySearchFunc at blocks. Conditions: sizes; ids that rise within their bounds.
  Same properties, blocks, bases: the plain law. Conditions: none.
  By an AI agent.
-/
import Derived.Test.YtemngidkfgcigaaGreatDoorKa05
import Derived.Test.YtemngidkfgcigaaGreatDoorChecked
import Derived.Deep.LoopGhost
import Derived.Deep.DeepCutAuto
import Derived.Deep.QuietTactic
import Derived.BigQuiet
import Derived.IntWalk
namespace Go.Proofs.YtemngidkfgcigaaGreatDoor
open Go.RowKit

mutual
/-- the same value -/
def sameV : Vl → Vl → Bool
  | .mk k i t s l, .mk k' i' t' s' l' => (k == k') && (i == i') && (t == t') && decide (s = s') && sameL l l'
def sameL : List Vl → List Vl → Bool
  | [], [] => true
  | a :: l, b :: m => sameV a b && sameL l m
  | _, _ => false
end
theorem sameL_len : ∀ {l m : List Vl}, sameL l m = true → l.length = m.length
  | [], [], _ => rfl
  | a :: l, b :: m, h => by
    rw [sameL, Bool.and_eq_true] at h
    simp only [List.length_cons, sameL_len h.2]
  | [], b :: m, h => by simp [sameL] at h
  | a :: l, [], h => by simp [sameL] at h
theorem sameL_at : ∀ {l m : List Vl} {k : Nat} {x y : Vl}, sameL l m = true → l[k]? = some x → m[k]? = some y → sameV x y = true
  | [], _, k, _, _, _, h1, _ => by simp at h1
  | _ :: _, [], k, _, _, _, _, h2 => by simp at h2
  | a :: l, b :: m, 0, x, y, h, h1, h2 => by
    rw [sameL, Bool.and_eq_true] at h
    obtain rfl : a = x := by simpa using h1
    obtain rfl : b = y := by simpa using h2
    exact h.1
  | a :: l, b :: m, k + 1, x, y, h, h1, h2 => by
    rw [sameL, Bool.and_eq_true] at h
    exact sameL_at h.2 (by simpa using h1) (by simpa using h2)
theorem sameL_of : ∀ {l m : List Vl}, l.length = m.length → (∀ (k : Nat) (x y : Vl), l[k]? = some x → m[k]? = some y → sameV x y = true) → sameL l m = true
  | [], [], _, _ => by rw [sameL]
  | a :: l, b :: m, h, H => by
    rw [sameL, Bool.and_eq_true]
    exact ⟨H 0 a b rfl rfl, sameL_of (by simpa using h) fun k x y h1 h2 => H (k + 1) x y (by rw [List.getElem?_cons_succ]; exact h1) (by rw [List.getElem?_cons_succ]; exact h2)⟩
  | [], b :: m, h, _ => by simp at h
  | a :: l, [], h, _ => by simp at h
mutual
theorem sameV_refl : ∀ a : Vl, sameV a a = true
  | .mk k i t s l => by rw [sameV, sameL_refl l, beq_self_eq_true, beq_self_eq_true, beq_self_eq_true, decide_eq_true (rfl : s = s)]; rfl
theorem sameL_refl : ∀ l : List Vl, sameL l l = true
  | [] => by rw [sameL]
  | a :: l => by rw [sameL, sameV_refl a, sameL_refl l]; rfl
end

theorem dec_toList (a b : ByteArray) : decide (a = b) = (a.toList == b.toList) := by
  cases h : a.toList == b.toList
  · refine decide_eq_false fun e => ?_
    rw [e, beq_self_eq_true] at h
    exact Bool.false_ne_true h.symm
  · have h := eq_of_beq h
    rw [ByteArray.toList_eq, ByteArray.toList_eq] at h
    exact decide_eq_true (by cases a with | mk x => cases b with | mk y => cases x; cases y; simp at h; rw [h])
/-- a value in memory, its items told apart -/
def AV (x : Vl × Value) : Value := .agg #[.int .i64 x.1.kind, .int .i64 x.1.int_, .int .i64 x.1.to_, .string x.1.text, x.2]

theorem RV.slice {w : World} {B : Nat} {v : Value} {l : List Vl} (h : RV w B v l) : ∃ A n c, v = .slice A n c := by
  obtain ⟨A, n, c, M, h1, h2, h3⟩ := h.open_
  exact ⟨A, n, c, h2⟩
end Go.Proofs.YtemngidkfgcigaaGreatDoor
namespace Go.Proofs.YtemngidkfgcigaaGreatDoor
open Go.RowKit

/-- a property in memory, its items told apart -/
def AP (x : Pr × Value) : Value := .agg #[.string x.1.name, .int .i64 x.1.val.kind, .int .i64 x.1.val.int_, .int .i64 x.1.val.to_, .string x.1.val.text, x.2]
/-- a block in memory, its kids and properties told apart -/
def AB (x : Bl × Value × Value) : Value := .agg #[.int .i64 x.1.id, .int .i64 x.1.parent, x.2.1, .string x.1.text, x.2.2]

section
variable {w : World} {B : Nat} {A : Option Addr} {n c : Nat}
theorem RPr.len {l : List Pr} (h : RPr w B (.slice A n c) l) : n = l.length ∧ n ≤ c ∧ n * 80 ≤ 140737488351232 := by
  obtain ⟨A', n', c', M, h1, e, h2, h3, _⟩ := h
  injection e with e1 e2 e3
  subst e2 e3
  exact ⟨by rw [h2, ← h1, List.length_map], h3⟩
/-- a property in a row -/
theorem RPr.at_ {l : List Pr} (h : RPr w B (.slice A n c) l) {k : Nat} {x : Pr} (hk : l[k]? = some x) : ∃ b off Av nv cv, A = some ⟨b, off, none⟩ ∧ b < B ∧ w.cell? ⟨b, off + k * 6, none⟩ = some (.string x.name) ∧ w.cell? ⟨b, off + k * 6 + 1, none⟩ = some (.int .i64 x.val.kind) ∧ w.cell? ⟨b, off + k * 6 + 2, none⟩ = some (.int .i64 x.val.int_) ∧ w.cell? ⟨b, off + k * 6 + 3, none⟩ = some (.int .i64 x.val.to_) ∧ w.cell? ⟨b, off + k * 6 + 4, none⟩ = some (.string x.val.text) ∧ w.cell? ⟨b, off + k * 6 + 5, none⟩ = some (.slice Av nv cv) ∧ RV w B (.slice Av nv cv) x.val.items := by
  obtain ⟨A', n', c', M, h1, e, h2, h3, h4, h5⟩ := h
  injection e with e1 e2 e3
  subst e1 e2 e3
  obtain ⟨y, hy, rfl⟩ : ∃ y, M[k]? = some y ∧ y.1 = x := by
    rw [← h1, List.getElem?_map, Option.map_eq_some_iff] at hk
    exact hk
  obtain ⟨b, off, e, hb, hc⟩ := h4.plain_at (by omega) prV_len h2 hy
  have k1 := h5 y (List.mem_of_getElem? hy)
  obtain ⟨⟨nm, ⟨kx, ix, tx, sx, lx⟩⟩, v⟩ := y
  obtain ⟨Av, nv, cv, rfl⟩ := k1.slice
  exact ⟨b, off, Av, nv, cv, e, hb, hc 0 _ rfl, hc 1 _ rfl, hc 2 _ rfl, hc 3 _ rfl, hc 4 _ rfl, hc 5 _ rfl, k1⟩
end
end Go.Proofs.YtemngidkfgcigaaGreatDoor
namespace Go.Proofs.YtemngidkfgcigaaGreatDoor
open Go.RowKit

/-- the place of the first block with an id, from a place on -/
def posFrom : List Bl → Int → Nat → Int
  | [], _, _ => -1
  | b :: l, id, k => if b.id = id then (k : Int) else posFrom l id (k + 1)
/-- the place of the first block with an id; -1: there is none -/
def posOf (l : List Bl) (id : Int) : Int := posFrom l id 0
theorem posFrom_at {l : List Bl} {k : Nat} {x : Bl} (h : l[k]? = some x) (id : Int) : posFrom (l.drop k) id k = if x.id = id then (k : Int) else posFrom (l.drop (k + 1)) id (k + 1) := by
  obtain ⟨hk, e⟩ := List.getElem?_eq_some_iff.1 h
  rw [List.drop_eq_getElem_cons hk, posFrom, e]
theorem posFrom_spec : ∀ (l : List Bl) (id : Int) (k : Nat), (posFrom l id k = -1 ∧ ∀ b ∈ l, b.id ≠ id) ∨ ∃ (i : Nat) (b : Bl), posFrom l id k = ((k + i : Nat) : Int) ∧ l[i]? = some b ∧ b.id = id ∧ ∀ (j : Nat) (c : Bl), j < i → l[j]? = some c → c.id ≠ id
  | [], id, k => .inl ⟨rfl, fun b hb => by cases hb⟩
  | b :: l, id, k => by
    rw [posFrom]
    by_cases h : b.id = id
    · rw [if_pos h]
      exact .inr ⟨0, b, rfl, rfl, h, fun j c hj => absurd hj (by omega)⟩
    · rw [if_neg h]
      rcases posFrom_spec l id (k + 1) with ⟨h1, h2⟩ | ⟨i, c, h1, h2, h3, h4⟩
      · exact .inl ⟨h1, fun x hx => by
          rcases List.mem_cons.1 hx with rfl | hx
          · exact h
          · exact h2 x hx⟩
      · refine .inr ⟨i + 1, c, by rw [h1]; congr 1; omega, h2, h3, fun j d hj hd => ?_⟩
        rcases j with _ | j
        · obtain rfl : b = d := by simpa using hd
          exact h
        · exact h4 j d (by omega) (by simpa using hd)
theorem posOf_spec (l : List Bl) (id : Int) : (posOf l id = -1 ∧ ∀ b ∈ l, b.id ≠ id) ∨ ∃ (i : Nat) (b : Bl), posOf l id = (i : Int) ∧ l[i]? = some b ∧ b.id = id ∧ ∀ (j : Nat) (c : Bl), j < i → l[j]? = some c → c.id ≠ id := by
  rcases posFrom_spec l id 0 with h | ⟨i, b, h1, h2⟩
  · exact .inl h
  · exact .inr ⟨i, b, by rw [posOf, h1]; congr 1; omega, h2⟩
/-- ids that rise, the first at 0 -/
def Rise (l : List Bl) : Prop := ∀ (i j : Nat) (x y : Bl), i < j → l[i]? = some x → l[j]? = some y → x.id < y.id
/-- ids within their bounds -/
def IdsIn (l : List Bl) : Prop := ∀ x ∈ l, 0 ≤ x.id ∧ x.id ≤ 1000000
theorem posOf_of {l : List Bl} (h : Rise l) {i : Nat} {b : Bl} (hb : l[i]? = some b) : posOf l b.id = (i : Int) := by
  rcases posOf_spec l b.id with ⟨_, h2⟩ | ⟨j, c, h1, h2, h3, h4⟩
  · exact absurd rfl (h2 b (List.mem_of_getElem? hb))
  · rcases Nat.lt_trichotomy i j with g | g | g
    · exact absurd rfl (h4 i b g hb)
    · rw [h1, g]
    · have := h j i c b g h2 hb
      omega

set_option maxHeartbeats 1000000 in
/-- the reference's at -/
theorem at_any (l : List Bl) (A : Option Addr) (n c : Nat) (id : Int) (w : World) (B : Nat) (hB : B ≤ w.heap.size) (h : RB w B (.slice A n c) l) :
    Calls Tryz.prog 27 #[.slice A n c, .int .i64 id] w fun e w' => e = .returned (.int .i64 (posOf l id)) ∧ Below w.heap.size w w' := by
  obtain ⟨V, hV⟩ : ∃ V, V = posOf l id := ⟨_, rfl⟩
  rw [← hV]
  have HV : Hid (V = posFrom (l.drop 0) id 0) := hV
  have HN := Lib.hid h.len
  have H := Lib.hid h
  clear h hV
  go_enter Tryz.func27, Tryz.ntmps27
  go_wp2_with fail
  go_loopg [9] n (fun gg s9 wr => ∃ k : Nat, k + gg = n ∧ s9 = .int .i64 (k : Int) ∧ Hid (V = posFrom (l.drop k) id k) ∧ Hid (Below w.heap.size w wr))
  case atStart => exact ⟨0, by omega, rfl, HV, Below.refl _ _⟩
  case round =>
    obtain ⟨k, hkg, rfl, hno, hbel⟩ := hrel
    have hbg : n * 80 ≤ 140737488351232 := HN.out.2.2
    by_cases hk : k < n
    · obtain ⟨x, hx⟩ : ∃ x, l[k]? = some x := ⟨_, List.getElem?_eq_getElem (by have := HN.out.1; omega)⟩
      obtain ⟨b, off, Ak, nk, ck, Ap, np, cp, rfl, hbb, g0, g1, g2, g3, g4, _, _⟩ := (H.out.below (hbel.out.mono hB)).at_ hx
      have hst := hno.out.trans (posFrom_at hx id)
      have j0 : (0 : Int) ≤ (k : Int) := by omega
      have j1 : (k : Int) < (n : Int) := by omega
      clear hx
      have HAL := Lib.hid (hbel.out.alloc hbel.out.size (.cells #[.int .i64 x.id, .int .i64 x.parent, .slice Ak nk ck, .string x.text, .slice Ap np cp] 35))
      by_cases he : x.id = id
      · have HV := Lib.hid (hst.trans (if_pos he))
        have he' : (x.id == id) = true := by simpa using he
        clear hst he
        go_wp2_with fail
        go_ret
        exact ⟨by rw [HV.out]; rfl, HAL.out⟩
      · have HV := Lib.hid (hst.trans (if_neg he))
        have he' : (x.id == id) = false := by simpa using he
        clear hst he
        go_wp2_with fail
        go_roundg (n - (k + 1))
        case measure => omega
        case rel => exact ⟨k + 1, by omega, by go_num, HV, HAL⟩
    · obtain rfl : k = n := by omega
      have HZ : Hid (V = -1) := hno.out.trans (by rw [List.drop_of_length_le (by rw [← HN.out.1]; exact Nat.le_refl _)]; rfl)
      go_wp2_with fail
      go_ret
      exact ⟨by rw [HZ.out]; rfl, hbel.out⟩
end Go.Proofs.YtemngidkfgcigaaGreatDoor
namespace Go.Proofs.YtemngidkfgcigaaGreatDoor
open Go.RowKit

/-- what the closure says: is the block's id ahead -/
def cmpI (a b : Int) : Int := wrap64 (a - b)
theorem cmpI_near {a b : Int} (ha : 0 ≤ a ∧ a ≤ 1000000) (hb : 0 ≤ b ∧ b ≤ 1000000) : cmpI a b = a - b := IntWalk.wrap64_in _ (by omega)
set_option maxHeartbeats 400000 in
theorem idx1_any (i p t : Int) (s : ByteArray) (Ak Ap : Option Addr) (nk ck np cp : Nat) (w : World) :
    Calls Tryz.prog 63 #[.agg #[.int .i64 i, .int .i64 p, .slice Ak nk ck, .string s, .slice Ap np cp], .int .i64 t] w fun e w' => e = .returned (.int .i64 (cmpI i t)) ∧ Below w.heap.size w w' := by
  unfold cmpI
  go_enter Tryz.func63, Tryz.ntmps63
  go_wp2_with fail
  go_ret
  exact ⟨rfl, (Below.refl _ _).alloc (Nat.le_refl _) _⟩

theorem cmpI_zero {a b : Int} (ha : 0 ≤ a ∧ a ≤ 1000000) (hb : I64 b) (h : cmpI a b = 0) : a = b := by
  unfold cmpI wrap64 at h
  unfold I64 at hb
  omega
theorem posOf_lt {l : List Bl} {id : Int} (h : 0 ≤ posOf l id) : posOf l id < (l.length : Int) ∧ ∃ b : Bl, l[(posOf l id).toNat]? = some b ∧ b.id = id := by
  rcases posOf_spec l id with ⟨h1, _⟩ | ⟨i, b, h1, h2, h3, _⟩
  · omega
  · have := (List.getElem?_eq_some_iff.1 h2).1
    exact ⟨by omega, b, by rw [h1]; exact h2, h3⟩
theorem posOf_has {l : List Bl} {k : Nat} {x : Bl} (hx : l[k]? = some x) : 0 ≤ posOf l x.id := by
  rcases posOf_spec l x.id with ⟨_, h2⟩ | ⟨i, b, h1, _⟩
  · exact absurd rfl (h2 x (List.mem_of_getElem? hx))
  · omega
/-- which half the search takes -/
theorem idx_half {l : List Bl} (hr : Rise l) (hi : IdsIn l) {id : Int} {k : Nat} {x : Bl} (hx : l[k]? = some x) (hp : 0 ≤ posOf l id) : (cmpI x.id id < 0 → ((k + 1 : Nat) : Int) ≤ posOf l id) ∧ (¬ cmpI x.id id < 0 → posOf l id ≤ (k : Int)) := by
  obtain ⟨h1, b, h2, h3⟩ := posOf_lt hp
  have hb := hi b (List.mem_of_getElem? h2)
  have ha := hi x (List.mem_of_getElem? hx)
  rw [h3] at hb
  rw [cmpI_near ha hb]
  rcases Nat.lt_trichotomy k (posOf l id).toNat with g | g | g
  · have := hr _ _ _ _ g hx h2
    exact ⟨fun _ => by omega, fun h => by omega⟩
  · rw [← g, hx] at h2
    obtain rfl := Option.some.inj h2
    exact ⟨fun h => by omega, fun _ => by omega⟩
  · have := hr _ _ _ _ g h2 hx
    exact ⟨fun h => by omega, fun h => by omega⟩

/-- what the search returns -/
def BinR (l : List Bl) (id : Int) (e : Ending) : Prop := ∃ i : Nat, e = .returned (.tuple #[.int .i64 i, .bool (decide (0 ≤ posOf l id))]) ∧ (0 ≤ posOf l id → (i : Int) = posOf l id)
set_option maxHeartbeats 1000000 in
theorem binS_any (l : List Bl) (A : Option Addr) (n c : Nat) (id : Int) (w : World) (B : Nat) (hB : B ≤ w.heap.size) (h : RB w B (.slice A n c) l) (hr : Rise l) (hi : IdsIn l) (hid : I64 id) :
    Calls Tryz.prog 62 #[.slice A n c, .int .i64 id, .func (.func 63) #[] #[]] w fun e w' => BinR l id e ∧ Below w.heap.size w w' := by
  have HN := Lib.hid h.len
  have H := Lib.hid h
  clear h
  go_enter Tryz.func62, Tryz.ntmps62
  go_wp2_with fail
  go_loopg [9, 10] n (fun gg s9 s10 wr => ∃ i j : Nat, i ≤ j ∧ j ≤ n ∧ j - i ≤ gg ∧ s9 = .int .i64 (i : Int) ∧ s10 = .int .i64 (j : Int) ∧ Hid (0 ≤ posOf l id → (i : Int) ≤ posOf l id ∧ posOf l id ≤ (j : Int)) ∧ Hid (Below w.heap.size w wr))
  case atStart => exact ⟨0, n, by omega, by omega, by omega, rfl, rfl, (fun h => ⟨h, by have := (posOf_lt h).1; have := HN.out.1; omega⟩), Below.refl _ _⟩
  case round =>
    obtain ⟨i, j, hij, hjn, hg, rfl, rfl, hno, hbel⟩ := hrel
    have hbg : n * 80 ≤ 140737488351232 := HN.out.2.2
    have HL : Hid (n = l.length) := HN.out.1
    by_cases hk : i < j
    · have j1 : (i : Int) < (j : Int) := by omega
      have j2 : (0 : Int) ≤ (i : Int) := by omega
      obtain ⟨q, hh, h1, h2⟩ : ∃ q : Nat, ((i : Int) + (j : Int)) / 2 = (q : Int) ∧ i ≤ q ∧ q < j := ⟨(i + j) / 2, by omega, by omega, by omega⟩
      obtain ⟨x, hx⟩ : ∃ x, l[q]? = some x := ⟨_, List.getElem?_eq_getElem (by have := HL.out; omega)⟩
      obtain ⟨b, off, Ak, nk, ck, Ap, np, cp, rfl, hbb, g0, g1, g2, g3, g4, _, _⟩ := (H.out.below (hbel.out.mono hB)).at_ hx
      have HF := Lib.hid fun hp => idx_half hr hi (id := id) hx hp
      have HI := Lib.hid fun W => idx1_any x.id x.parent id x.text Ak Ap nk ck np cp W
      have q0 : (0 : Int) ≤ (q : Int) := by omega
      have q1 : (q : Int) < (n : Int) := by omega
      clear hx
      obtain ⟨d, hd⟩ : ∃ d, d = cmpI x.id id := ⟨_, rfl⟩
      simp only [← hd] at HF HI
      clear hd
      by_cases hz : d < 0
      all_goals
        go_wp2_with fail
        refine (HI.out _).mono ?_
        rintro e w2 ⟨rfl, hb⟩
        have HB2 : Hid (Below w.heap.size w w2) := hbel.out.trans (hb.mono hbel.out.size)
        clear hb
        go_wp2_with fail
      · go_roundg (j - (q + 1))
        case measure => omega
        case rel => exact ⟨q + 1, j, by omega, by omega, by omega, by go_num, rfl, (fun hp => ⟨(HF.out hp).1 hz, (hno.out hp).2⟩), HB2⟩
      · go_roundg (q - i)
        case measure => omega
        case rel => exact ⟨i, q, by omega, by omega, by omega, rfl, rfl, (fun hp => ⟨(hno.out hp).1, (HF.out hp).2 hz⟩), HB2⟩
    · obtain rfl : i = j := by omega
      have HE : Hid (0 ≤ posOf l id → (i : Int) = posOf l id) := fun hp => by have := hno.out hp; omega
      clear hno
      by_cases hin : i < n
      · have q0 : (0 : Int) ≤ (i : Int) := by omega
        have q1 : (i : Int) < (n : Int) := by omega
        obtain ⟨x, hx⟩ : ∃ x, l[i]? = some x := ⟨_, List.getElem?_eq_getElem (by have := HL.out; omega)⟩
        obtain ⟨b, off, Ak, nk, ck, Ap, np, cp, rfl, hbb, g0, g1, g2, g3, g4, _, _⟩ := (H.out.below (hbel.out.mono hB)).at_ hx
        have HI := Lib.hid fun W => idx1_any x.id x.parent id x.text Ak Ap nk ck np cp W
        obtain ⟨z, hz⟩ : ∃ z, z = (cmpI x.id id == 0) := ⟨_, rfl⟩
        have HZ : Hid (z = decide (0 ≤ posOf l id)) := by
          show _ = _
          rw [hz, Bool.eq_iff_iff, decide_eq_true_iff, beq_iff_eq]
          constructor
          · intro h
            have e := cmpI_zero (hi x (List.mem_of_getElem? hx)) hid h
            rw [← e]
            exact posOf_has hx
          · intro h
            obtain ⟨_, y, hy, hyi⟩ := posOf_lt h
            have e := HE.out h
            rw [← e] at hy
            have : y = x := by
              have e2 : ((i : Int)).toNat = i := by omega
              rw [e2, hx] at hy
              exact (Option.some.inj hy).symm
            subst this
            rw [← hyi, cmpI_near (hi _ (List.mem_of_getElem? hx)) (hi _ (List.mem_of_getElem? hx))]
            omega
        obtain ⟨d, hd⟩ : ∃ d, d = cmpI x.id id := ⟨_, rfl⟩
        simp only [← hd] at hz HI
        have hz' := hz.symm
        clear hd hx hz
        go_wp2_with fail
        refine (HI.out _).mono ?_
        rintro e w2 ⟨rfl, hb⟩
        have HB2 : Hid (Below w.heap.size w w2) := hbel.out.trans (hb.mono hbel.out.size)
        clear hb
        go_wp2_with fail
        go_ret2
        exact ⟨⟨i, by rw [← HZ.out]; rfl, HE.out⟩, HB2.out⟩
      · have q1 : ¬ (i : Int) < (n : Int) := by omega
        have HZ : Hid (decide (0 ≤ posOf l id) = false) := by
          refine decide_eq_false fun hp => ?_
          have := (posOf_lt hp).1
          have := HE.out hp
          have := HL.out
          omega
        go_wp2_with fail
        go_ret2
        exact ⟨⟨i, by rw [HZ.out]; rfl, HE.out⟩, hbel.out⟩

set_option maxHeartbeats 1000000 in
/-- tree.index -/
theorem index_any (l : List Bl) (A : Option Addr) (n c : Nat) (id : Int) (w : World) (B : Nat) (hB : B ≤ w.heap.size) (h : RB w B (.slice A n c) l) (hr : Rise l) (hi : IdsIn l) (hid : I64 id) :
    Calls Tryz.prog 48 #[.slice A n c, .int .i64 id] w fun e w' => e = .returned (.int .i64 (posOf l id)) ∧ Below w.heap.size w w' := by
  have HB := Lib.hid (binS_any l A n c id w B hB h hr hi hid)
  obtain ⟨V, hV⟩ : ∃ V, V = posOf l id := ⟨_, rfl⟩
  have hways : V = -1 ∨ 0 ≤ V := by
    rw [hV]
    rcases posOf_spec l id with ⟨h1, _⟩ | ⟨i, b, h1, _⟩
    · exact .inl h1
    · exact .inr (by omega)
  unfold BinR at HB
  rw [← hV] at HB ⊢
  clear h hr hi hV
  go_enter Tryz.func48, Tryz.ntmps48
  go_wp2_with fail
  refine HB.out.mono ?_
  rintro e w1 ⟨⟨i, rfl, he⟩, hb⟩
  have HB1 := Lib.hid hb
  clear hb
  rcases hways with rfl | hp
  · clear he
    go_wp2_with fail
    go_ret
    exact ⟨rfl, HB1.out⟩
  · obtain rfl : (i : Int) = V := he hp
    clear he
    rw [decide_eq_true hp]
    go_wp2_with fail
    go_ret
    exact ⟨rfl, HB1.out⟩
end Go.Proofs.YtemngidkfgcigaaGreatDoor
namespace Go.Proofs.YtemngidkfgcigaaGreatDoor
open Go.RowKit

/-- two lists alike, element by element -/
def eqL {α β : Type} (f : α → β → Bool) : List α → List β → Bool
  | [], [] => true
  | a :: l, b :: m => f a b && eqL f l m
  | _, _ => false
section
variable {α β : Type} {f : α → β → Bool}
theorem eqL_len : ∀ {l : List α} {m : List β}, eqL f l m = true → l.length = m.length
  | [], [], _ => rfl
  | a :: l, b :: m, h => by
    rw [eqL, Bool.and_eq_true] at h
    simp only [List.length_cons, eqL_len h.2]
  | [], b :: m, h => by simp [eqL] at h
  | a :: l, [], h => by simp [eqL] at h
theorem eqL_at : ∀ {l : List α} {m : List β} {k : Nat} {x : α} {y : β}, eqL f l m = true → l[k]? = some x → m[k]? = some y → f x y = true
  | [], _, k, _, _, _, h1, _ => by simp at h1
  | _ :: _, [], k, _, _, _, _, h2 => by simp at h2
  | a :: l, b :: m, 0, x, y, h, h1, h2 => by
    rw [eqL, Bool.and_eq_true] at h
    obtain rfl : a = x := by simpa using h1
    obtain rfl : b = y := by simpa using h2
    exact h.1
  | a :: l, b :: m, k + 1, x, y, h, h1, h2 => by
    rw [eqL, Bool.and_eq_true] at h
    exact eqL_at h.2 (by simpa using h1) (by simpa using h2)
theorem eqL_of : ∀ {l : List α} {m : List β}, l.length = m.length → (∀ (k : Nat) (x : α) (y : β), l[k]? = some x → m[k]? = some y → f x y = true) → eqL f l m = true
  | [], [], _, _ => by rw [eqL]
  | a :: l, b :: m, h, H => by
    rw [eqL, Bool.and_eq_true]
    exact ⟨H 0 a b rfl rfl, eqL_of (by simpa using h) fun k x y h1 h2 => H (k + 1) x y (by rw [List.getElem?_cons_succ]; exact h1) (by rw [List.getElem?_cons_succ]; exact h2)⟩
  | [], b :: m, h, _ => by simp at h
  | a :: l, [], h, _ => by simp at h
end
end Go.Proofs.YtemngidkfgcigaaGreatDoor
