/-
  DERIVED. A base that came in: its blocks, numbers, properties and values in memory. Conditions: none.
  Where a block with an id is in a base: the walks of florref1.at, tree.index and slices.BinarySearchFunc. Conditions: sizes; ids that rise.
  The walks of tree.index and slices.BinarySearchFunc at blocks. Conditions: sizes; ids that rise within their bounds.
  Bytes that no text has: the plain law. Conditions: none.
  The walks of text.hasControl and florref1.below: is there a byte below 32, or 127. Conditions: the length is within the form's reach.
  The walk of text.Check. Conditions: a length in reach.
  The reference's walk beside hasControl. Conditions: a length in reach.
  The walk of prop.outside. Conditions: none.
  The walks of small functions of a base's check: inRange, the reference's TextError. Conditions: sizes.
  The walk of prop.CheckName. Conditions: sizes.
  Same values: the plain law; a value as an aggregate. Conditions: none.
  By an AI agent.
-/
import Derived.Test.YtmkicfjcgbfaaaaGreatTa01
import Derived.Test.YtmkicfjcgbfaaaaGreatChecked
import Derived.Deep.LoopGhost
import Derived.Deep.DeepCutAuto
import Derived.Deep.QuietTactic
import Derived.BigQuiet
import Derived.IntWalk
namespace Go.Proofs.YtmkicfjcgbfaaaaGreat
open Go.ChangeShapes Go.WideShapes Go.RowKit

theorem cellsB : Tryz.prog.cellsOf 38 = 5 := by kernel_rfl
theorem cells_of_ints : Tryz.prog.cellsOf 34 = 1 := by kernel_rfl

section
variable {H : Type} {enc : TypeId × Value → H} {W : World}
theorem ints_flat : ∀ M : List Int, M.map (Value.int .i64) = M.flatMap fun x => [Value.int .i64 x]
  | [] => rfl
  | x :: M => by rw [List.map_cons, List.flatMap_cons, ints_flat M]; rfl
set_option maxRecDepth 100000 in
theorem ints_open {fuel : Nat} {u : Value} {y : DataW H × List MemPlace} (h : DataW.trod enc Tryz.prog W 0 (fun _ => true) true fuel 34 [u] = some y) (hp : ∀ x ∈ y.2, x.block < W.heap.size) (hfit : Fits Tryz.prog 34 y.1) : ∃ ks, RIn W W.heap.size u ks := by
  obtain ⟨A, len, cap, M, rfl, h1, h2, h3, h4⟩ := open_list (en := fun x : Int => [Value.int .i64 x]) (Q := fun _ x => I64 x) Tryz.underlying34 cells_of_int (by omega) (show _ = 8 by kernel_rfl) (fun _ => rfl)
    (fun m cs z hm htr hz hft => by
      obtain ⟨k, e0, rfl, hk⟩ := DataW.trod_int Tryz.underlying3 htr
      exact ⟨k, e0.symm, i64_bounds hk⟩) h hp hfit
  exact ⟨M, A, len, cap, rfl, h1, h2, by rw [show M.map (Value.int .i64) = M.flatMap fun x => [Value.int .i64 x] from ints_flat M]; exact h3, fun x hx => by
    obtain ⟨m, _, hq⟩ := h4 x hx
    exact hq⟩

set_option maxRecDepth 100000 in
theorem block_open (fuel : Nat) (cs : List Value) (x : DataW H × List MemPlace)
    (h : DataW.trod enc Tryz.prog W 0 (fun _ => true) true fuel 38 cs = some x) (hp : ∀ y ∈ x.2, y.block < W.heap.size) (hfit : Fits Tryz.prog 38 x.1) : ∃ b : Bl × Value × Value, blV b = cs ∧ RIn W W.heap.size b.2.1 b.1.kids ∧ RPr W W.heap.size b.2.2 b.1.props := by
  obtain ⟨xs, n, rfl, rfl, hlen, hxl, hf⟩ := DataW.trod_struct Tryz.underlying38 h
  rw [cellsB] at hlen
  match cs, hlen with
  | [u0, u1, u2, u3, u4], _ =>
    match xs, hxl with
    | [y0, y1, y2, y3, y4], _ =>
      have g0 : DataW.trod enc Tryz.prog W 0 (fun _ => true) true n 3 (([u0, u1, u2, u3, u4].drop 0).take (Tryz.prog.cellsOf 3)) = some y0 := hf 0 _ rfl
      have g1 : DataW.trod enc Tryz.prog W 0 (fun _ => true) true n 3 (([u0, u1, u2, u3, u4].drop 1).take (Tryz.prog.cellsOf 3)) = some y1 := hf 1 _ rfl
      have g2 : DataW.trod enc Tryz.prog W 0 (fun _ => true) true n 34 (([u0, u1, u2, u3, u4].drop 2).take (Tryz.prog.cellsOf 34)) = some y2 := hf 2 _ rfl
      have g3 : DataW.trod enc Tryz.prog W 0 (fun _ => true) true n 9 (([u0, u1, u2, u3, u4].drop 3).take (Tryz.prog.cellsOf 9)) = some y3 := hf 3 _ rfl
      have g4 : DataW.trod enc Tryz.prog W 0 (fun _ => true) true n 36 (([u0, u1, u2, u3, u4].drop 4).take (Tryz.prog.cellsOf 36)) = some y4 := hf 4 _ rfl
      rw [cells_of_int] at g0 g1
      rw [cells_of_ints] at g2
      rw [cells_of_str] at g3
      rw [cells_of_props] at g4
      change DataW.trod enc Tryz.prog W 0 (fun _ => true) true n 3 [u0] = some y0 at g0
      change DataW.trod enc Tryz.prog W 0 (fun _ => true) true n 3 [u1] = some y1 at g1
      change DataW.trod enc Tryz.prog W 0 (fun _ => true) true n 34 [u2] = some y2 at g2
      change DataW.trod enc Tryz.prog W 0 (fun _ => true) true n 9 [u3] = some y3 at g3
      change DataW.trod enc Tryz.prog W 0 (fun _ => true) true n 36 [u4] = some y4 at g4
      obtain ⟨k, e0, rfl, _⟩ := DataW.trod_int Tryz.underlying3 g0
      obtain ⟨i, e1, rfl, _⟩ := DataW.trod_int Tryz.underlying3 g1
      obtain ⟨s, e3, rfl, _⟩ := DataW.trod_string Tryz.underlying9 g3
      simp at e0 e1 e3
      subst e0 e1 e3
      obtain ⟨ks, hk⟩ := ints_open g2 (fun y hy => hp y (by simp [hy])) (hfit.part Tryz.underlying38 (j := 2) rfl rfl)
      obtain ⟨ps, hq⟩ := props_open g4 (fun y hy => hp y (by simp [hy])) (hfit.part Tryz.underlying38 (j := 4) rfl rfl)
      exact ⟨(⟨k, i, ks, s, ps⟩, u2, u4), rfl, hk, hq⟩

set_option maxRecDepth 100000 in
/-- a base that came in -/
theorem base_open {u : Value} {d : DataW H} {p : List MemPlace} {r : Reach} {b0 : Nat} (hv : Value.okWide Tryz.prog W r b0 22 u) (h : DataW.Trod enc Tryz.prog W 0 (fun _ => true) true 22 u d p) (hp : ∀ x ∈ p, x.block < W.heap.size) (hfit : Fits Tryz.prog 22 d) :
    ∃ A n c, ∃ l, u = .slice A n c ∧ RB W W.heap.size u l := by
  obtain ⟨a0, n0, c0, rfl⟩ := okWide_slice Tryz.underlying22 hv
  obtain ⟨fuel, hf⟩ := h
  obtain ⟨A, len, cap, M, e, h1, h2, h3, h4⟩ := open_list (en := blV) (Q := fun _ x => RIn W W.heap.size x.2.1 x.1.kids ∧ RPr W W.heap.size x.2.2 x.1.props) Tryz.underlying22 cellsB (by omega) (show _ = 80 by kernel_rfl) blV_len
    (fun m cs z hm htr hz hft => block_open m cs z htr hz hft) hf hp hfit
  exact ⟨a0, n0, c0, M.map Prod.fst, rfl, A, len, cap, M, rfl, e, h1, h2, h3, fun x hx => by
    obtain ⟨m, _, hq⟩ := h4 x hx
    exact hq⟩
end
end Go.Proofs.YtmkicfjcgbfaaaaGreat
namespace Go.Proofs.YtmkicfjcgbfaaaaGreat
open Go.RowKit

/-- the place of the first block with an id, from a place on -/
def posFrom : List Bl → Int → Nat → Int
  | [], _, _ => -1
  | b :: l, id, k => if b.id = id then (k : Int) else posFrom l id (k + 1)
/-- the place of the first block with an id; -1: there is none -/
def posOf (l : List Bl) (id : Int) : Int := posFrom l id 0
theorem posFrom_at {l : List Bl} {k : Nat} {x : Bl} (h : l[k]? = some x) (id : Int) : posFrom (l.drop k) id k = if x.id = id then (k : Int) else posFrom (l.drop (k + 1)) id (k + 1) := by
  obtain ⟨hk, e⟩ := List.getElem?_eq_some_iff.1 h
  rw [List.drop_eq_getElem_cons hk, posFrom, e]
theorem posFrom_spec : ∀ (l : List Bl) (id : Int) (k : Nat), (posFrom l id k = -1 ∧ ∀ b ∈ l, b.id ≠ id) ∨ ∃ (i : Nat) (b : Bl), posFrom l id k = ((k + i : Nat) : Int) ∧ l[i]? = some b ∧ b.id = id ∧ ∀ (j : Nat) (c : Bl), j < i → l[j]? = some c → c.id ≠ id
  | [], id, k => .inl ⟨rfl, fun b hb => by cases hb⟩
  | b :: l, id, k => by
    rw [posFrom]
    by_cases h : b.id = id
    · rw [if_pos h]
      exact .inr ⟨0, b, rfl, rfl, h, fun j c hj => absurd hj (by omega)⟩
    · rw [if_neg h]
      rcases posFrom_spec l id (k + 1) with ⟨h1, h2⟩ | ⟨i, c, h1, h2, h3, h4⟩
      · exact .inl ⟨h1, fun x hx => by
          rcases List.mem_cons.1 hx with rfl | hx
          · exact h
          · exact h2 x hx⟩
      · refine .inr ⟨i + 1, c, by rw [h1]; congr 1; omega, h2, h3, fun j d hj hd => ?_⟩
        rcases j with _ | j
        · obtain rfl : b = d := by simpa using hd
          exact h
        · exact h4 j d (by omega) (by simpa using hd)
theorem posOf_spec (l : List Bl) (id : Int) : (posOf l id = -1 ∧ ∀ b ∈ l, b.id ≠ id) ∨ ∃ (i : Nat) (b : Bl), posOf l id = (i : Int) ∧ l[i]? = some b ∧ b.id = id ∧ ∀ (j : Nat) (c : Bl), j < i → l[j]? = some c → c.id ≠ id := by
  rcases posFrom_spec l id 0 with h | ⟨i, b, h1, h2⟩
  · exact .inl h
  · exact .inr ⟨i, b, by rw [posOf, h1]; congr 1; omega, h2⟩
/-- ids that rise, the first at 0 -/
def Rise (l : List Bl) : Prop := ∀ (i j : Nat) (x y : Bl), i < j → l[i]? = some x → l[j]? = some y → x.id < y.id
/-- ids within their bounds -/
def IdsIn (l : List Bl) : Prop := ∀ x ∈ l, 0 ≤ x.id ∧ x.id ≤ 1000000
theorem posOf_of {l : List Bl} (h : Rise l) {i : Nat} {b : Bl} (hb : l[i]? = some b) : posOf l b.id = (i : Int) := by
  rcases posOf_spec l b.id with ⟨_, h2⟩ | ⟨j, c, h1, h2, h3, h4⟩
  · exact absurd rfl (h2 b (List.mem_of_getElem? hb))
  · rcases Nat.lt_trichotomy i j with g | g | g
    · exact absurd rfl (h4 i b g hb)
    · rw [h1, g]
    · have := h j i c b g h2 hb
      omega

set_option maxHeartbeats 1000000 in
/-- the reference's at -/
theorem at_any (l : List Bl) (A : Option Addr) (n c : Nat) (id : Int) (w : World) (B : Nat) (hB : B ≤ w.heap.size) (h : RB w B (.slice A n c) l) :
    Calls Tryz.prog 71 #[.slice A n c, .int .i64 id] w fun e w' => e = .returned (.int .i64 (posOf l id)) ∧ Below w.heap.size w w' := by
  obtain ⟨V, hV⟩ : ∃ V, V = posOf l id := ⟨_, rfl⟩
  rw [← hV]
  have HV : Hid (V = posFrom (l.drop 0) id 0) := hV
  have HN := Lib.hid h.len
  have H := Lib.hid h
  clear h hV
  go_enter Tryz.func71, Tryz.ntmps71
  go_wp2_with fail
  go_loopg [9] n (fun gg s9 wr => ∃ k : Nat, k + gg = n ∧ s9 = .int .i64 (k : Int) ∧ Hid (V = posFrom (l.drop k) id k) ∧ Hid (Below w.heap.size w wr))
  case atStart => exact ⟨0, by omega, rfl, HV, Below.refl _ _⟩
  case round =>
    obtain ⟨k, hkg, rfl, hno, hbel⟩ := hrel
    have hbg : n * 80 ≤ 140737488351232 := HN.out.2.2
    by_cases hk : k < n
    · obtain ⟨x, hx⟩ : ∃ x, l[k]? = some x := ⟨_, List.getElem?_eq_getElem (by have := HN.out.1; omega)⟩
      obtain ⟨b, off, Ak, nk, ck, Ap, np, cp, rfl, hbb, g0, g1, g2, g3, g4, _, _⟩ := (H.out.below (hbel.out.mono hB)).at_ hx
      have hst := hno.out.trans (posFrom_at hx id)
      have j0 : (0 : Int) ≤ (k : Int) := by omega
      have j1 : (k : Int) < (n : Int) := by omega
      clear hx
      have HAL := Lib.hid (hbel.out.alloc hbel.out.size (.cells #[.int .i64 x.id, .int .i64 x.parent, .slice Ak nk ck, .string x.text, .slice Ap np cp] 38))
      by_cases he : x.id = id
      · have HV := Lib.hid (hst.trans (if_pos he))
        have he' : (x.id == id) = true := by simpa using he
        clear hst he
        go_wp2_with fail
        go_ret
        exact ⟨by rw [HV.out]; rfl, HAL.out⟩
      · have HV := Lib.hid (hst.trans (if_neg he))
        have he' : (x.id == id) = false := by simpa using he
        clear hst he
        go_wp2_with fail
        go_roundg (n - (k + 1))
        case measure => omega
        case rel => exact ⟨k + 1, by omega, by go_num, HV, HAL⟩
    · obtain rfl : k = n := by omega
      have HZ : Hid (V = -1) := hno.out.trans (by rw [List.drop_of_length_le (by rw [← HN.out.1]; exact Nat.le_refl _)]; rfl)
      go_wp2_with fail
      go_ret
      exact ⟨by rw [HZ.out]; rfl, hbel.out⟩
end Go.Proofs.YtmkicfjcgbfaaaaGreat
namespace Go.Proofs.YtmkicfjcgbfaaaaGreat
open Go.RowKit

/-- what the closure says: is the block's id ahead -/
def cmpI (a b : Int) : Int := wrap64 (a - b)
theorem cmpI_near {a b : Int} (ha : 0 ≤ a ∧ a ≤ 1000000) (hb : 0 ≤ b ∧ b ≤ 1000000) : cmpI a b = a - b := IntWalk.wrap64_in _ (by omega)
set_option maxHeartbeats 400000 in
theorem idx1_any (i p t : Int) (s : ByteArray) (Ak Ap : Option Addr) (nk ck np cp : Nat) (w : World) :
    Calls Tryz.prog 147 #[.agg #[.int .i64 i, .int .i64 p, .slice Ak nk ck, .string s, .slice Ap np cp], .int .i64 t] w fun e w' => e = .returned (.int .i64 (cmpI i t)) ∧ Below w.heap.size w w' := by
  unfold cmpI
  go_enter Tryz.func147, Tryz.ntmps147
  go_wp2_with fail
  go_ret
  exact ⟨rfl, (Below.refl _ _).alloc (Nat.le_refl _) _⟩

theorem cmpI_zero {a b : Int} (ha : 0 ≤ a ∧ a ≤ 1000000) (hb : I64 b) (h : cmpI a b = 0) : a = b := by
  unfold cmpI wrap64 at h
  unfold I64 at hb
  omega
theorem posOf_lt {l : List Bl} {id : Int} (h : 0 ≤ posOf l id) : posOf l id < (l.length : Int) ∧ ∃ b : Bl, l[(posOf l id).toNat]? = some b ∧ b.id = id := by
  rcases posOf_spec l id with ⟨h1, _⟩ | ⟨i, b, h1, h2, h3, _⟩
  · omega
  · have := (List.getElem?_eq_some_iff.1 h2).1
    exact ⟨by omega, b, by rw [h1]; exact h2, h3⟩
theorem posOf_has {l : List Bl} {k : Nat} {x : Bl} (hx : l[k]? = some x) : 0 ≤ posOf l x.id := by
  rcases posOf_spec l x.id with ⟨_, h2⟩ | ⟨i, b, h1, _⟩
  · exact absurd rfl (h2 x (List.mem_of_getElem? hx))
  · omega
/-- which half the search takes -/
theorem idx_half {l : List Bl} (hr : Rise l) (hi : IdsIn l) {id : Int} {k : Nat} {x : Bl} (hx : l[k]? = some x) (hp : 0 ≤ posOf l id) : (cmpI x.id id < 0 → ((k + 1 : Nat) : Int) ≤ posOf l id) ∧ (¬ cmpI x.id id < 0 → posOf l id ≤ (k : Int)) := by
  obtain ⟨h1, b, h2, h3⟩ := posOf_lt hp
  have hb := hi b (List.mem_of_getElem? h2)
  have ha := hi x (List.mem_of_getElem? hx)
  rw [h3] at hb
  rw [cmpI_near ha hb]
  rcases Nat.lt_trichotomy k (posOf l id).toNat with g | g | g
  · have := hr _ _ _ _ g hx h2
    exact ⟨fun _ => by omega, fun h => by omega⟩
  · rw [← g, hx] at h2
    obtain rfl := Option.some.inj h2
    exact ⟨fun h => by omega, fun _ => by omega⟩
  · have := hr _ _ _ _ g h2 hx
    exact ⟨fun h => by omega, fun h => by omega⟩

/-- what the search returns -/
def BinR (l : List Bl) (id : Int) (e : Ending) : Prop := ∃ i : Nat, e = .returned (.tuple #[.int .i64 i, .bool (decide (0 ≤ posOf l id))]) ∧ (0 ≤ posOf l id → (i : Int) = posOf l id)
set_option maxHeartbeats 1000000 in
theorem binS_any (l : List Bl) (A : Option Addr) (n c : Nat) (id : Int) (w : World) (B : Nat) (hB : B ≤ w.heap.size) (h : RB w B (.slice A n c) l) (hr : Rise l) (hi : IdsIn l) (hid : I64 id) :
    Calls Tryz.prog 126 #[.slice A n c, .int .i64 id, .func (.func 147) #[] #[]] w fun e w' => BinR l id e ∧ Below w.heap.size w w' := by
  have HN := Lib.hid h.len
  have H := Lib.hid h
  clear h
  go_enter Tryz.func126, Tryz.ntmps126
  go_wp2_with fail
  go_loopg [9, 10] n (fun gg s9 s10 wr => ∃ i j : Nat, i ≤ j ∧ j ≤ n ∧ j - i ≤ gg ∧ s9 = .int .i64 (i : Int) ∧ s10 = .int .i64 (j : Int) ∧ Hid (0 ≤ posOf l id → (i : Int) ≤ posOf l id ∧ posOf l id ≤ (j : Int)) ∧ Hid (Below w.heap.size w wr))
  case atStart => exact ⟨0, n, by omega, by omega, by omega, rfl, rfl, (fun h => ⟨h, by have := (posOf_lt h).1; have := HN.out.1; omega⟩), Below.refl _ _⟩
  case round =>
    obtain ⟨i, j, hij, hjn, hg, rfl, rfl, hno, hbel⟩ := hrel
    have hbg : n * 80 ≤ 140737488351232 := HN.out.2.2
    have HL : Hid (n = l.length) := HN.out.1
    by_cases hk : i < j
    · have j1 : (i : Int) < (j : Int) := by omega
      have j2 : (0 : Int) ≤ (i : Int) := by omega
      obtain ⟨q, hh, h1, h2⟩ : ∃ q : Nat, ((i : Int) + (j : Int)) / 2 = (q : Int) ∧ i ≤ q ∧ q < j := ⟨(i + j) / 2, by omega, by omega, by omega⟩
      obtain ⟨x, hx⟩ : ∃ x, l[q]? = some x := ⟨_, List.getElem?_eq_getElem (by have := HL.out; omega)⟩
      obtain ⟨b, off, Ak, nk, ck, Ap, np, cp, rfl, hbb, g0, g1, g2, g3, g4, _, _⟩ := (H.out.below (hbel.out.mono hB)).at_ hx
      have HF := Lib.hid fun hp => idx_half hr hi (id := id) hx hp
      have HI := Lib.hid fun W => idx1_any x.id x.parent id x.text Ak Ap nk ck np cp W
      have q0 : (0 : Int) ≤ (q : Int) := by omega
      have q1 : (q : Int) < (n : Int) := by omega
      clear hx
      obtain ⟨d, hd⟩ : ∃ d, d = cmpI x.id id := ⟨_, rfl⟩
      simp only [← hd] at HF HI
      clear hd
      by_cases hz : d < 0
      all_goals
        go_wp2_with fail
        refine (HI.out _).mono ?_
        rintro e w2 ⟨rfl, hb⟩
        have HB2 : Hid (Below w.heap.size w w2) := hbel.out.trans (hb.mono hbel.out.size)
        clear hb
        go_wp2_with fail
      · go_roundg (j - (q + 1))
        case measure => omega
        case rel => exact ⟨q + 1, j, by omega, by omega, by omega, by go_num, rfl, (fun hp => ⟨(HF.out hp).1 hz, (hno.out hp).2⟩), HB2⟩
      · go_roundg (q - i)
        case measure => omega
        case rel => exact ⟨i, q, by omega, by omega, by omega, rfl, rfl, (fun hp => ⟨(hno.out hp).1, (HF.out hp).2 hz⟩), HB2⟩
    · obtain rfl : i = j := by omega
      have HE : Hid (0 ≤ posOf l id → (i : Int) = posOf l id) := fun hp => by have := hno.out hp; omega
      clear hno
      by_cases hin : i < n
      · have q0 : (0 : Int) ≤ (i : Int) := by omega
        have q1 : (i : Int) < (n : Int) := by omega
        obtain ⟨x, hx⟩ : ∃ x, l[i]? = some x := ⟨_, List.getElem?_eq_getElem (by have := HL.out; omega)⟩
        obtain ⟨b, off, Ak, nk, ck, Ap, np, cp, rfl, hbb, g0, g1, g2, g3, g4, _, _⟩ := (H.out.below (hbel.out.mono hB)).at_ hx
        have HI := Lib.hid fun W => idx1_any x.id x.parent id x.text Ak Ap nk ck np cp W
        obtain ⟨z, hz⟩ : ∃ z, z = (cmpI x.id id == 0) := ⟨_, rfl⟩
        have HZ : Hid (z = decide (0 ≤ posOf l id)) := by
          show _ = _
          rw [hz, Bool.eq_iff_iff, decide_eq_true_iff, beq_iff_eq]
          constructor
          · intro h
            have e := cmpI_zero (hi x (List.mem_of_getElem? hx)) hid h
            rw [← e]
            exact posOf_has hx
          · intro h
            obtain ⟨_, y, hy, hyi⟩ := posOf_lt h
            have e := HE.out h
            rw [← e] at hy
            have : y = x := by
              have e2 : ((i : Int)).toNat = i := by omega
              rw [e2, hx] at hy
              exact (Option.some.inj hy).symm
            subst this
            rw [← hyi, cmpI_near (hi _ (List.mem_of_getElem? hx)) (hi _ (List.mem_of_getElem? hx))]
            omega
        obtain ⟨d, hd⟩ : ∃ d, d = cmpI x.id id := ⟨_, rfl⟩
        simp only [← hd] at hz HI
        have hz' := hz.symm
        clear hd hx hz
        go_wp2_with fail
        refine (HI.out _).mono ?_
        rintro e w2 ⟨rfl, hb⟩
        have HB2 : Hid (Below w.heap.size w w2) := hbel.out.trans (hb.mono hbel.out.size)
        clear hb
        go_wp2_with fail
        go_ret2
        exact ⟨⟨i, by rw [← HZ.out]; rfl, HE.out⟩, HB2.out⟩
      · have q1 : ¬ (i : Int) < (n : Int) := by omega
        have HZ : Hid (decide (0 ≤ posOf l id) = false) := by
          refine decide_eq_false fun hp => ?_
          have := (posOf_lt hp).1
          have := HE.out hp
          have := HL.out
          omega
        go_wp2_with fail
        go_ret2
        exact ⟨⟨i, by rw [HZ.out]; rfl, HE.out⟩, hbel.out⟩

set_option maxHeartbeats 1000000 in
/-- tree.index -/
theorem index_any (l : List Bl) (A : Option Addr) (n c : Nat) (id : Int) (w : World) (B : Nat) (hB : B ≤ w.heap.size) (h : RB w B (.slice A n c) l) (hr : Rise l) (hi : IdsIn l) (hid : I64 id) :
    Calls Tryz.prog 105 #[.slice A n c, .int .i64 id] w fun e w' => e = .returned (.int .i64 (posOf l id)) ∧ Below w.heap.size w w' := by
  have HB := Lib.hid (binS_any l A n c id w B hB h hr hi hid)
  obtain ⟨V, hV⟩ : ∃ V, V = posOf l id := ⟨_, rfl⟩
  have hways : V = -1 ∨ 0 ≤ V := by
    rw [hV]
    rcases posOf_spec l id with ⟨h1, _⟩ | ⟨i, b, h1, _⟩
    · exact .inl h1
    · exact .inr (by omega)
  unfold BinR at HB
  rw [← hV] at HB ⊢
  clear h hr hi hV
  go_enter Tryz.func105, Tryz.ntmps105
  go_wp2_with fail
  refine HB.out.mono ?_
  rintro e w1 ⟨⟨i, rfl, he⟩, hb⟩
  have HB1 := Lib.hid hb
  clear hb
  rcases hways with rfl | hp
  · clear he
    go_wp2_with fail
    go_ret
    exact ⟨rfl, HB1.out⟩
  · obtain rfl : (i : Int) = V := he hp
    clear he
    rw [decide_eq_true hp]
    go_wp2_with fail
    go_ret
    exact ⟨rfl, HB1.out⟩
end Go.Proofs.YtmkicfjcgbfaaaaGreat
namespace Go.Proofs.YtmkicfjcgbfaaaaGreat
open Go.RowKit

theorem ret_bool' {a b : Bool} (h : a = b) : Ending.returned (.bool a) = .returned (.bool b) := by rw [h]
/-- a byte that no text has -/
def ctlB (c : UInt8) : Bool := c.toNat < 32 || c.toNat == 127
def ctl (s : ByteArray) : Bool := s.data.toList.any ctlB
theorem ctl_yes (s : ByteArray) (k : Nat) (h : k < s.size) (hc : ctlB s[k] = true) : ctl s = true := by
  unfold ctl
  exact List.any_eq_true.2 ⟨s[k], by show s.data[k] ∈ _; simp, hc⟩
def ctlTo (s : ByteArray) (k : Nat) : Prop := ∀ j (h : j < s.size), j < k → ctlB s[j] = false
theorem ctl_no (s : ByteArray) (h : ctlTo s s.size) : ctl s = false := by
  unfold ctl
  rw [List.any_eq_false]
  intro c hc
  obtain ⟨j, hj, rfl⟩ := List.mem_iff_getElem.1 hc
  have hj' : j < s.size := by simpa using hj
  have := h j hj' hj'
  have e : s.data.toList[j] = s[j] := by simp; rfl
  rw [e, this]
  decide
theorem ctlTo_succ (s : ByteArray) (k : Nat) (hk : k < s.size) (h : ctlTo s k) (hc : ctlB s[k] = false) : ctlTo s (k + 1) := fun j hj hjk => by
  rcases Nat.lt_succ_iff_lt_or_eq.1 hjk with h1 | rfl
  · exact h j hj h1
  · exact hc
end Go.Proofs.YtmkicfjcgbfaaaaGreat
namespace Go.Proofs.YtmkicfjcgbfaaaaGreat
open Go.RowKit

theorem ctlB_low {c : UInt8} (h : (c.toNat : Int) < 32) : ctlB c = true := by unfold ctlB; simp; omega
theorem ctlB_del {c : UInt8} (h : ((c.toNat : Int) == 127) = true) : ctlB c = true := by unfold ctlB; simp at h ⊢; omega
theorem ctlB_not {c : UInt8} (h : (32 : Int) ≤ c.toNat) (h' : ((c.toNat : Int) == 127) = false) : ctlB c = false := by unfold ctlB; simp at h' ⊢; omega
theorem ctlB_ways (c : UInt8) : (c.toNat : Int) < 32 ∨ ((32 : Int) ≤ c.toNat ∧ ((c.toNat : Int) == 127) = true) ∨ ((32 : Int) ≤ c.toNat ∧ ((c.toNat : Int) == 127) = false) := by
  cases h : ((c.toNat : Int) == 127) <;> simp <;> omega

set_option maxHeartbeats 400000 in
theorem hasControl_any (s : ByteArray) (w : World) (hs : s.size ≤ 140737488351232) :
    Calls Tryz.prog 153 #[.string s] w fun e w' => e = .returned (.bool (ctl s)) ∧ w = w' := by
  go_enter Tryz.func153, Tryz.ntmps153
  go_wp2
  go_loop [6] (fun i => ∃ k : Nat, k ≤ s.size ∧ i = .int .i64 k ∧ ctlTo s k) (fun i => s.size - (intOf i).toNat)
  case atStart => exact ⟨0, Nat.zero_le _, rfl, fun j _ h => absurd h (by omega)⟩
  case round =>
    obtain ⟨k, hk, rfl, ht⟩ := hrel
    by_cases hlt : k < s.size
    · have H1 := Lib.hid (ctl_yes s k hlt)
      have H2 := Lib.hid (ctlTo_succ s k hlt ht)
      clear ht
      rcases ctlB_ways s[k] with g | ⟨g, g'⟩ | ⟨g, g'⟩
      · go_wp2
        go_ret
        exact ⟨ret_bool' (H1.out (ctlB_low g)).symm, rfl⟩
      · go_wp2
        go_ret
        exact ⟨ret_bool' (H1.out (ctlB_del g')).symm, rfl⟩
      · go_wp2
        go_round
        case rel => exact ⟨k + 1, by omega, by go_num, H2.out (ctlB_not g g')⟩
        case measure => simp [intOf]; omega
    · obtain rfl : k = s.size := by omega
      have H := Lib.hid (ctl_no s ht)
      clear ht
      go_wp2
      go_ret
      exact ⟨ret_bool' H.out.symm, rfl⟩

end Go.Proofs.YtmkicfjcgbfaaaaGreat
namespace Go.Proofs.YtmkicfjcgbfaaaaGreat
open Go.RowKit

def chkE (s : ByteArray) : Int := if 2000 < s.size then 4 else if ctl s = true then 9 else 0
set_option maxHeartbeats 400000 in
theorem check_any (s : ByteArray) (w : World) (hs : s.size ≤ 140737488351232) :
    Calls Tryz.prog 119 #[.string s] w fun e w' => e = .returned (.int .i64 (chkE s)) ∧ w = w' := by
  by_cases h : 2000 < s.size
  · have HV : Hid (chkE s = 4) := by show _ = _; unfold chkE; rw [if_pos h]
    have h' : (2000 : Int) < (s.size : Int) := by omega
    clear h
    go_enter Tryz.func119, Tryz.ntmps119
    go_wp2
    go_ret
    exact ⟨by rw [HV.out]; rfl, rfl⟩
  · have h' : ¬ (2000 : Int) < (s.size : Int) := by omega
    cases hc : ctl s
    · have HV : Hid (chkE s = 0) := by show _ = _; unfold chkE; rw [if_neg h, if_neg (by rw [hc]; decide)]
      clear h
      go_enter Tryz.func119, Tryz.ntmps119
      go_wp2_with fail
      refine (hasControl_any s _ hs).mono ?_
      rintro e w1 ⟨rfl, hw⟩
      rw [hc, ← hw]
      clear hw
      go_wp2
      go_ret
      exact ⟨by rw [HV.out]; rfl, rfl⟩
    · have HV : Hid (chkE s = 9) := by show _ = _; unfold chkE; rw [if_neg h, if_pos hc]
      clear h
      go_enter Tryz.func119, Tryz.ntmps119
      go_wp2_with fail
      refine (hasControl_any s _ hs).mono ?_
      rintro e w1 ⟨rfl, hw⟩
      rw [hc, ← hw]
      clear hw
      go_wp2
      go_ret
      exact ⟨by rw [HV.out]; rfl, rfl⟩
end Go.Proofs.YtmkicfjcgbfaaaaGreat
namespace Go.Proofs.YtmkicfjcgbfaaaaGreat
open Go.RowKit

set_option maxHeartbeats 400000 in
theorem below_any (s : ByteArray) (w : World) (hs : s.size ≤ 140737488351232) :
    Calls Tryz.prog 136 #[.string s] w fun e w' => e = .returned (.bool (ctl s)) ∧ w = w' := by
  go_enter Tryz.func136, Tryz.ntmps136
  go_wp2
  go_loop [3] (fun i => ∃ k : Nat, k ≤ s.size ∧ i = .int .i64 k ∧ ctlTo s k) (fun i => s.size - (intOf i).toNat)
  case atStart => exact ⟨0, Nat.zero_le _, rfl, fun j _ h => absurd h (by omega)⟩
  case round =>
    obtain ⟨k, hk, rfl, ht⟩ := hrel
    by_cases hlt : k < s.size
    · have H1 := Lib.hid (ctl_yes s k hlt)
      have H2 := Lib.hid (ctlTo_succ s k hlt ht)
      clear ht
      rcases ctlB_ways s[k] with g | ⟨g, g'⟩ | ⟨g, g'⟩
      · go_wp2
        go_ret
        exact ⟨ret_bool' (H1.out (ctlB_low g)).symm, rfl⟩
      · go_wp2
        go_ret
        exact ⟨ret_bool' (H1.out (ctlB_del g')).symm, rfl⟩
      · go_wp2
        go_round
        case rel => exact ⟨k + 1, by omega, by go_num, H2.out (ctlB_not g g')⟩
        case measure => simp [intOf]; omega
    · obtain rfl : k = s.size := by omega
      have H := Lib.hid (ctl_no s ht)
      clear ht
      go_wp2
      go_ret
      exact ⟨ret_bool' H.out.symm, rfl⟩

end Go.Proofs.YtmkicfjcgbfaaaaGreat
namespace Go.Proofs.YtmkicfjcgbfaaaaGreat
open Go.RowKit

/-- the error of a text -/
def txErr (s : ByteArray) : Int := if 2000 < s.size then 4 else if ctl s = true then 9 else 0

set_option maxHeartbeats 400000 in
theorem outsideP_any (n a b : Int) (w : World) :
    Calls Tryz.prog 137 #[.int .i64 n, .int .i64 a, .int .i64 b] w fun e w' => e = .returned (.bool (decide (n < a ∨ b < n))) ∧ w' = w := by
  by_cases h1 : n < a
  · rw [decide_eq_true (.inl h1)]
    go_enter Tryz.func137, Tryz.ntmps137
    go_wp2
    go_ret
    exact ⟨rfl, rfl⟩
  · by_cases h2 : b < n
    · rw [decide_eq_true (.inr h2)]
      go_enter Tryz.func137, Tryz.ntmps137
      go_wp2
      go_ret
      exact ⟨rfl, rfl⟩
    · rw [decide_eq_false (by omega)]
      go_enter Tryz.func137, Tryz.ntmps137
      go_wp2
      go_ret
      exact ⟨rfl, rfl⟩
end Go.Proofs.YtmkicfjcgbfaaaaGreat
namespace Go.Proofs.YtmkicfjcgbfaaaaGreat
open Go.RowKit

set_option maxHeartbeats 400000 in
theorem inRange_any (n a b : Int) (w : World) :
    Calls Tryz.prog 68 #[.int .i64 n, .int .i64 a, .int .i64 b] w fun e w' => e = .returned (.bool (decide (a ≤ n ∧ n ≤ b))) ∧ w' = w := by
  by_cases h1 : a ≤ n
  · by_cases h2 : n ≤ b
    · rw [decide_eq_true ⟨h1, h2⟩]
      go_enter Tryz.func68, Tryz.ntmps68
      go_wp2
      go_ret
      exact ⟨rfl, rfl⟩
    · rw [decide_eq_false (fun h => h2 h.2)]
      go_enter Tryz.func68, Tryz.ntmps68
      go_wp2
      go_ret
      exact ⟨rfl, rfl⟩
  · rw [decide_eq_false (fun h => h1 h.1)]
    go_enter Tryz.func68, Tryz.ntmps68
    go_wp2
    go_ret
    exact ⟨rfl, rfl⟩
set_option maxHeartbeats 400000 in
theorem textError_any (s : ByteArray) (w : World) :
    Calls Tryz.prog 69 #[.string s] w fun e w' => e = .returned (.int .i64 (txErr s)) ∧ w' = w := by
  by_cases h1 : 2000 < s.size
  · have hv : txErr s = 4 := if_pos h1
    rw [hv]
    have h1' : (2000 : Int) < (s.size : Int) := by omega
    clear hv
    go_enter Tryz.func69, Tryz.ntmps69
    go_wp2_with fail
    go_ret
    exact ⟨rfl, rfl⟩
  · have h1' : ¬ (2000 : Int) < (s.size : Int) := by omega
    have hv : txErr s = if ctl s = true then 9 else 0 := if_neg h1
    rw [hv]
    have HB := Lib.hid (below_any s w (by omega))
    obtain ⟨q, hq⟩ : ∃ q, q = ctl s := ⟨_, rfl⟩
    rw [← hq] at HB ⊢
    clear hv hq
    go_enter Tryz.func69, Tryz.ntmps69
    go_wp2_with fail
    refine HB.out.mono ?_
    rintro e w1 ⟨rfl, rfl⟩
    cases q
    · go_wp2_with fail
      go_ret
      exact ⟨rfl, rfl⟩
    · go_wp2_with fail
      go_ret
      exact ⟨rfl, rfl⟩
/-- text.Check, whatever the length -/
theorem checkT_any (s : ByteArray) (w : World) :
    Calls Tryz.prog 119 #[.string s] w fun e w' => e = .returned (.int .i64 (txErr s)) ∧ w' = w := by
  by_cases h : s.size ≤ 140737488351232
  · exact (check_any s w h).mono fun e w' ⟨h1, h2⟩ => ⟨h1, h2.symm⟩
  · have hv : txErr s = 4 := if_pos (by omega)
    rw [hv]
    have h' : (2000 : Int) < (s.size : Int) := by omega
    clear h hv
    go_enter Tryz.func119, Tryz.ntmps119
    go_wp2
    go_ret
    exact ⟨rfl, rfl⟩
end Go.Proofs.YtmkicfjcgbfaaaaGreat
namespace Go.Proofs.YtmkicfjcgbfaaaaGreat
open Go.RowKit

/-- a byte of a name -/
def nmB (c : UInt8) : Bool := ((97 ≤ c.toNat && c.toNat ≤ 122) || (48 ≤ c.toNat && c.toNat ≤ 57)) || c.toNat == 45
/-- a name's first byte -/
def nmA (c : UInt8) : Bool := 97 ≤ c.toNat && c.toNat ≤ 122
/-- is it a name -/
def nmOk (s : ByteArray) : Bool := decide (0 < s.size) && decide (s.size ≤ 20) && (s.data.toList.take 1).all nmA && s.data.toList.all nmB
/-- the error of a name -/
def nmErr (s : ByteArray) : Int := if nmOk s = true then 0 else 3
theorem nmErr_no {s : ByteArray} (h : nmOk s = false) : nmErr s = 3 := if_neg (by rw [h]; decide)
theorem nmErr_yes {s : ByteArray} (h : nmOk s = true) : nmErr s = 0 := if_pos h
def nmTo (s : ByteArray) (k : Nat) : Prop := ∀ j (h : j < s.size), j < k → nmB s[j] = true
theorem nm_bad (s : ByteArray) (k : Nat) (h : k < s.size) (hc : nmB s[k] = false) : nmOk s = false := by
  unfold nmOk
  rw [Bool.and_eq_false_iff]
  refine .inr (List.all_eq_false.2 ⟨s[k], by show s.data[k] ∈ _; simp, by rw [hc]; decide⟩)
theorem nm_all (s : ByteArray) (h : nmTo s s.size) : s.data.toList.all nmB = true := by
  rw [List.all_eq_true]
  intro c hc
  obtain ⟨j, hj, rfl⟩ := List.mem_iff_getElem.1 hc
  have hj' : j < s.size := by simpa using hj
  have := h j hj' hj'
  have e : s.data.toList[j] = s[j] := by simp; rfl
  rw [e, this]
theorem nmTo_succ (s : ByteArray) (k : Nat) (hk : k < s.size) (h : nmTo s k) (hc : nmB s[k] = true) : nmTo s (k + 1) := fun j hj hjk => by
  rcases Nat.lt_succ_iff_lt_or_eq.1 hjk with h1 | rfl
  · exact h j hj h1
  · exact hc
theorem nmB_ways (c : UInt8) : (((97 : Int) ≤ c.toNat ∧ (c.toNat : Int) ≤ 122) ∧ nmB c = true)
    ∨ ((¬ (97 : Int) ≤ c.toNat ∧ (48 : Int) ≤ c.toNat ∧ (c.toNat : Int) ≤ 57) ∧ nmB c = true)
    ∨ ((¬ (97 : Int) ≤ c.toNat ∧ ¬ (48 : Int) ≤ c.toNat ∧ ((c.toNat : Int) == 45) = true) ∧ nmB c = true)
    ∨ ((¬ (97 : Int) ≤ c.toNat ∧ ¬ (48 : Int) ≤ c.toNat ∧ ((c.toNat : Int) == 45) = false) ∧ nmB c = false)
    ∨ ((¬ (97 : Int) ≤ c.toNat ∧ (48 : Int) ≤ c.toNat ∧ ¬ (c.toNat : Int) ≤ 57 ∧ ((c.toNat : Int) == 45) = false) ∧ nmB c = false)
    ∨ (((97 : Int) ≤ c.toNat ∧ ¬ (c.toNat : Int) ≤ 122 ∧ (48 : Int) ≤ c.toNat ∧ ¬ (c.toNat : Int) ≤ 57 ∧ ((c.toNat : Int) == 45) = false) ∧ nmB c = false) := by
  have h := fun n : Nat => fun (hn : n < 256) => show (((97 : Int) ≤ n ∧ (n : Int) ≤ 122) ∧ (((97 ≤ n && n ≤ 122) || (48 ≤ n && n ≤ 57)) || n == 45) = true)
    ∨ ((¬ (97 : Int) ≤ n ∧ (48 : Int) ≤ n ∧ (n : Int) ≤ 57) ∧ (((97 ≤ n && n ≤ 122) || (48 ≤ n && n ≤ 57)) || n == 45) = true)
    ∨ ((¬ (97 : Int) ≤ n ∧ ¬ (48 : Int) ≤ n ∧ ((n : Int) == 45) = true) ∧ (((97 ≤ n && n ≤ 122) || (48 ≤ n && n ≤ 57)) || n == 45) = true)
    ∨ ((¬ (97 : Int) ≤ n ∧ ¬ (48 : Int) ≤ n ∧ ((n : Int) == 45) = false) ∧ (((97 ≤ n && n ≤ 122) || (48 ≤ n && n ≤ 57)) || n == 45) = false)
    ∨ ((¬ (97 : Int) ≤ n ∧ (48 : Int) ≤ n ∧ ¬ (n : Int) ≤ 57 ∧ ((n : Int) == 45) = false) ∧ (((97 ≤ n && n ≤ 122) || (48 ≤ n && n ≤ 57)) || n == 45) = false)
    ∨ (((97 : Int) ≤ n ∧ ¬ (n : Int) ≤ 122 ∧ (48 : Int) ≤ n ∧ ¬ (n : Int) ≤ 57 ∧ ((n : Int) == 45) = false) ∧ (((97 ≤ n && n ≤ 122) || (48 ≤ n && n ≤ 57)) || n == 45) = false) from by
      simp only [beq_iff_eq, beq_eq_false_iff_ne, Bool.or_eq_true, Bool.and_eq_true, decide_eq_true_eq, Bool.or_eq_false_iff, Bool.and_eq_false_iff, decide_eq_false_iff_not]
      omega
  exact h c.toNat c.toNat_lt

set_option maxHeartbeats 1000000 in
theorem checkName_any (s : ByteArray) (w : World) :
    Calls Tryz.prog 80 #[.string s] w fun e w' => e = .returned (.int .i64 (nmErr s)) ∧ w' = w := by
  by_cases h0 : s.size = 0
  · obtain rfl : s = ⟨#[]⟩ := by cases s with | mk d => rw [show d = #[] from Array.eq_empty_of_size_eq_zero h0]
    clear h0
    go_enter Tryz.func80, Tryz.ntmps80
    go_wp2_with fail
    go_ret
    exact ⟨rfl, rfl⟩
  have hne : s.toList.isEmpty = false := by
    rw [ByteArray.toList_eq, List.isEmpty_eq_false_iff]
    intro e
    have := congrArg List.length e
    simp at this
    exact h0 (by show s.data.size = 0; rw [this]; rfl)
  by_cases h1 : 20 < s.size
  · have hv : nmErr s = 3 := by
      unfold nmErr nmOk
      rw [decide_eq_false (by omega : ¬ s.size ≤ 20)]
      simp
    rw [hv]
    have h1' : (20 : Int) < (s.size : Int) := by omega
    clear hv
    go_enter Tryz.func80, Tryz.ntmps80
    go_wp2_with fail
    go_ret
    exact ⟨rfl, rfl⟩
  have h1' : ¬ (20 : Int) < (s.size : Int) := by omega
  have hz : 0 < s.size := by omega
  have hz' : (0 : Int) < (s.size : Int) := by omega
  have ht : s.data.toList.take 1 = [s[0]] := by
    cases s with | mk d => cases d with | mk l => cases l with
      | nil => exact absurd rfl h0
      | cons a l => rfl
  by_cases ha : (s[0].toNat : Int) < 97
  · have hv : nmErr s = 3 := nmErr_no (by
      unfold nmOk nmA
      rw [ht]
      simp only [List.all_cons, List.all_nil]
      rw [decide_eq_false (by omega : ¬ 97 ≤ s[0].toNat)]
      simp)
    rw [hv]
    clear hv ht
    go_enter Tryz.func80, Tryz.ntmps80
    go_wp2_with fail
    go_ret
    exact ⟨rfl, rfl⟩
  by_cases hb : (122 : Int) < (s[0].toNat : Int)
  · have hv : nmErr s = 3 := nmErr_no (by
      unfold nmOk nmA
      rw [ht]
      simp only [List.all_cons, List.all_nil]
      rw [decide_eq_false (by omega : ¬ s[0].toNat ≤ 122)]
      simp)
    rw [hv]
    clear hv ht
    go_enter Tryz.func80, Tryz.ntmps80
    go_wp2_with fail
    go_ret
    exact ⟨rfl, rfl⟩
  have HA : Hid (nmTo s s.size → nmErr s = 0) := fun h => nmErr_yes (by
    unfold nmOk nmA
    rw [ht, nm_all s h, decide_eq_true hz, decide_eq_true (by omega : s.size ≤ 20)]
    simp only [List.all_cons, List.all_nil]
    rw [decide_eq_true (by omega : 97 ≤ s[0].toNat), decide_eq_true (by omega : s[0].toNat ≤ 122)]
    rfl)
  clear ht
  go_enter Tryz.func80, Tryz.ntmps80
  go_wp2_with fail
  go_loopg [24] s.size (fun gg s24 wr => ∃ k : Nat, k + gg = s.size ∧ s24 = .int .i64 (k : Int) ∧ Hid (nmTo s k) ∧ wr = w)
  case atStart => exact ⟨0, by omega, rfl, (fun j _ h => absurd h (by omega)), rfl⟩
  case round =>
    obtain ⟨k, hkg, rfl, hno, rfl⟩ := hrel
    by_cases hk : k < s.size
    · have HB : Hid (nmB s[k] = false → nmErr s = 3) := fun h => nmErr_no (nm_bad s k hk h)
      have HG : Hid (nmB s[k] = true → nmTo s (k + 1)) := fun h => nmTo_succ s k hk hno.out h
      have j0 : (0 : Int) ≤ (k : Int) := by omega
      have j1 : (k : Int) < (s.size : Int) := by omega
      rcases nmB_ways s[k] with ⟨⟨f1, f2⟩, g⟩ | ⟨⟨f1, f2, f3⟩, g⟩ | ⟨⟨f1, f2, f3⟩, g⟩ | ⟨⟨f1, f2, f3⟩, g⟩ | ⟨⟨f1, f2, f3, f4⟩, g⟩ | ⟨⟨f1, f2, f3, f4, f5⟩, g⟩
      · go_wp2_with fail
        go_roundg (s.size - (k + 1))
        case measure => omega
        case rel => exact ⟨k + 1, by omega, by go_num, HG.out g, rfl⟩
      · go_wp2_with fail
        go_roundg (s.size - (k + 1))
        case measure => omega
        case rel => exact ⟨k + 1, by omega, by go_num, HG.out g, rfl⟩
      · go_wp2_with fail
        go_roundg (s.size - (k + 1))
        case measure => omega
        case rel => exact ⟨k + 1, by omega, by go_num, HG.out g, rfl⟩
      · go_wp2_with fail
        go_ret
        exact ⟨by rw [HB.out g]; rfl, rfl⟩
      · go_wp2_with fail
        go_ret
        exact ⟨by rw [HB.out g]; rfl, rfl⟩
      · go_wp2_with fail
        go_ret
        exact ⟨by rw [HB.out g]; rfl, rfl⟩
    · obtain rfl : k = s.size := by omega
      have hv := HA.out hno.out
      go_wp2_with fail
      go_ret
      exact ⟨by rw [hv]; rfl, rfl⟩
end Go.Proofs.YtmkicfjcgbfaaaaGreat
namespace Go.Proofs.YtmkicfjcgbfaaaaGreat
open Go.RowKit

mutual
/-- the same value -/
def sameV : Vl → Vl → Bool
  | .mk k i t s l, .mk k' i' t' s' l' => (k == k') && (i == i') && (t == t') && decide (s = s') && sameL l l'
def sameL : List Vl → List Vl → Bool
  | [], [] => true
  | a :: l, b :: m => sameV a b && sameL l m
  | _, _ => false
end
theorem sameV_eq (a b : Vl) : sameV a b = ((a.kind == b.kind) && (a.int_ == b.int_) && (a.to_ == b.to_) && decide (a.text = b.text) && sameL a.items b.items) := by
  cases a; cases b; rw [sameV]; rfl
theorem sameL_len : ∀ {l m : List Vl}, sameL l m = true → l.length = m.length
  | [], [], _ => rfl
  | a :: l, b :: m, h => by
    rw [sameL, Bool.and_eq_true] at h
    simp only [List.length_cons, sameL_len h.2]
  | [], b :: m, h => by simp [sameL] at h
  | a :: l, [], h => by simp [sameL] at h
theorem sameL_at : ∀ {l m : List Vl} {k : Nat} {x y : Vl}, sameL l m = true → l[k]? = some x → m[k]? = some y → sameV x y = true
  | [], _, k, _, _, _, h1, _ => by simp at h1
  | _ :: _, [], k, _, _, _, _, h2 => by simp at h2
  | a :: l, b :: m, 0, x, y, h, h1, h2 => by
    rw [sameL, Bool.and_eq_true] at h
    obtain rfl : a = x := by simpa using h1
    obtain rfl : b = y := by simpa using h2
    exact h.1
  | a :: l, b :: m, k + 1, x, y, h, h1, h2 => by
    rw [sameL, Bool.and_eq_true] at h
    exact sameL_at h.2 (by simpa using h1) (by simpa using h2)
theorem sameL_of : ∀ {l m : List Vl}, l.length = m.length → (∀ (k : Nat) (x y : Vl), l[k]? = some x → m[k]? = some y → sameV x y = true) → sameL l m = true
  | [], [], _, _ => by rw [sameL]
  | a :: l, b :: m, h, H => by
    rw [sameL, Bool.and_eq_true]
    exact ⟨H 0 a b rfl rfl, sameL_of (by simpa using h) fun k x y h1 h2 => H (k + 1) x y (by rw [List.getElem?_cons_succ]; exact h1) (by rw [List.getElem?_cons_succ]; exact h2)⟩
  | [], b :: m, h, _ => by simp at h
  | a :: l, [], h, _ => by simp at h
mutual
theorem sameV_refl : ∀ a : Vl, sameV a a = true
  | .mk k i t s l => by rw [sameV, sameL_refl l, beq_self_eq_true, beq_self_eq_true, beq_self_eq_true, decide_eq_true (rfl : s = s)]; rfl
theorem sameL_refl : ∀ l : List Vl, sameL l l = true
  | [] => by rw [sameL]
  | a :: l => by rw [sameL, sameV_refl a, sameL_refl l]; rfl
end

theorem dec_toList (a b : ByteArray) : decide (a = b) = (a.toList == b.toList) := by
  cases h : a.toList == b.toList
  · refine decide_eq_false fun e => ?_
    rw [e, beq_self_eq_true] at h
    exact Bool.false_ne_true h.symm
  · have h := eq_of_beq h
    rw [ByteArray.toList_eq, ByteArray.toList_eq] at h
    exact decide_eq_true (by cases a with | mk x => cases b with | mk y => cases x; cases y; simp at h; rw [h])
/-- a value in memory, its items told apart -/
def AV (x : Vl × Value) : Value := .agg #[.int .i64 x.1.kind, .int .i64 x.1.int_, .int .i64 x.1.to_, .string x.1.text, x.2]

theorem RV.slice {w : World} {B : Nat} {v : Value} {l : List Vl} (h : RV w B v l) : ∃ A n c, v = .slice A n c := by
  obtain ⟨A, n, c, M, h1, h2, h3⟩ := h.open_
  exact ⟨A, n, c, h2⟩
end Go.Proofs.YtmkicfjcgbfaaaaGreat
