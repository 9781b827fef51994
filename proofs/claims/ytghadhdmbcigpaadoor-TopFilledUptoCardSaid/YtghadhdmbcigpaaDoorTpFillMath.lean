/-
  DERIVED. What filling a template gives, piece by piece; where a name stands among pairs. Conditions: none. By an AI agent.
-/
import Derived.Test.YtghadhdmbcigpaaDoorTpConcat
import Derived.Test.YtghadhdmbcigpaaDoorBld
namespace Go.Proofs.YtghadhdmbcigpaaDoor
open Go.RowKit

def valOf (vs : List Pr) (nm : ByteArray) : ByteArray := match vs.find? (isNm nm) with | some v => v.2 | none => ⟨#[]⟩
/-- what a piece gives -/
def ctr (vs : List Pr) (x : Pc) : ByteArray := x.text ++ (if x.field.size = 0 then ⟨#[]⟩ else valOf vs x.field)
def outM (vs : List Pr) : List Pc → ByteArray
  | [] => ⟨#[]⟩
  | x :: r => ctr vs x ++ outM vs r
theorem app_nil (a : ByteArray) : a ++ (⟨#[]⟩ : ByteArray) = a := ByteArray.append_empty
theorem nil_app (a : ByteArray) : (⟨#[]⟩ : ByteArray) ++ a = a := ByteArray.empty_append
theorem outM_app (vs : List Pr) : ∀ M N : List Pc, outM vs (M ++ N) = outM vs M ++ outM vs N
  | [], N => (nil_app _).symm
  | x :: r, N => by rw [List.cons_append, outM, outM_app vs r N, outM, ByteArray.append_assoc]
theorem outM_take (vs : List Pr) (M : List Pc) (k : Nat) (x : Pc) (h : M[k]? = some x) : outM vs (M.take (k + 1)) = outM vs (M.take k) ++ ctr vs x := by
  rw [List.take_add_one, h, outM_app]
  congr 1
  exact app_nil _
theorem outM_le (vs : List Pr) : ∀ (M : List Pc) (k : Nat), (outM vs (M.take k)).size ≤ (outM vs M).size
  | [], k => by simp
  | x :: r, 0 => Nat.zero_le _
  | x :: r, k + 1 => by
    rw [List.take_succ_cons, outM, outM, ByteArray.size_append, ByteArray.size_append]
    have := outM_le vs r k
    omega
/-- a template filled -/
def filled (vs : List Pr) : List Seg → ByteArray → ByteArray
  | [], z => z
  | x :: r, z => x.1 ++ (valOf vs x.2 ++ filled vs r z)
theorem outM_pcs (vs : List Pr) (z : ByteArray) : ∀ T : List Seg, (∀ x ∈ T, 0 < x.2.size) → outM vs (pcs T z) = filled vs T z
  | [], _ => by
    show (z ++ (⟨#[]⟩ : ByteArray)) ++ ⟨#[]⟩ = z
    rw [app_nil, app_nil]
  | x :: r, h => by
    have h0 := h x (List.mem_cons_self)
    have h1 := outM_pcs vs z r (fun y hy => h y (List.mem_cons_of_mem _ hy))
    rw [pcs, outM, outM, h1]
    show (x.1 ++ (⟨#[]⟩ : ByteArray)) ++ (((⟨#[]⟩ : ByteArray) ++ (if x.2.size = 0 then ⟨#[]⟩ else valOf vs x.2)) ++ filled vs r z) = _
    rw [if_neg (by omega), app_nil, nil_app, filled]
theorem strCells_app (a b : ByteArray) : Lib.strCells (a ++ b) = Lib.strCells a ++ Lib.strCells b := by
  simp [Lib.strCells, ByteArray.data_append]

theorem idx_from (nm : ByteArray) (os : List Pr) : ∀ (vs : List Pr) (i0 : Nat), (∃ y ∈ vs, isNm nm y = true) → ∃ i v, vs[i]? = some v ∧ valOf vs nm = v.2 ∧ Lib.idxByFrom (fun _ y => isNm nm y) (default : Pr) (vs ++ os) i0 = ((i0 + i : Nat) : Int)
  | [], i0, h => by obtain ⟨y, hy, _⟩ := h; cases hy
  | y :: r, i0, h => by
    cases hy : isNm nm y with
    | true =>
      refine ⟨0, y, rfl, ?_, ?_⟩
      · unfold valOf; rw [List.find?_cons, hy]
      · rw [List.cons_append, Lib.idxByFrom, if_pos hy]; rfl
    | false =>
      obtain ⟨z, hz, hz2⟩ := h
      have hr : ∃ y ∈ r, isNm nm y = true := by
        rcases List.mem_cons.1 hz with rfl | hz
        · rw [hy] at hz2; cases hz2
        · exact ⟨z, hz, hz2⟩
      obtain ⟨i, v, h1, h2, h3⟩ := idx_from nm os r (i0 + 1) hr
      refine ⟨i + 1, v, by simpa using h1, ?_, ?_⟩
      · rw [← h2]; unfold valOf; rw [List.find?_cons, hy]
      · rw [List.cons_append, Lib.idxByFrom, if_neg (by rw [hy]; simp), h3]; congr 1; omega
theorem idx_found (nm : ByteArray) (vs os : List Pr) (h : ∃ y ∈ vs, isNm nm y = true) : ∃ (i : Nat) (v : Pr), vs[i]? = some v ∧ valOf vs nm = v.2 ∧ Lib.idxBy (fun _ y => isNm nm y) ((vs ++ os).take (vs.length + os.length)) (default : Pr) = (i : Int) := by
  obtain ⟨i, v, h1, h2, h3⟩ := idx_from nm os vs 0 h
  refine ⟨i, v, h1, h2, ?_⟩
  rw [List.take_of_length_le (by simp)]
  unfold Lib.idxBy
  rw [h3]; congr 1; omega

set_option maxHeartbeats 1000000 in
theorem len_any (b B : Nat) (bs : List Value) (w : World) (h : Bld b B bs w) :
    Calls Tryd.prog 20 #[.pointer (some ⟨b, 0, none⟩)] w fun e w' => e = .returned (.int .i64 bs.length) ∧ w' = w := by
  obtain ⟨hbB, p, v, hp, hbk, hown⟩ := h
  obtain ⟨A, c, rfl, _⟩ := own_reads hown
  have c1 : w.cell? ⟨b, 1, none⟩ = some (.slice A bs.length c) := by rw [Lib.cell_of_heap hbk]; rfl
  clear hp hbk hown
  go_enter Tryd.func20, Tryd.ntmps20
  go_wp2_with fail
  go_ret
  exact ⟨rfl, rfl⟩
end Go.Proofs.YtghadhdmbcigpaaDoor
