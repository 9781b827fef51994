/-
  DERIVED. Plain law: an edit and its inverse; what Diff makes. Conditions: none. By an AI agent.
-/
import Derived.Test.YtcbmddgafkoooaaDoorComposeMath
import Derived.Test.YtcbmddgafkoooaaDoorDiffMath
import Derived.Test.YtcbmddgafkoooaaDoorMarksMath
namespace Go.Proofs.YtcbmddgafkoooaaDoor
open Go.RowKit

theorem bl_ext (s : ByteArray) (a b : Nat) : (s.extract a b).data.toList = (s.data.toList.drop a).take (b - a) := by
  rw [ByteArray.data_extract, Array.toList_extract]
theorem bl_app (a b : ByteArray) : (a ++ b).data.toList = a.data.toList ++ b.data.toList := by rw [ByteArray.data_append, Array.toList_append]
theorem bl_eq {a b : ByteArray} (h : a.data.toList = b.data.toList) : a = b := by
  cases a with | mk x => cases b with | mk y => cases x with | mk p => cases y with | mk q => simp at h; subst h; rfl
theorem bl_len (a : ByteArray) : a.data.toList.length = a.size := by rw [Array.length_toList]; rfl
theorem bl_at {a : ByteArray} {i : Nat} (h : i < a.size) : a.data.toList[i]? = some a[i] := by
  rw [List.getElem?_eq_getElem (by rw [bl_len]; exact h)]; rfl

/-! Diff -/
theorem eqAt_get {a b : ByteArray} {i j : Nat} (h : eqAt a b i j = true) : a.data.toList[i]? = b.data.toList[j]? ∧ i < a.size ∧ j < b.size := by
  unfold eqAt at h
  split at h
  · rename_i g
    refine ⟨?_, g⟩
    rw [bl_at g.1, bl_at g.2]
    congr 1
    exact UInt8.toNat_inj.1 (by simpa using h)
  · cases h
theorem cpN_same (a b : ByteArray) : ∀ n k, (∀ j, j < k → a.data.toList[j]? = b.data.toList[j]?) → ∀ j, j < cpN a b n k → a.data.toList[j]? = b.data.toList[j]?
  | 0, k, h => h
  | n + 1, k, h => by
    unfold cpN
    split
    · rename_i he
      exact cpN_same a b n (k + 1) (fun j hj => by
        rcases Nat.lt_or_ge j k with g | g
        · exact h j g
        · obtain rfl : j = k := by omega
          exact (eqAt_get he).1)
    · exact h
theorem cp_take (a b : ByteArray) : a.data.toList.take (cp a b) = b.data.toList.take (cp a b) := by
  apply List.ext_getElem?
  intro j
  rw [List.getElem?_take, List.getElem?_take]
  split
  · exact cpN_same a b _ 0 (fun j hj => by omega) j (by assumption)
  · rfl
theorem sfN_same (a b : ByteArray) (k : Nat) : ∀ m n, n ≤ a.size → n ≤ b.size → (∀ j, j < n → a.data.toList[a.size - 1 - j]? = b.data.toList[b.size - 1 - j]?) → ∀ j, j < sfN a b k m n → a.data.toList[a.size - 1 - j]? = b.data.toList[b.size - 1 - j]?
  | 0, n, _, _, h => h
  | m + 1, n, h1, h2, h => by
    unfold sfN
    split
    · rename_i he
      exact sfN_same a b k m (n + 1) (by omega) (by omega) (fun j hj => by
        rcases Nat.lt_or_ge j n with g | g
        · exact h j g
        · obtain rfl : j = n := by omega
          exact (eqAt_get he.2.2).1)
    · exact h
theorem sf_drop (a b : ByteArray) : a.data.toList.drop (a.size - sf a b) = b.data.toList.drop (b.size - sf a b) := by
  have hl := sf_le a b
  apply List.ext_getElem?
  intro j
  rw [List.getElem?_drop, List.getElem?_drop]
  rcases Nat.lt_or_ge j (sf a b) with g | g
  · have := sfN_same a b (cp a b) a.size 0 (Nat.zero_le _) (Nat.zero_le _) (fun j hj => by omega) (sf a b - 1 - j) (by show _ < sf a b; omega)
    rw [show a.size - 1 - (sf a b - 1 - j) = a.size - sf a b + j by omega, show b.size - 1 - (sf a b - 1 - j) = b.size - sf a b + j by omega] at this
    exact this
  · rw [List.getElem?_eq_none (by rw [bl_len]; omega), List.getElem?_eq_none (by rw [bl_len]; omega)]
theorem diff_makes (a b : ByteArray) : a.extract 0 (cp a b) ++ b.extract (cp a b) (b.size - sf a b) ++ a.extract (a.size - sf a b) a.size = b := by
  have hc := cp_le a b
  have hl := sf_le a b
  apply bl_eq
  rw [bl_app, bl_app, bl_ext, bl_ext, bl_ext, List.drop_zero, Nat.sub_zero, cp_take]
  rw [List.take_of_length_le (l := a.data.toList.drop (a.size - sf a b)) (by rw [List.length_drop, bl_len]; omega), sf_drop]
  rw [List.append_assoc, show b.data.toList.drop (b.size - sf a b) = (b.data.toList.drop (cp a b)).drop (b.size - sf a b - cp a b) by rw [List.drop_drop]; congr 1; omega, List.take_append_drop, List.take_append_drop]
theorem cpN_self (a : ByteArray) : ∀ n k, k + n = a.size → cpN a a n k = a.size
  | 0, k, h => by simp [cpN]; omega
  | n + 1, k, h => by
    have : eqAt a a k k = true := by unfold eqAt; rw [dif_pos ⟨by omega, by omega⟩]; simp
    unfold cpN; rw [if_pos this]; exact cpN_self a n (k + 1) (by omega)
theorem cp_self (a : ByteArray) : cp a a = a.size := cpN_self a _ 0 (by omega)
theorem diffV_self (a : ByteArray) : diffV a a = .agg #[.int .i64 (a.size : Nat), .int .i64 (a.size : Nat), .string ⟨#[]⟩] := by
  have hl := sf_le a a
  have hc := cp_self a
  have h0 : sf a a = 0 := by omega
  unfold diffV
  rw [hc, h0]
  have : a.extract a.size (a.size - 0) = ⟨#[]⟩ := by
    apply bl_eq
    rw [bl_ext]; simp
  rw [this]; rfl

/-! the way back -/
theorem edS_back {s x : ByteArray} {f t : Nat} (h1 : f ≤ t) (h2 : t ≤ s.size) : edS (edS s x f t) (s.extract f t) f ((f : Int) + x.size) = s := by
  unfold edS
  apply bl_eq
  simp only [Int.toNat_natCast]
  have e : ((f : Int) + (x.size : Int)).toNat = f + x.size := by omega
  rw [e, bl_app, bl_app, bl_ext, bl_ext, bl_ext, bl_app, bl_app, bl_ext, bl_ext]
  have lf : ((s.data.toList.drop 0).take (f - 0)).length = f := by simp [bl_len]; have := bl_len s; omega
  have lx := bl_len x
  simp only [List.drop_zero, Nat.sub_zero] at lf ⊢
  generalize hA : s.data.toList.take f = A at *
  have l1 : (A ++ x.data.toList ++ (s.data.toList.drop t).take (s.size - t)).take f = A := by
    rw [List.append_assoc, ← lf, List.take_left]
  have l2 : (A ++ x.data.toList ++ (s.data.toList.drop t).take (s.size - t)).drop (f + x.size) = (s.data.toList.drop t).take (s.size - t) := by
    rw [show f + x.size = (A ++ x.data.toList).length by rw [List.length_append, lf, lx], List.drop_left]
  rw [l1, l2]
  rw [List.take_of_length_le (l := s.data.toList.drop t) (by rw [List.length_drop, bl_len]; omega)]
  rw [List.take_of_length_le (l := s.data.toList.drop t) (by rw [List.length_drop, bl_len, ByteArray.size_append, ByteArray.size_append, ByteArray.size_extract, ByteArray.size_extract]; omega)]
  rw [← hA, List.append_assoc, show s.data.toList.drop t = (s.data.toList.drop f).drop (t - f) by rw [List.drop_drop]; congr 1; omega, List.take_append_drop, List.take_append_drop]
theorem ctl_ext {s : ByteArray} {a b : Nat} (h : ctl (s.extract a b) = true) : ctl s = true := by
  unfold ctl at *
  rw [bl_ext] at h
  obtain ⟨c, hc, hq⟩ := List.any_eq_true.1 h
  exact List.any_eq_true.2 ⟨c, List.mem_of_mem_drop (List.mem_of_mem_take hc), hq⟩
/-- where the four marks go -/
theorem shf_in_text {s x : ByteArray} {f t m : Int} (h0 : 0 ≤ f) (h1 : f ≤ t) (h2 : t ≤ (s.size : Int)) (hs : s.size ≤ 2000) (hm : m = 0 ∨ m = f ∨ m = t ∨ m = (s.size : Int)) :
    0 ≤ shf m f t x.size false ∧ shf m f t x.size false ≤ ((edS s x f t).size : Int) := by
  rw [edS_size h0 h1 h2]
  unfold shf
  rw [if_pos ⟨by omega, by omega, h0, h1⟩]
  split
  · omega
  · split
    · omega
    · simp; omega
end Go.Proofs.YtcbmddgafkoooaaDoor
