/-
  DERIVED. A rule that is being read: its words, its cells; where its words begin. Conditions: none. By an AI agent.
-/
import Derived.Test.YtbdcimakdiegnaaGreatDoorRuList
import Derived.Test.YtbdcimakdiegnaaGreatDoorRuChk2
import Derived.Test.YtbdcimakdiegnaaGreatDoorRuShelf
namespace Go.Proofs.YtbdcimakdiegnaaGreatDoor
open Go.RowKit
open cal

abbrev zR9 : Array Value := #[.int .i64 0, .int .i64 0, .int .i64 0, .int .i64 0, .int .i64 0, .slice none 0 0, .slice none 0 0, .int .i64 0, .slice none 0 0]
/-- a rule that is being read -/
structure SR (w : World) (rb gw : Nat) (xs : List ByteArray) (r : Rl) (a b c : Value) (wr : World) : Prop where
  rw_ : RW wr rb gw xs
  bx : Blk wr (w.heap.size + 1) 40 (RuC r a b c)
  br : Blk wr w.heap.size 40 zR9
  gr : w.grownBy wr (some rb)
  ma : RInX wr (fun k => w.heap.size + 2 ≤ k ∧ k < wr.heap.size) a r.wk
  mb : RInX wr (fun k => w.heap.size + 2 ≤ k ∧ k < wr.heap.size) b r.ds
  mc : RInX wr (fun k => w.heap.size + 2 ≤ k ∧ k < wr.heap.size) c r.skip
section
variable {w wr w2 : World} {rb gw : Nat} {xs ys : List ByteArray} {r r2 : Rl} {a b c a2 b2 c2 : Value}
theorem SR.size (h : SR w rb gw xs r a b c wr) : w.heap.size + 2 ≤ wr.heap.size := by
  have := h.bx.lt
  omega
theorem inx_gr {v : Value} {l : List Int} {lo : Nat} (h : RInX wr (fun k => lo ≤ k ∧ k < wr.heap.size) v l) (hg : wr.grownBy w2 (some rb)) (hlo : rb < lo) : RInX w2 (fun k => lo ≤ k ∧ k < w2.heap.size) v l := by
  refine (h.keep fun p hp => ?_).weak fun k hk => ⟨hk.1, Nat.lt_of_lt_of_le hk.2 hg.size⟩
  exact World.cell?_of_block (hg.block _ hp.2 (fun e => by injection e with e; have := hp.1; omega))
theorem SR.call (h : SR w rb gw xs r a b c wr) (hrb : rb < w.heap.size) (hr : RW w2 rb gw ys) (hg : wr.grownBy w2 (some rb)) : SR w rb gw ys r a b c w2 :=
  ⟨hr, blk_gr h.bx hg (by omega), blk_gr h.br hg (by omega), gr_trans h.gr hg, inx_gr h.ma hg (by omega), inx_gr h.mb hg (by omega), inx_gr h.mc hg (by omega)⟩
theorem SR.bad (h : SR w rb gw xs r a b c wr) (hrb : rb < w.heap.size) : SR w rb gw xs r a b c (wr.setCell ⟨rb, 1, none⟩ (.bool false)) := by
  refine h.call hrb ?_ (gr_set (World.grownBy.refl wr (some rb)) 1 _)
  obtain ⟨off, cc, k1, k2, k3⟩ := h.rw_.rd
  refine ⟨⟨off, cc, k1.set_ 1 _, k2, fun j y hy => ?_⟩, h.rw_.ne, by simpa [World.setCell] using h.rw_.lt, h.rw_.len⟩
  exact (World.cell?_of_block (a := ⟨gw, off + j, none⟩) (Below.heap_setCell _ ⟨rb, _, none⟩ _ gw h.rw_.ne)).trans (k3 j y hy)
theorem inx_set {v : Value} {l : List Int} {lo k0 i : Nat} {u : Value} (h : RInX wr (fun k => lo ≤ k ∧ k < wr.heap.size) v l) (hlo : k0 < lo) : RInX (wr.setCell ⟨k0, i, none⟩ u) (fun k => lo ≤ k ∧ k < (wr.setCell ⟨k0, i, none⟩ u).heap.size) v l := by
  refine (h.keep fun p hp => ?_).weak fun k hk => ⟨hk.1, by simpa [World.setCell] using hk.2⟩
  exact World.cell?_of_block (Below.heap_setCell _ ⟨k0, i, none⟩ _ _ (fun e => by have := hp.1; have : p.block = k0 := e; omega))
/-- a field is written -/
theorem SR.put (h : SR w rb gw xs r a b c wr) (hrb : rb < w.heap.size) (hgw : gw < w.heap.size) (i : Nat) (u : Value) (hc : (RuC r a b c).setIfInBounds i u = RuC r2 a2 b2 c2)
    (ma : RInX wr (fun k => w.heap.size + 2 ≤ k ∧ k < wr.heap.size) a2 r2.wk) (mb : RInX wr (fun k => w.heap.size + 2 ≤ k ∧ k < wr.heap.size) b2 r2.ds) (mc : RInX wr (fun k => w.heap.size + 2 ≤ k ∧ k < wr.heap.size) c2 r2.skip) :
    SR w rb gw xs r2 a2 b2 c2 (wr.setCell ⟨w.heap.size + 1, i, none⟩ u) := by
  refine ⟨h.rw_.set (by omega) (by omega) _, ?_, h.br.far (p := ⟨w.heap.size + 1, i, none⟩) (by show w.heap.size ≠ w.heap.size + 1; omega) _, gr_keep h.gr ((Below.refl w.heap.size wr).setCell (p := ⟨w.heap.size + 1, i, none⟩) (by show w.heap.size ≤ w.heap.size + 1; omega) _) (Nat.le_refl _), inx_set ma (by omega), inx_set mb (by omega), inx_set mc (by omega)⟩
  have := h.bx.set_ i u
  rw [hc] at this
  exact this
/-- what the walk loads -/
theorem SR.at_ (h : SR w rb gw xs r a b c wr) : (wr.cell? ⟨rb, 1, none⟩ = some (.bool false) ∧ wr.frozen? ⟨rb, 1, none⟩ = false) ∧ ((∀ i, wr.cell? ⟨w.heap.size + 1, i, none⟩ = (RuC r a b c)[i]?) ∧ ∀ i, wr.frozen? ⟨w.heap.size + 1, i, none⟩ = false) := by
  obtain ⟨off, cc, k1, _⟩ := h.rw_.rd
  exact ⟨⟨k1.cell 1, k1.frozen 1⟩, h.bx.cell, h.bx.frozen⟩
end
/-! ### words left -/
noncomputable def wR7 (r : Rl) : List ByteArray := lWs [wSkip] dtS r.skip
noncomputable def wR6 (r : Rl) : List ByteArray := lWs [wDates] wd r.ds ++ wR7 r
noncomputable def wR5 (r : Rl) : List ByteArray := lWs (wOn :: nWs r.nth) wdW r.wk ++ wR6 r
noncomputable def wR4 (r : Rl) : List ByteArray := cWs r.count ++ wR5 r
noncomputable def wR3 (r : Rl) : List ByteArray := uWs r.until_ ++ wR4 r
theorem ruW_eq (r : Rl) : ruW r = wEvery :: wd r.every :: (unW r.unit ++ esW r.every) :: wFrom :: dtS r.from_ :: wR3 r := rfl
theorem head_lWs {word : ByteArray} {ws : List ByteArray} {f : Int → ByteArray} {l : List Int} {R : List ByteArray} : (lWs (word :: ws) f l ++ R).head? = if l = [] then R.head? else some word := by
  unfold lWs
  by_cases h : l = []
  · rw [if_pos h, if_pos h]; rfl
  · rw [if_neg h, if_neg h]; rfl
theorem head7 (r : Rl) : (wR7 r).head? = none ∨ (wR7 r).head? = some wSkip := by
  unfold wR7 lWs
  split
  · exact .inl rfl
  · exact .inr rfl
theorem head6 (r : Rl) : (wR6 r).head? = none ∨ (wR6 r).head? = some wSkip ∨ (wR6 r).head? = some wDates := by
  unfold wR6
  rw [head_lWs]
  split
  · rcases head7 r with h | h
    · exact .inl h
    · exact .inr (.inl h)
  · exact .inr (.inr rfl)
theorem head5 (r : Rl) : (wR5 r).head? = none ∨ (wR5 r).head? = some wSkip ∨ (wR5 r).head? = some wDates ∨ (wR5 r).head? = some wOn := by
  unfold wR5
  rw [head_lWs]
  split
  · rcases head6 r with h | h | h
    · exact .inl h
    · exact .inr (.inl h)
    · exact .inr (.inr (.inl h))
  · exact .inr (.inr (.inr rfl))
theorem head4 (r : Rl) : (wR4 r).head? = none ∨ (wR4 r).head? = some wSkip ∨ (wR4 r).head? = some wDates ∨ (wR4 r).head? = some wOn ∨ (wR4 r).head? = some wTimes := by
  unfold wR4 cWs
  split
  · exact .inr (.inr (.inr (.inr rfl)))
  · rcases head5 r with h | h | h | h
    · exact .inl h
    · exact .inr (.inl h)
    · exact .inr (.inr (.inl h))
    · exact .inr (.inr (.inr (.inl h)))
theorem not_until (r : Rl) : (wR4 r).head? ≠ some wUntil := by
  rcases head4 r with h | h | h | h | h <;> rw [h] <;> decide
theorem not_times (r : Rl) : (wR5 r).head? ≠ some wTimes := by
  rcases head5 r with h | h | h | h <;> rw [h] <;> decide
theorem not_on (r : Rl) : (wR6 r).head? ≠ some wOn := by
  rcases head6 r with h | h | h <;> rw [h] <;> decide
theorem not_dates (r : Rl) : (wR7 r).head? ≠ some wDates := by
  rcases head7 r with h | h <;> rw [h] <;> decide
theorem suf_th (x : ByteArray) : Lib.hasSuffix (x ++ ⟨#[116, 104]⟩ : ByteArray).data.toList [116, 104] = true := by
  unfold Lib.hasSuffix
  rw [List.isSuffixOf_iff_suffix]
  simp only [ByteArray.data_append, Array.toList_append]
  exact List.suffix_append _ _
theorem trim_th (x : ByteArray) : (⟨(Lib.trimSuffix (x ++ ⟨#[116, 104]⟩ : ByteArray).data.toList [116, 104]).toArray⟩ : ByteArray) = x := by
  unfold Lib.trimSuffix
  rw [if_pos (suf_th x)]
  simp
theorem suf_wd {n : Int} (h : 0 ≤ n ∧ n ≤ 6) : Lib.hasSuffix (wdW n).data.toList [116, 104] = false := by
  rcases wdW_ways h with e | e | e | e | e | e | e <;> rw [e] <;> decide
end Go.Proofs.YtbdcimakdiegnaaGreatDoor
