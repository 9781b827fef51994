/-
  DERIVED. strings.Builder's WriteString, and a block beside it that stays. Conditions: Go's own limit. By an AI agent (after WriteString's walk).
-/
import Derived.Test.YtghadhdmbcigpaaDoorBld
namespace Go.Proofs.YtghadhdmbcigpaaDoor
open Go.RowKit

theorem copyCheck_more (b B : Nat) (bs : List Value) (w : World) (h : Bld b B bs w) {k0 : Nat} {T : TypeId} {cs : Array Value} (hx : Blk w k0 T cs) (hkb : k0 ≠ b) :
    Calls Tryd.prog 38 #[.pointer (some ⟨b, 0, none⟩)] w fun e w' => e = .returned (.tuple #[]) ∧ w'.heap.size = w.heap.size ∧ Keep b B w w' ∧ (∃ v, w'.heap[b]? = some (.cells #[.pointer (some ⟨b, 0, none⟩), v] 49 (0, 0)) ∧ w'.ownsRow B 5 1 v bs.length bs) ∧ Blk w' k0 T cs := by
  obtain ⟨hbB, p, v, hp, hbk, hown⟩ := h
  rcases hp with rfl | rfl
  · refine (copyCheck_fresh b w (by rw [Lib.cell_of_heap hbk]; rfl) (by simp [World.shape?, hbk]) (Lib.frozen_of_heap hbk 0)).mono ?_
    rintro e w' ⟨rfl, rfl⟩
    refine ⟨rfl, by simp [World.setCell], ⟨(Below.refl _ _).setCell (p := ⟨b, 0, none⟩) (Nat.le_refl _) _, fun k _ hne => Below.heap_setCell _ _ _ _ (fun e => hne (by simp [e]))⟩, ⟨v, ?_, ?_⟩, hx.far (p := ⟨b, 0, none⟩) hkb _⟩
    · simp [World.setCell, Array.getElem?_modify, hbk]
    · exact ownsRow_setCell_below hown hbB _
  · refine (copyCheck_used b w (by rw [Lib.cell_of_heap hbk]; rfl)).mono ?_
    rintro e w' ⟨rfl, rfl⟩
    exact ⟨rfl, rfl, Keep.refl _ _ _, ⟨v, hbk, hown⟩, hx⟩

set_option maxHeartbeats 2000000 in
set_option maxRecDepth 100000 in
theorem writeString_more (b B : Nat) (bs : List Value) (s : ByteArray) (w : World) (h : Bld b B bs w) (hlen : bs.length + s.size ≤ 140737488355328) (hBw : B ≤ w.heap.size) {k0 : Nat} {T : TypeId} {cs : Array Value} (hx : Blk w k0 T cs) (hT : 5 ≠ T) (hkb : k0 ≠ b) :
    Calls Tryd.prog 17 #[.pointer (some ⟨b, 0, none⟩), .string s] w fun e w' => e = .returned (.tuple #[.int .i64 s.size, .nilIface]) ∧ Bld b B (bs ++ Lib.strCells s) w' ∧ Keep b B w w' ∧ Blk w' k0 T cs := by
  obtain ⟨i0, hi, hz0, hz1, hz2⟩ := info_parts byte_info
  have hbB := h.1
  go_enter Tryd.func17, Tryd.ntmps17
  go_wp2_with fail
  refine (copyCheck_more b B bs _ h hx hkb).mono ?_
  rintro e w1 ⟨rfl, hsz, hk, ⟨v, hbk, hown⟩, hx1⟩
  have hx2 := Lib.hid hx1
  clear hx hx1
  have c0 : w1.cell? ⟨b, 0, none⟩ = some (.pointer (some ⟨b, 0, none⟩)) := by rw [Lib.cell_of_heap hbk]; rfl
  have c1 : w1.cell? ⟨b, 1, none⟩ = some v := by rw [Lib.cell_of_heap hbk]; rfl
  go_wp2_with (at_builtin; refine Lib.wpList_append_own_string _ rfl _ _ 47 9 rfl B 5 i0 Tryd.underlying47 Tryd.underlying9 hi hz0 hz1 hz2 _ _ _ rfl hown s rfl (by unfold maxLen; omega) (by omega) (by omega) ?_)
  intro v' w2 hown' hgrow _
  have hlt : b < w1.heap.size := by omega
  have hne : v.ownBlock ≠ some b := fun e => by have := (hown.lt b e).1; omega
  have hb2 : w2.heap[b]? = some (.cells #[.pointer (some ⟨b, 0, none⟩), v] 49 (0, 0)) := by
    rw [hgrow.block b hlt (fun e => hne e.symm)]
    exact hbk
  have d0 : w2.cell? ⟨b, 0, none⟩ = some (.pointer (some ⟨b, 0, none⟩)) := by rw [Lib.cell_of_heap hb2]; rfl
  have d1 : w2.cell? ⟨b, 1, none⟩ = some v := by rw [Lib.cell_of_heap hb2]; rfl
  have f1 : w2.frozen? ⟨b, 1, none⟩ = false := Lib.frozen_of_heap hb2 1
  obtain ⟨ao, n', cap, rfl⟩ : ∃ ao n' cap, v' = .slice ao n' cap := by
    rcases hown'.2 with ⟨hv, _⟩ | ⟨g, cap, cur, hv, _⟩
    · exact ⟨_, _, _, hv⟩
    · exact ⟨_, _, _, hv⟩
  have hx3 := hx2.out.grown hgrow (fun e => own_blk_ne hown hx2.out hT e.symm)
  have HX3 := Lib.hid hx3
  clear hx3
  have HK := Lib.hid hk
  clear hk
  go_wp2
  go_ret2
  refine ⟨rfl, ⟨hbB, _, .slice ao n' cap, .inr rfl, ?_, ?_⟩, HK.out.trans ⟨?_, ?_⟩, HX3.out.far (p := ⟨b, 1, none⟩) hkb _⟩
  · simp [World.setCell, Array.getElem?_modify, hb2]
  · exact ownsRow_setCell_below (by simpa [Lib.strCells_length] using hown') hbB _
  · exact ((Below.refl b _).grown hgrow (by omega) (fun k hk => by have := (hown.lt k hk).1; omega)).setCell (p := ⟨b, 1, none⟩) (Nat.le_refl _) _
  · intro k hk hne'
    refine (Below.heap_setCell _ _ _ _ (fun e => hne' (by simp [e]))).trans (hgrow.block k (by omega) (fun e => by have := (hown.lt k e.symm).1; omega))

theorem Bld.below {b B : Nat} {bs : List Value} {w w' : World} (h : Bld b B bs w) (hb : Below w.heap.size w w') : Bld b B bs w' := by
  obtain ⟨h1, p, v, hp, hbk, hown⟩ := h
  have hlt : b < w.heap.size := (Array.getElem?_eq_some_iff.1 hbk).1
  exact ⟨h1, p, v, hp, (hb.block b hlt).trans hbk, own_below hown hb⟩
theorem Keep.below {b B : Nat} {w w' : World} (hb : Below w.heap.size w w') (h1 : b ≤ w.heap.size) (h2 : B ≤ w.heap.size) : Keep b B w w' := ⟨hb.mono h1, fun k hk _ => hb.block k (by omega)⟩
end Go.Proofs.YtghadhdmbcigpaaDoor
