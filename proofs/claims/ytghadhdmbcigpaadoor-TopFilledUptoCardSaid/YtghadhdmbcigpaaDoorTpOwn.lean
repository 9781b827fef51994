/-
  DERIVED. The walk of day.own: it returns at most four pairs. Conditions: a day that is not negative; the table of powers of ten is laid. By an AI agent.
-/
import Derived.Test.YtghadhdmbcigpaaDoorTpDate
import Derived.Test.YtghadhdmbcigpaaDoorTpVals
namespace Go.Proofs.YtghadhdmbcigpaaDoor
open Go.RowKit

def prZ : Value := .agg #[.string ⟨#[]⟩, .string ⟨#[]⟩]
theorem pr_info : (Tryd.prog.info? 28).map (fun i => (i.zero, i.size, i.bytes)) = some (some prZ, 2, 32) := by kernel_rfl
theorem rows_one (M : List Pr) : ∀ u ∈ rowsV M, u.oneCell' = true := by
  intro u hu
  obtain ⟨x, _, hu⟩ := List.mem_flatMap.1 hu
  exact prV_one x u hu
theorem rowsV_app (M N : List Pr) : rowsV (M ++ N) = rowsV M ++ rowsV N := by simp [rowsV]

theorem own_low {w : World} {B B' : Nat} {e : TypeId} {size n : Nat} {v : Value} {xs : List Value} (h : w.ownsRow B e size v n xs) (hB : B' ≤ B) : w.ownsRow B' e size v n xs := by
  obtain ⟨h1, h2⟩ := h
  refine ⟨h1, ?_⟩
  rcases h2 with h2 | ⟨g, cap, cur, hv, hg, r⟩
  · exact .inl h2
  · exact .inr ⟨g, cap, cur, hv, by omega, r⟩
/-- the three days -/
def dRow (d : Int) : Array Value := #[.string ⟨#[100, 97, 116, 101]⟩, .int .i64 d, .string ⟨#[116, 111, 109, 111, 114, 114, 111, 119]⟩, .int .i64 (d + 1), .string ⟨#[121, 101, 115, 116, 101, 114, 100, 97, 121]⟩, .int .i64 (d - 1)]
theorem dRow_at (d : Int) (i : Nat) (h : i < 3) : ∃ (nm : ByteArray) (x : Int), (dRow d)[i * 2]? = some (.string nm) ∧ (dRow d)[i * 2 + 1]? = some (.int .i64 x) := by
  rcases i with _ | _ | _ | i
  · exact ⟨_, _, rfl, rfl⟩
  · exact ⟨_, _, rfl, rfl⟩
  · exact ⟨_, _, rfl, rfl⟩
  · omega

set_option maxHeartbeats 8000000 in
set_option maxRecDepth 100000 in
theorem own_any (d : Int) (w : World) (h0 : 0 ≤ d) (h1 : d ≤ 100000) (hP : Pow w) :
    Calls Tryd.prog 16 #[.int .i64 d] w fun e w' => ∃ v n vs, e = .returned v ∧ w'.ownsRow w.heap.size 28 2 v n (rowsV vs) ∧ n = vs.length ∧ 1 ≤ n ∧ n ≤ 4 ∧ Below w.heap.size w w' := by
  obtain ⟨i0, hi, hz0, hz1, hz2⟩ := info_parts pr_info
  have HPW := Lib.hid hP
  clear hP
  go_enter Tryd.func16, Tryd.ntmps16
  go_wp2_with fail
  go_loopg [3, 19] 3 (fun gg s3 s19 wr => ∃ (i m : Nat) (vs : List Pr), i + gg = 3 ∧ s19 = .int .i64 (i : Int) ∧ m = vs.length ∧ m ≤ i ∧ wr.ownsRow (w.heap.size + 1) 28 2 s3 m (rowsV vs) ∧ Blk wr w.heap.size 73 (dRow d) ∧ Below w.heap.size w wr)
  case atStart => exact ⟨0, 0, [], rfl, rfl, rfl, Nat.le_refl _, World.ownsRow_nil _ _ _ _, Blk.new _ _ _, (Below.refl _ _).alloc (Nat.le_refl _) _⟩
  case round =>
    obtain ⟨i, m, vs, hig, rfl, hm, hmi, hown, hblk, hbel⟩ := hrel
    by_cases hi3 : i < 3
    · obtain ⟨nm, x, q0, q1⟩ := dRow_at d i hi3
      have c0 := (hblk.cell (i * 2)).trans q0
      have c1 := (hblk.cell (i * 2 + 1)).trans q1
      have j0 : (0 : Int) ≤ (i : Int) := by omega
      have j1 : (i : Int) < 3 := by omega
      have hzz := hbel.size
      have hgl := hblk.lt
      have HB := Lib.hid hbel
      have HK := Lib.hid hblk
      have HM := Lib.hid hm
      clear hbel hblk hm q0 q1
      go_wp2_with fail
      have hb0 : Below w.heap.size w (wr.alloc (.cells #[.string nm, .int .i64 x] 73)) := HB.out.alloc hzz _
      have hkx : Blk (wr.alloc (.cells #[.string nm, .int .i64 x] 73)) wr.heap.size 73 #[.string nm, .int .i64 x] := Blk.new _ _ _
      have hkr := HK.out.alloc (.cells #[.string nm, .int .i64 x] 73)
      refine (dateText_any x _ (HPW.out.below (hb0.mono (Nat.le_refl _)))).mono ?_
      rintro e w1 ⟨hres, hb1⟩
      have hkx1 := hkx.below hb1 (by simp)
      have hkr1 := hkr.below hb1 (by simp; omega)
      have hown1 := own_below (hown.alloc (.cells #[.string nm, .int .i64 x] 73)) hb1
      have hzw : wr.heap.size + 1 ≤ w1.heap.size := by have := hb1.size; simpa using this
      have HB1 : Hid (Below w.heap.size w w1) := hb0.trans (hb1.mono hb0.size)
      have HKR := Lib.hid hkr1
      have d0 := hkx1.cell 0
      clear hb0 hkx hkr hkx1 hkr1 hb1 hown c0 c1
      rcases hres with ⟨t, rfl, ht⟩ | rfl
      · go_wp2_with (at_builtin; refine wpList_append_own_at _ rfl _ _ 29 rfl (w.heap.size + 1) 28 i0 prZ 2 32 Tryd.underlying29 hi hz0 hz1 hz2 rfl (by decide) _ m _ rfl (hown1.alloc _) ⟨w1.heap.size, 0, none⟩ 1 1 (rowsV [(nm, t)]) rfl rfl (new_cells _ _ (rowsV [(nm, t)]) _ (by simp)) (rows_one _) (by unfold maxLen; omega) (by omega) (by simp; omega) ?_; intro v7 w7 hown7 hg7 _ _)
        have hlt := hown1.lt
        have HB7 : Hid (Below w.heap.size w w7) := (HB1.out.alloc HB1.out.size _).grown hg7 (by have := HB1.out.size; simp; omega) (fun g h => by have := (hlt g h).1; omega)
        have hkr7 : Blk w7 w.heap.size 73 (dRow d) := (HKR.out.alloc _).grown hg7 (fun e => by have := (hlt w.heap.size e.symm).1; omega)
        rw [← rowsV_app] at hown7
        clear hg7 hlt hown1
        go_wp2_with fail
        go_roundg (3 - (i + 1))
        case measure => omega
        case rel => exact ⟨i + 1, m + 1, _, by omega, by go_num, by simp [HM.out], by omega, hown7, hkr7, HB7.out⟩
      · go_wp2_with fail
        go_roundg (3 - (i + 1))
        case measure => omega
        case rel => exact ⟨i + 1, m, vs, by omega, by go_num, HM.out, by omega, hown1, HKR.out, HB1.out⟩
    · obtain rfl : i = 3 := by omega
      have HB := Lib.hid hbel
      have HM := Lib.hid hm
      have hzz := hbel.size
      have hgl := hblk.lt
      obtain ⟨wq, hwq⟩ : ∃ wq, ([Value.string ⟨#[109, 111, 110, 100, 97, 121]⟩, .string ⟨#[116, 117, 101, 115, 100, 97, 121]⟩, .string ⟨#[119, 101, 100, 110, 101, 115, 100, 97, 121]⟩, .string ⟨#[116, 104, 117, 114, 115, 100, 97, 121]⟩, .string ⟨#[102, 114, 105, 100, 97, 121]⟩, .string ⟨#[115, 97, 116, 117, 114, 100, 97, 121]⟩, .string ⟨#[115, 117, 110, 100, 97, 121]⟩] : List Value)[(d % 7).toNat]? = some (.string wq) := by
        have h7 : (d % 7).toNat < 7 := by omega
        generalize (d % 7).toNat = q at h7
        rcases q with _ | _ | _ | _ | _ | _ | _ | q
        all_goals first | exact ⟨_, rfl⟩ | omega
      clear hbel hm hblk
      go_wp2_with (at_builtin; refine wpList_append_own_at _ rfl _ _ 29 rfl (w.heap.size + 1) 28 i0 prZ 2 32 Tryd.underlying29 hi hz0 hz1 hz2 rfl (by decide) _ m _ rfl ((hown.alloc _).alloc _) ⟨wr.heap.size + 1, 0, none⟩ 1 1 (rowsV [(⟨#[119, 101, 101, 107, 100, 97, 121]⟩, wq)]) rfl rfl (new_cells _ _ (rowsV [(⟨#[119, 101, 101, 107, 100, 97, 121]⟩, wq)]) _ (by simp)) (rows_one _) (by unfold maxLen; omega) (by omega) (by simp; omega) ?_; intro v7 w7 hown7 hg7 _ _)
      have hlt := hown.lt
      have HB7 : Hid (Below w.heap.size w w7) := ((HB.out.alloc hzz _).alloc (by simp; omega) _).grown hg7 (by simp; omega) (fun g h => by have := (hlt g h).1; omega)
      rw [← rowsV_app] at hown7
      clear hg7 hlt hown
      go_ret
      exact ⟨v7, m + 1, _, rfl, own_low hown7 (by omega), by simp [HM.out], by omega, by omega, HB7.out⟩
end Go.Proofs.YtghadhdmbcigpaaDoor
