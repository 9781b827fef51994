/-
  DERIVED. The walks of card.StateText and ReadState and of the law StateRound. Conditions: the table of powers lies; the library's own bound holds some number. By an AI agent.
-/
import Derived.Test.YtiplhngpilcijaaDoorStNew
import Derived.Deep.LoopGhost
namespace Go.Proofs.YtiplhngpilcijaaDoor
open Go.RowKit

def strs (l : List Int) : List Value := l.map fun n => .string (wd n)
/-- the text of nine numbers -/
def stT (l : List Int) : ByteArray := ⟨(Lib.join ((l.map wd).map (·.data.toList)) [32]).toArray⟩
theorem stT_size {l : List Int} (h : ∀ n ∈ l, -1 ≤ n ∧ n ≤ 1000000) : (stT l).size ≤ 9 * l.length := by
  have := join_short ((l.map wd).map (·.data.toList)) (by
    intro x hx
    rw [List.map_map] at hx
    obtain ⟨n, hn, rfl⟩ := List.mem_map.1 hx
    have hb := h n hn
    exact itoa_len (n := n) (by omega))
  show (Lib.join _ [32]).toArray.size ≤ _
  simpa using this
theorem str_info : (Tryd.prog.info? 9).map (fun i => (i.zero, i.size, i.bytes)) = some (some (.string ⟨#[]⟩), 1, 16) := by kernel_rfl
theorem new_cells (w : World) (g : Nat) (cs : List Value) (t : TypeId) (hg : g = w.heap.size) : ∀ j u, cs[j]? = some u → (w.alloc (.cells cs.toArray t)).cell? ((⟨g, 0, none⟩ : Addr).add j) = some u := by
  subst hg
  intro j u hu
  rw [Addr.add_lit, Nat.zero_add, (Blk.new w t cs.toArray).cell j]
  simpa using hu
theorem map_inj' {α β : Type} {f : α → β} (hf : ∀ a b, f a = f b → a = b) : ∀ {l m : List α}, l.map f = m.map f → l = m
  | [], [], _ => rfl
  | [], _ :: _, h => by cases h
  | _ :: _, [], h => by cases h
  | a :: l, b :: m, h => by
    injection h with h1 h2
    rw [hf a b h1, map_inj' hf h2]
theorem ba_inj (a b : ByteArray) (h : a.data.toList = b.data.toList) : a = b := by
  cases a with | mk x => cases b with | mk y => cases x; cases y; simp at h; rw [h]
theorem stT_split {l : List Int} (hne : l ≠ []) : Lib.splitB ⟨#[32]⟩ 0 (Lib.countB (stT l) ⟨#[32]⟩) (stT l) = l.map wd := by
  refine map_inj' (f := fun b : ByteArray => b.data.toList) (fun a b => ba_inj a b) ?_
  rw [Lib.splitB_data]
  exact split_join 32 ((l.map wd).map (·.data.toList)) (by simpa using hne) (by
    intro x hx
    rw [List.map_map] at hx
    obtain ⟨n, _, rfl⟩ := List.mem_map.1 hx
    exact itoa_byte n)

set_option maxHeartbeats 4000000 in
set_option maxRecDepth 100000 in
theorem stateText_any (x0 x1 x2 x3 x4 x5 x6 x7 x8 : Int) (w : World) (hP : Pow w) :
    Calls Tryd.prog 5 #[stV x0 x1 x2 x3 x4 x5 x6 x7 x8] w fun e w' => (e = .returned (if csE x0 x1 x2 x3 x4 x5 x6 x7 x8 = 0 then .tuple #[.string (stT [x0, x1, x2, x3, x4, x5, x6, x7, x8]), .int .i64 0] else .tuple #[.string ⟨#[]⟩, .int .i64 (csE x0 x1 x2 x3 x4 x5 x6 x7 x8)])) ∧ Below w.heap.size w w' := by
  have CS := Lib.hid (fun w => checkState_any x0 x1 x2 x3 x4 x5 x6 x7 x8 w)
  have hbd0 := fun h => csE_bd (x0 := x0) (x1 := x1) (x2 := x2) (x3 := x3) (x4 := x4) (x5 := x5) (x6 := x6) (x7 := x7) (x8 := x8) h
  obtain ⟨E, hE⟩ : ∃ E, E = csE x0 x1 x2 x3 x4 x5 x6 x7 x8 := ⟨_, rfl⟩
  rw [← hE] at CS hbd0 ⊢
  clear hE
  have HPW := Lib.hid hP
  clear hP
  by_cases h0 : E = 0
  case neg =>
    have g1 : (E == 0) = false := by simpa using h0
    have g2 : (E != 0) = true := by simpa using h0
    rw [if_neg h0]
    clear h0 hbd0
    rw [show stV x0 x1 x2 x3 x4 x5 x6 x7 x8 = .agg #[.int .i64 x0, .int .i64 x1, .int .i64 x2, .int .i64 x3, .int .i64 x4, .int .i64 x5, .int .i64 x6, .int .i64 x7, .int .i64 x8] from rfl] at CS ⊢
    go_enter Tryd.func5, Tryd.ntmps5
    go_wp2_with fail
    refine (CS.out _).mono ?_
    rintro e w1 ⟨rfl, hb1⟩
    have R : Hid (Below w.heap.size w w1) := ((Below.refl _ _).alloc (Nat.le_refl _) _).trans (hb1.mono (by simp))
    clear hb1
    go_wp2_with fail
    go_ret2
    exact ⟨rfl, R.out⟩
  have hbd := hbd0 h0
  clear hbd0
  subst h0
  rw [if_pos rfl]
  obtain ⟨i0, hi, hz0, hz1, hz2⟩ := info_parts str_info
  obtain ⟨xs, hxs⟩ : ∃ xs : List Int, xs = [x0, x1, x2, x3, x4, x5, x6, x7, x8] := ⟨_, rfl⟩
  rw [← hxs] at hbd ⊢
  have hxl : xs.length = 9 := by rw [hxs]; rfl
  have hcs : (#[.int .i64 x0, .int .i64 x1, .int .i64 x2, .int .i64 x3, .int .i64 x4, .int .i64 x5, .int .i64 x6, .int .i64 x7, .int .i64 x8] : Array Value) = (xs.map (Value.int .i64)).toArray := by rw [hxs]; rfl
  have hsz := stT_size hbd
  have HBD := Lib.hid hbd
  have HXL := Lib.hid hxl
  have HCS := Lib.hid hcs
  rw [show stV x0 x1 x2 x3 x4 x5 x6 x7 x8 = .agg #[.int .i64 x0, .int .i64 x1, .int .i64 x2, .int .i64 x3, .int .i64 x4, .int .i64 x5, .int .i64 x6, .int .i64 x7, .int .i64 x8] from rfl] at CS ⊢
  clear hxs hxl hcs hbd
  go_enter Tryd.func5, Tryd.ntmps5
  go_wp2_with fail
  refine (CS.out _).mono ?_
  rintro e w1 ⟨rfl, hb1⟩
  have R1 : Hid (Below w.heap.size w w1) := ((Below.refl _ _).alloc (Nat.le_refl _) _).trans (hb1.mono (by simp))
  have hzw := R1.out.size
  have d0 := hb1.cell (p := ⟨w.heap.size, 0, none⟩) (by simp <;> omega)
  have d1 := hb1.cell (p := ⟨w.heap.size, 1, none⟩) (by simp <;> omega)
  have d2 := hb1.cell (p := ⟨w.heap.size, 2, none⟩) (by simp <;> omega)
  have d3 := hb1.cell (p := ⟨w.heap.size, 3, none⟩) (by simp <;> omega)
  have d4 := hb1.cell (p := ⟨w.heap.size, 4, none⟩) (by simp <;> omega)
  have d5 := hb1.cell (p := ⟨w.heap.size, 5, none⟩) (by simp <;> omega)
  have d6 := hb1.cell (p := ⟨w.heap.size, 6, none⟩) (by simp <;> omega)
  have d7 := hb1.cell (p := ⟨w.heap.size, 7, none⟩) (by simp <;> omega)
  have d8 := hb1.cell (p := ⟨w.heap.size, 8, none⟩) (by simp <;> omega)
  obtain ⟨W2, hW2⟩ : ∃ W2 : World, W2 = w1.alloc (.cells #[.int .i64 x0, .int .i64 x1, .int .i64 x2, .int .i64 x3, .int .i64 x4, .int .i64 x5, .int .i64 x6, .int .i64 x7, .int .i64 x8] 3) := ⟨_, rfl⟩
  have hW2s : W2.heap.size = w1.heap.size + 1 := by rw [hW2]; simp
  have hblk : Blk W2 w1.heap.size 3 (xs.map (Value.int .i64)).toArray := by rw [hW2, ← HCS.out]; exact Blk.new _ _ _
  have R2 : Hid (Below w.heap.size w W2) := by
    show Below _ _ _
    rw [hW2]; exact R1.out.trans ((Below.refl _ _).alloc (by omega) _)
  have HBLK := Lib.hid hblk
  have HW2 := Lib.hid hW2
  have HW2S := Lib.hid hW2s
  clear hb1 hW2 hblk hW2s
  go_wp2_with fail
  rw [← HW2.out]
  go_loopg [5, 33] 9 (fun gg s5 s33 wr => ∃ k : Nat, k + gg = 9 ∧ s33 = .int .i64 k ∧ wr.ownsRow W2.heap.size 9 1 s5 k (strs (xs.take k)) ∧ Below W2.heap.size W2 wr)
  case atStart => exact ⟨0, by omega, rfl, by rw [List.take_zero]; exact World.ownsRow_nil _ _ _ _, Below.refl _ _⟩
  case round =>
    obtain ⟨k, hkg, rfl, hown, hbel⟩ := hrel
    have hzz := hbel.size
    have hw2s := HW2S.out
    by_cases hk : k < 9
    · obtain ⟨z, hz⟩ : ∃ z, xs[k]? = some z := ⟨_, List.getElem?_eq_getElem (by have := HXL.out; omega)⟩
      obtain ⟨zb1, zb2⟩ := HBD.out z (List.mem_of_getElem? hz)
      have hcell : wr.cell? ⟨w1.heap.size, k, none⟩ = some (.int .i64 z) := by
        rw [hbel.cell (p := ⟨w1.heap.size, k, none⟩) (by show w1.heap.size < _; omega), HBLK.out.cell k]
        simp [hz]
      have htk : xs.take (k + 1) = xs.take k ++ [z] := by rw [List.take_add_one, hz]; rfl
      have hst : strs (xs.take (k + 1)) = strs (xs.take k) ++ [.string (wd z)] := by rw [htk]; simp [strs]
      have HST := Lib.hid hst
      have hpw : Pow wr := HPW.out.below (R2.out.trans (hbel.mono R2.out.size))
      have IT := Lib.hid (itoa_any z zb1 zb2 wr hpw)
      have ik : (k : Int) < 9 := by omega
      have ik0 : (0 : Int) ≤ (k : Int) := by omega
      clear hz htk hst hpw
      go_wp2_with fail
      refine IT.out.mono ?_
      rintro e wc ⟨rfl, hbc⟩
      have hownC := own_below hown hbc
      have hzc := hbc.size
      have HBC := Lib.hid (hbel.trans (hbc.mono hzz))
      have hcl := hownC.lt
      have HCL := Lib.hid hcl
      clear hbc hown hcl
      go_wp2_with (at_builtin; refine wpList_append_own_at _ rfl _ _ 33 rfl W2.heap.size 9 i0 (.string ⟨#[]⟩) 1 16 Tryd.underlying33 hi hz0 hz1 hz2 rfl (by decide) _ k _ rfl (hownC.alloc _) ⟨wc.heap.size, 0, none⟩ 1 1 [.string (wd z)] rfl rfl (new_cells _ _ [.string (wd z)] _ (by simp)) (by intro u hu; simp at hu; subst hu; rfl) (by unfold maxLen; omega) (by omega) (by simp; omega) ?_; intro v7 w7 hown7 hg7 _ _)
      have R : Hid (w7.ownsRow W2.heap.size 9 1 v7 (k + 1) (strs (xs.take (k + 1))) ∧ Below W2.heap.size W2 w7) :=
        ⟨by rw [HST.out]; exact hown7, (HBC.out.trans ((Below.refl _ _).alloc (by omega) _)).grown hg7 (by simp; omega) (fun g h => (HCL.out g h).1)⟩
      clear hown7 hg7 hownC
      go_wp2_with fail
      go_roundg (9 - (k + 1))
      case measure => omega
      case rel => exact ⟨k + 1, by omega, by go_num, R.out.1, R.out.2⟩
    · obtain rfl : k = 9 := by omega
      rw [List.take_of_length_le (by have := HXL.out; omega)] at hown
      obtain ⟨g, cap, cur, rfl, hbg, hg, hnc, hcm, hcs, htake⟩ : ∃ g cap cur, _ = Value.slice (some ⟨g, 0, none⟩) 9 cap ∧ W2.heap.size ≤ g ∧ wr.heap[g]? = some (.cells cur 9 (0, 0)) ∧ 9 ≤ cap ∧ cap ≤ maxLen ∧ cur.size = cap * 1 ∧ cur.toList.take (9 * 1) = strs xs := by
        rcases hown.2 with ⟨_, hz⟩ | ⟨g, cap, cur, hv, r⟩
        · exact absurd hz (by omega)
        · exact ⟨g, cap, cur, hv, r⟩
      have hlt := (hown.lt g rfl).2
      have hcj : ∀ (j : Nat) x, (xs.map wd)[j]? = some x → wr.cell? ⟨g, 0 + j, none⟩ = some (.string x) := fun j x hx => by
        have := hown.cells (g := g) rfl j (.string x) (by
          unfold strs
          rw [List.getElem?_map] at hx ⊢
          cases hz : xs[j]? with
          | none => rw [hz] at hx; cases hx
          | some z => rw [hz] at hx; simp at hx; subst hx; rfl)
        rw [Addr.add_lit] at this
        simpa using this
      have hml : (xs.map wd).length = 9 := by rw [List.length_map, HXL.out]
      have JO := Tryd.strings_Join g 0 cap (xs.map wd) ⟨#[32]⟩ wr hcj hlt (by omega) (by omega) (by
        have h1 : (Lib.join ((xs.map wd).map (·.data.toList)) (⟨#[32]⟩ : ByteArray).data.toList).length = (stT xs).size := by
          show _ = (Lib.join _ _).toArray.size
          simp
        rw [h1]
        have := HXL.out
        omega)
      rw [hml] at JO
      have JO := Lib.hid JO
      have R := Lib.hid (R2.out.trans (hbel.mono R2.out.size))
      have HJT : Hid ((⟨(Lib.join ((xs.map wd).map (·.data.toList)) (⟨#[32]⟩ : ByteArray).data.toList).toArray⟩ : ByteArray) = stT xs) := rfl
      have hr := R.out.size
      clear hown hbel hg hnc hcm hcs htake hcj hml hlt hbg
      go_wp2_with fail
      trace_state
      refine JO.out.mono ?_
      rintro e wj ⟨rfl, hbj⟩
      rw [HJT.out]
      have R3 := Lib.hid (R.out.trans (hbj.mono hr))
      clear hbj
      go_wp2_with fail
      go_ret2
      exact ⟨rfl, R3.out⟩
end Go.Proofs.YtiplhngpilcijaaDoor
