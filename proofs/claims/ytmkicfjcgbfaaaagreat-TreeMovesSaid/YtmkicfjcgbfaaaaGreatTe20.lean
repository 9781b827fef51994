/-
  DERIVED. A queue of ints that a call makes: popped at its front, pushed at its end. Conditions: none.
  The walk of tree.copyBlock. Conditions: sizes.
  The walk of slices.IndexFunc at blocks. Conditions: sizes.
  By an AI agent.
-/
import Derived.Test.YtmkicfjcgbfaaaaGreatTe06
import Derived.ArgAppend
import Derived.Test.YtmkicfjcgbfaaaaGreatChecked
import Derived.Test.YtmkicfjcgbfaaaaGreatTe16
import Derived.Test.YtmkicfjcgbfaaaaGreatTe11
namespace Go.Proofs.YtmkicfjcgbfaaaaGreat
open Go.RowKit

/-- a queue in a row of the call's own -/
def Qu (w : World) (base : Nat) (v : Value) (T : List Int) : Prop := ∃ ad cap, v = .slice (some ad) T.length cap ∧ T.length ≤ cap ∧ cap ≤ maxLen ∧ (0 < cap → ∃ g off cur, ad = ⟨g, off, none⟩ ∧ base ≤ g ∧ w.heap[g]? = some (.cells cur 3 (0, 0)) ∧ off + cap = cur.size ∧ ∀ (j : Nat) (x : Int), T[j]? = some x → cur[off + j]? = some (.int .i64 x))
/-- all blocks but rows of ints are as they were -/
def Kept3 (w w' : World) : Prop := ∀ (i : Nat) (o : Obj), w.heap[i]? = some o → (∀ cur, o ≠ Obj.cells cur 3 (0, 0)) → w'.heap[i]? = some o
section
variable {w w' : World} {base : Nat} {v : Value} {T : List Int}
theorem Qu.start (w : World) (hb : base ≤ w.heap.size) (x : Int) : Qu (w.alloc (.cells #[.int .i64 x] 3)) base (.slice (some ⟨w.heap.size, 0, none⟩) 1 1) [x] :=
  ⟨_, 1, rfl, Nat.le_refl _, by unfold maxLen; omega, fun _ => ⟨w.heap.size, 0, _, rfl, hb, heap_alloc_new w _, rfl, fun j y h => by
    rcases j with _ | j
    · obtain rfl : x = y := by simpa using h
      rfl
    · simp at h⟩⟩
theorem Qu.grown (h : Qu w base v T) {row : Option Nat} (hg : w.grownBy w' row) (hr : ∀ g cur, row = some g → w.heap[g]? ≠ some (.cells cur 3 (0, 0))) : Qu w' base v T := by
  obtain ⟨ad, cap, h1, h2, h3, h4⟩ := h
  refine ⟨ad, cap, h1, h2, h3, fun hc => ?_⟩
  obtain ⟨g, off, cur, e, hb, hh, r⟩ := h4 hc
  have hlt : g < w.heap.size := by
    rcases Nat.lt_or_ge g w.heap.size with g' | g'
    · exact g'
    · rw [Array.getElem?_eq_none g'] at hh; cases hh
  exact ⟨g, off, cur, e, hb, (hg.block g hlt (fun e => hr g cur e.symm hh)).trans hh, r⟩
theorem Qu.alloc (h : Qu w base v T) (o : Obj) : Qu (w.alloc o) base v T := h.grown (World.grownBy_alloc w o none) (fun _ _ e => by cases e)
theorem Qu.drewN (h : Qu w base v T) (q : Nat) : Qu (w.drewN q) base v T := h
theorem Qu.below (h : Qu w base v T) (hb : Below w.heap.size w w') : Qu w' base v T := by
  obtain ⟨ad, cap, h1, h2, h3, h4⟩ := h
  refine ⟨ad, cap, h1, h2, h3, fun hc => ?_⟩
  obtain ⟨g, off, cur, e, hb', hh, r⟩ := h4 hc
  have hlt : g < w.heap.size := by
    rcases Nat.lt_or_ge g w.heap.size with g' | g'
    · exact g'
    · rw [Array.getElem?_eq_none g'] at hh; cases hh
  exact ⟨g, off, cur, e, hb', (hb.block g hlt).trans hh, r⟩
theorem Qu.pop {A : Option Addr} {n c : Nat} {x : Int} (h : Qu w base (.slice A n c) (x :: T)) : ∃ g off, A = some ⟨g, off, none⟩ ∧ n = T.length + 1 ∧ n ≤ c ∧ g < w.heap.size ∧ w.cell? ⟨g, off, none⟩ = some (.int .i64 x) ∧ (c = 1 → Qu w base (.slice (some ⟨g, off, none⟩) (n - 1) (c - 1)) T) ∧ (c ≠ 1 → Qu w base (.slice (some ⟨g, off + 1, none⟩) (n - 1) (c - 1)) T) := by
  obtain ⟨ad, cap, h1, h2, h3, h4⟩ := h
  injection h1 with e1 e2 e3
  subst e1 e2 e3
  rw [List.length_cons] at h2
  obtain ⟨g, off, cur, rfl, hb, hh, hs, r⟩ := h4 (by omega)
  have hlt : g < w.heap.size := by
    rcases Nat.lt_or_ge g w.heap.size with g' | g'
    · exact g'
    · rw [Array.getElem?_eq_none g'] at hh; cases hh
  refine ⟨g, off, rfl, rfl, by rw [List.length_cons]; exact h2, hlt, (cell_of_row w g off cur _ _ hh).trans (r 0 x rfl), fun hc => ?_, fun hc => ?_⟩
  · exact ⟨_, c - 1, by rw [List.length_cons, Nat.add_sub_cancel], by omega, by omega, fun hc' => by omega⟩
  · refine ⟨_, c - 1, by rw [List.length_cons, Nat.add_sub_cancel], by omega, by omega, fun hc' => ⟨g, off + 1, cur, rfl, hb, hh, by omega, fun j y hj => ?_⟩⟩
    rw [show off + 1 + j = off + (j + 1) by omega]
    exact r (j + 1) y (by rw [List.getElem?_cons_succ]; exact hj)
theorem Qu.len {A : Option Addr} {n c : Nat} (h : Qu w base (.slice A n c) T) : n = T.length ∧ n ≤ c := by
  obtain ⟨ad, cap, h1, h2, h3, h4⟩ := h
  injection h1 with e1 e2 e3
  subst e1 e2 e3
  exact ⟨rfl, h2⟩
theorem Qu.slice (h : Qu w base v T) : ∃ A n c, v = .slice A n c := by
  obtain ⟨ad, cap, h1, _⟩ := h
  exact ⟨_, _, _, h1⟩
theorem int_row : (Tryz.prog.info? 3).map (fun i => (i.zero, i.size, i.bytes)) = some (some (.int .i64 0), 1, 8) := by kernel_rfl
set_option maxRecDepth 100000 in
theorem Qu.push (h : Qu w base v T) (hb : base ≤ w.heap.size) (hn : T.length ≤ 1000000) {ad : Addr} {c : Nat} {x : Int} (hx : w.cell? ad = some (.int .i64 x)) (ty : TypeId) :
    ∃ v' w', (Builtin.append_ #[34, 34] ty #[v, .slice (some ad) 1 c]).run Tryz.prog w = .ok v' w' ∧ Qu w' base v' (T ++ [x]) ∧ Below base w w' ∧ Kept3 w w' ∧ w.heap.size ≤ w'.heap.size := by
  obtain ⟨i, hi, hz, hs, hby⟩ := info_parts int_row
  obtain ⟨a0, cap, rfl, h2, h3, h4⟩ := h
  have hnews : ∀ j u, [Value.int .i64 x][j]? = some u → w.cell? (ad.add j) = some u := fun j u hu => by
    rcases j with _ | j
    · obtain rfl : Value.int .i64 x = u := by simpa using hu
      exact hx
    · simp at hu
  by_cases hroom : T.length + 1 ≤ cap
  · obtain ⟨g, off, cur, rfl, hbg, hh, hcs, r⟩ := h4 (by omega)
    have hcell : ∀ k, w.cell? ⟨g, k, none⟩ = cur[k]? := fun k => cell_of_row w g k cur _ _ hh
    have hin : off + T.length < cur.size := by omega
    have hrun := run_append_room_cells (P := Tryz.prog) w 34 ty 3 i Tryz.underlying34 hi g off T.length cap ad 1 c [.int .i64 x] (by rw [hs]; rfl) hnews (fun u hu => by
      obtain rfl : u = .int .i64 x := by simpa using hu
      rfl) hroom (fun j hj => by
        obtain rfl : j = 0 := by simpa using hj
        rw [hs, hcell, Nat.mul_one, Nat.add_zero, Array.getElem?_eq_getElem hin]; rfl) (fun j hj => by
        simp [World.frozen?, hh])
    rw [hs, Nat.mul_one] at hrun
    refine ⟨_, _, hrun, ?_⟩
    rw [show w.setCells g (off + T.length) [.int .i64 x] = w.setCell ⟨g, off + T.length, none⟩ (.int .i64 x) from rfl]
    have hh' : (w.setCell ⟨g, off + T.length, none⟩ (.int .i64 x)).heap[g]? = some (.cells (cur.setIfInBounds (off + T.length) (.int .i64 x)) 3 (0, 0)) := by
      simp [World.setCell, Array.getElem?_modify, hh]
    refine ⟨⟨_, cap, by rw [List.length_append]; rfl, by rw [List.length_append]; exact hroom, h3, fun _ => ⟨g, off, _, rfl, hbg, hh', by rw [Array.size_setIfInBounds]; exact hcs, fun j y hj => ?_⟩⟩, (Below.refl _ _).setCell (p := ⟨g, off + T.length, none⟩) hbg _, fun k o hk ho => ?_, by simp [World.setCell]⟩
    · rcases Nat.lt_or_ge j T.length with hjl | hjl
      · rw [List.getElem?_append_left hjl] at hj
        rw [Array.getElem?_setIfInBounds_ne (by omega)]
        exact r j y hj
      · rw [List.getElem?_append_right hjl] at hj
        have h0 : j - T.length = 0 := by
          have := (List.getElem?_eq_some_iff.1 hj).1
          simp at this; omega
        rw [h0] at hj
        obtain rfl : x = y := by simpa using hj
        obtain rfl : j = T.length := by omega
        rw [Array.getElem?_setIfInBounds_self_of_lt hin]
    · by_cases e : k = g
      · subst e
        rw [hh] at hk
        injection hk with hk
        exact absurd hk.symm (ho _)
      · rw [← hk]
        exact (Below.heap_setCell w ⟨g, off + T.length, none⟩ _ k e)
  · have holds : ∀ j u, (T.map (Value.int .i64))[j]? = some u → w.cell? (a0.add j) = some u := fun j u hu => by
      rw [List.getElem?_map, Option.map_eq_some_iff] at hu
      obtain ⟨y, hy, rfl⟩ := hu
      have := (List.getElem?_eq_some_iff.1 hy).1
      obtain ⟨g, off, cur, rfl, hbg, hh, hcs, r⟩ := h4 (by omega)
      rw [Addr.add_lit]
      exact (cell_of_row w g _ cur _ _ hh).trans (r j y hy)
    obtain ⟨v', w', hrun, hown, hg⟩ := run_append_arg_grows (P := Tryz.prog) w 34 ty 3 i (.int .i64 0) 1 8 Tryz.underlying34 hi hz hs hby rfl (by decide) a0 T.length cap (T.map (Value.int .i64)) (by rw [List.length_map, Nat.mul_one]) holds ad 1 c [.int .i64 x] rfl hnews (by omega) (by unfold maxLen; omega) (by omega)
    refine ⟨v', w', hrun, ?_, (Below.refl _ _).grown hg hb (fun _ e => by cases e), fun k o hk _ => ?_, hg.size⟩
    · obtain ⟨h5, h6⟩ := hown
      rcases h6 with ⟨_, h6⟩ | ⟨g, cap', cur, rfl, hbg, hh, hnc, hcm, hcs, htk⟩
      · omega
      · refine ⟨_, cap', by rw [List.length_append]; rfl, by rw [List.length_append]; exact hnc, hcm, fun _ => ⟨g, 0, cur, rfl, by omega, hh, by omega, fun j y hj => ?_⟩⟩
        have hjl := (List.getElem?_eq_some_iff.1 hj).1
        have e : (cur.toList.take ((T.length + 1) * 1))[j]? = some (.int .i64 y) := by
          rw [htk, show T.map (Value.int .i64) ++ [Value.int .i64 x] = (T ++ [x]).map (Value.int .i64) by simp, List.getElem?_map, hj]; rfl
        rw [List.getElem?_take] at e
        split at e
        · rw [Nat.zero_add]; simpa using e
        · cases e
    · have hlt : k < w.heap.size := by
        rcases Nat.lt_or_ge k w.heap.size with g' | g'
        · exact g'
        · rw [Array.getElem?_eq_none g'] at hk; cases hk
      exact (hg.block k hlt (by simp)).trans hk
theorem MapIn.kept3 {P : Program} {k e : TypeId} {α : Type} {lt : α → DU} {b n : Nat} {f : Int → Option α} (h : MapIn P k e lt w b n f) (hk : Kept3 w w') : MapIn P k e lt w' b n f := by
  obtain ⟨D, ⟨es, clock, h1, h2⟩, h3⟩ := h
  exact ⟨D, ⟨es, clock, hk _ _ h1 (fun _ e => by cases e), h2⟩, h3⟩
theorem Blk.kept3 {g : Nat} {t : TypeId} {cs : Array Value} (h : Blk w g t cs) (hk : Kept3 w w') (ht : t ≠ 3) : Blk w' g t cs :=
  hk _ _ h (fun _ e => by injection e with _ e; exact ht e)
end
end Go.Proofs.YtmkicfjcgbfaaaaGreat
namespace Go.Proofs.YtmkicfjcgbfaaaaGreat
open Go.RowKit

/-- what copying a block leaves -/
def CopyBR (x : Bl) (w : World) (e : Ending) (w' : World) : Prop := (∃ Kx nx cx Px mx ex, e = .returned (AB (x, .slice Kx nx cx, .slice Px mx ex)) ∧ RInX w' (fun b => w.heap.size ≤ b ∧ b < w'.heap.size) (.slice Kx nx cx) x.kids ∧ RPrX w' (fun b => w.heap.size ≤ b ∧ b < w'.heap.size) (.slice Px mx ex) x.props) ∧ Below w.heap.size w w'
set_option maxRecDepth 100000 in
set_option maxHeartbeats 4000000 in
/-- tree.copyBlock -/
theorem copyBlock_any (x : Bl) (Kx Px : Option Addr) (nx cx mx ex : Nat) (w : World) (B : Nat) (hB : B ≤ w.heap.size) (h1 : RIn w B (.slice Kx nx cx) x.kids) (h2 : RPr w B (.slice Px mx ex) x.props) :
    Calls Tryz.prog 134 #[AB (x, .slice Kx nx cx, .slice Px mx ex)] w (CopyBR x w) := by
  obtain ⟨wb, hwb⟩ : ∃ wb, wb = (w.alloc (.cells #[.int .i64 x.id, .int .i64 x.parent, .slice Kx nx cx, .string x.text, .slice Px mx ex] 38)).alloc (.cells #[.int .i64 0, .int .i64 0, .slice none 0 0, .string ⟨#[]⟩, .slice none 0 0] 38) := ⟨_, rfl⟩
  have hbb : Below w.heap.size w wb := by rw [hwb]; exact ((Below.refl _ _).alloc (Nat.le_refl _) _).alloc (by simp) _
  have p0 : Blk wb w.heap.size 38 #[.int .i64 x.id, .int .i64 x.parent, .slice Kx nx cx, .string x.text, .slice Px mx ex] := by rw [hwb]; exact (Blk.new w _ _).alloc _
  have p1 : Blk wb (w.heap.size + 1) 38 #[.int .i64 0, .int .i64 0, .slice none 0 0, .string ⟨#[]⟩, .slice none 0 0] := by
    rw [hwb]
    have h := Blk.new (w.alloc (.cells #[.int .i64 x.id, .int .i64 x.parent, .slice Kx nx cx, .string x.text, .slice Px mx ex] 38)) 38 #[.int .i64 0, .int .i64 0, .slice none 0 0, .string ⟨#[]⟩, .slice none 0 0]
    simpa only [World.size_alloc] using h
  have hzb : wb.heap.size = w.heap.size + 2 := by rw [hwb]; simp
  have HCK := Lib.hid (cloneI_any Kx nx cx x.kids wb B (h1.below (hbb.mono hB)))
  have HCP := Lib.hid fun W (hW : Below w.heap.size w W) => copyProps_any Px mx ex x.props W B (Nat.le_trans hB hW.size) (h2.below (hW.mono hB))
  have HBB := Lib.hid hbb
  have HWB := Lib.hid hwb
  have HZB := Lib.hid hzb
  have P0 := Lib.hid p0
  have P1 := Lib.hid p1
  have e2 : wb.cell? ⟨w.heap.size, 2, none⟩ = some (.slice Kx nx cx) := p0.cell 2
  clear h1 h2 hbb hwb hzb p0 p1
  dsimp only [AB]
  go_enter Tryz.func134, Tryz.ntmps134
  go_upto_region 1 with fail
  rw [← HWB.out]
  go_wp2_with fail
  refine HCK.out.mono ?_
  rintro e w1 ⟨⟨A1, n1, c1, rfl, hn1, _, hr1, hc1⟩, hb1⟩
  have HCL := Lib.hid (clipI_any A1 n1 c1 w1 hc1 hn1)
  have HB1 : Hid (Below w.heap.size w w1) := HBB.out.trans (hb1.mono HBB.out.size)
  have hz1 : w.heap.size + 2 ≤ w1.heap.size := by have := hb1.size; have := HZB.out; omega
  have q0 := P0.out.below hb1 (by have := HZB.out; omega)
  have q1 := P1.out.below hb1 (by have := HZB.out; omega)
  have HR1 : Hid (RInX w1 (fun b => w.heap.size + 2 ≤ b ∧ b < w1.heap.size) (.slice A1 n1 n1) x.kids) := hr1.weak fun b hb => ⟨by have := HZB.out; omega, hb.2⟩
  have Q0 := Lib.hid q0
  have Q1 := Lib.hid q1
  have k2 := q0.cell 2
  have f2 := q0.frozen 2
  clear hn1 hr1 hc1 hb1 q0 q1 e2
  go_wp2_with fail
  refine HCL.out.mono ?_
  rintro e w2 ⟨rfl, rfl⟩
  obtain ⟨w3, hw3⟩ : ∃ w3, w3 = w2.setCell ⟨w.heap.size, 2, none⟩ (.slice A1 n1 n1) := ⟨_, rfl⟩
  have r0 : Blk w3 w.heap.size 38 #[.int .i64 x.id, .int .i64 x.parent, .slice A1 n1 n1, .string x.text, .slice Px mx ex] := by rw [hw3]; exact Q0.out.set_ 2 _
  have r1 : Blk w3 (w.heap.size + 1) 38 #[.int .i64 0, .int .i64 0, .slice none 0 0, .string ⟨#[]⟩, .slice none 0 0] := by rw [hw3]; exact Q1.out.far (p := ⟨w.heap.size, 2, none⟩) (by show w.heap.size + 1 ≠ w.heap.size; omega) _
  have HB3 : Hid (Below w.heap.size w w3) := by rw [hw3]; exact HB1.out.setCell (p := ⟨w.heap.size, 2, none⟩) (Nat.le_refl _) _
  have hz3 : w3.heap.size = w2.heap.size := by rw [hw3]; simp [World.setCell]
  have HR3 : Hid (RInX w3 (fun b => w.heap.size + 2 ≤ b ∧ b < w3.heap.size) (.slice A1 n1 n1) x.kids) := by
    show RInX _ _ _ _
    rw [hz3]
    exact HR1.out.keep fun p hp => by rw [hw3]; exact World.cell?_setCell_other _ _ _ _ (by intro e; subst e; have := hp.1; simp at this; omega)
  have HCX := Lib.hid (HCP.out w3 HB3.out)
  have R0 := Lib.hid r0
  have R1 := Lib.hid r1
  have k4 := r0.cell 4
  have HW3 := Lib.hid hw3
  clear r0 r1 hw3
  go_upto_region 2 with fail
  rw [← HW3.out]
  clear k2 f2
  go_wp2_with fail
  refine HCX.out.mono ?_
  rintro e w4 ⟨⟨A4, n4, c4, rfl, hr4⟩, hb4⟩
  have hz4 : w3.heap.size ≤ w4.heap.size := hb4.size
  have hp0 := R0.out.below hb4 (by omega)
  have hp1 := R1.out.below hb4 (by omega)
  have HB4 : Hid (Below w.heap.size w w4) := HB3.out.trans (hb4.mono HB3.out.size)
  have HR4 : Hid (RInX w4 (fun b => w.heap.size + 2 ≤ b ∧ b < w4.heap.size) (.slice A1 n1 n1) x.kids) := (HR3.out.keep fun p hp => hb4.cell hp.2).weak fun b hb => ⟨hb.1, by omega⟩
  have HRP : Hid (RPrX w4 (fun b => w.heap.size + 2 ≤ b ∧ b < w4.heap.size) (.slice A4 n4 c4) x.props) := hr4.weak fun b hb => ⟨by omega, hb.2⟩
  have e0 := fun i => hp0.cell i
  have f0 := fun i => hp0.frozen i
  have e1 := fun i => hp1.cell i
  have f1 := fun i => hp1.frozen i
  have HP1 := Lib.hid hp1
  clear hr4 hb4 k4 hp0 hp1
  go_wp2_with fail
  have PF := (((((HP1.out.far (p := ⟨w.heap.size, 4, none⟩) (by show w.heap.size + 1 ≠ w.heap.size; omega) (.slice A4 n4 c4)).set_ 0 (.int .i64 x.id)).set_ 1 (.int .i64 x.parent)).set_ 2 (.slice A1 n1 n1)).set_ 3 (.string x.text)).set_ 4 (.slice A4 n4 c4)
  have HBF : Below w.heap.size w _ := (((((HB4.out.setCell (p := ⟨w.heap.size, 4, none⟩) (Nat.le_refl _) (.slice A4 n4 c4)).setCell (p := ⟨w.heap.size + 1, 0, none⟩) (Nat.le_succ _) (.int .i64 x.id)).setCell (p := ⟨w.heap.size + 1, 1, none⟩) (Nat.le_succ _) (.int .i64 x.parent)).setCell (p := ⟨w.heap.size + 1, 2, none⟩) (Nat.le_succ _) (.slice A1 n1 n1)).setCell (p := ⟨w.heap.size + 1, 3, none⟩) (Nat.le_succ _) (.string x.text)).setCell (p := ⟨w.heap.size + 1, 4, none⟩) (Nat.le_succ _) (.slice A4 n4 c4)
  obtain ⟨F, hF⟩ : ∃ F, F = ((((((w4.setCell ⟨w.heap.size, 4, none⟩ (.slice A4 n4 c4)).setCell ⟨w.heap.size + 1, 0, none⟩ (.int .i64 x.id)).setCell ⟨w.heap.size + 1, 1, none⟩ (.int .i64 x.parent)).setCell ⟨w.heap.size + 1, 2, none⟩ (.slice A1 n1 n1)).setCell ⟨w.heap.size + 1, 3, none⟩ (.string x.text)).setCell ⟨w.heap.size + 1, 4, none⟩ (.slice A4 n4 c4)) := ⟨_, rfl⟩
  rw [← hF] at PF HBF ⊢
  have hFk : ∀ p : Addr, w.heap.size + 2 ≤ p.block → F.cell? p = w4.cell? p := fun p h1 => by
    rw [hF]
    repeat rw [World.cell?_setCell_other _ _ p _ (by intro e; subst e; dsimp only at h1; omega)]
  have hFs : F.heap.size = w4.heap.size := by rw [hF]; simp [World.setCell]
  have r0 := PF.cell 0
  have r1 := PF.cell 1
  have r2 := PF.cell 2
  have r3 := PF.cell 3
  have r4 := PF.cell 4
  refine bodyPost_ret (v := AB (x, .slice A1 n1 n1, .slice A4 n4 c4)) (by simp [results, Tryz.results134, go_sem, r0, r1, r2, r3, r4, AB]) rfl ⟨⟨A1, n1, n1, A4, n4, c4, rfl, ?_, ?_⟩, HBF⟩
  · exact (HR4.out.keep (fun p hp => hFk p hp.1)).weak fun b hb => ⟨by omega, by rw [hFs]; exact hb.2⟩
  · exact (HRP.out.keep (fun p hp => hFk p hp.1)).weak fun b hb => ⟨by omega, by rw [hFs]; exact hb.2⟩
end Go.Proofs.YtmkicfjcgbfaaaaGreat
namespace Go.Proofs.YtmkicfjcgbfaaaaGreat
open Go.RowKit

/-- what a closure that looks for an id says -/
def IdCl (g : Nat) : Prop := ∀ (x : Bl) (Kx Px : Option Addr) (nx cx mx ex P : Nat) (id : Int) (w : World), P < w.heap.size → w.cell? ⟨P, 0, none⟩ = some (.int .i64 id) → Calls Tryz.prog g #[AB (x, .slice Kx nx cx, .slice Px mx ex), .pointer (some ⟨P, 0, none⟩)] w fun e w' => e = .returned (.bool (x.id == id)) ∧ Below w.heap.size w w'
set_option maxHeartbeats 2000000 in
/-- slices.IndexFunc at blocks, with a closure that looks for an id -/
theorem indexF_any (g : Nat) (hg : IdCl g) (hent : ∀ args w, (callFunc g args).run Tryz.prog w = .ok (.enter g args) w) (l : List Bl) (A : Option Addr) (n c P : Nat) (id : Int) (w : World) (B : Nat) (hB : B ≤ w.heap.size) (hP : P < w.heap.size) (hPc : w.cell? ⟨P, 0, none⟩ = some (.int .i64 id)) (h : RB w B (.slice A n c) l) :
    Calls Tryz.prog 113 #[.slice A n c, .func (.func g) #[] #[.pointer (some ⟨P, 0, none⟩)]] w fun e w' => e = .returned (.int .i64 (posOf l id)) ∧ Below w.heap.size w w' := by
  obtain ⟨V, hV⟩ : ∃ V, V = posOf l id := ⟨_, rfl⟩
  rw [← hV]
  have HV : Hid (V = posFrom (l.drop 0) id 0) := hV
  have HN := Lib.hid h.len
  have H := Lib.hid h
  have HG := Lib.hid hg
  have HPC := Lib.hid hPc
  clear h hV hg hPc
  go_enter Tryz.func113, Tryz.ntmps113
  go_wp2_with fail
  go_loopg [8] n (fun gg s8 wr => ∃ k : Nat, k + gg = n ∧ s8 = .int .i64 (k : Int) ∧ Hid (V = posFrom (l.drop k) id k) ∧ Hid (Below w.heap.size w wr))
  case atStart => exact ⟨0, by omega, rfl, HV, Below.refl _ _⟩
  case round =>
    obtain ⟨k, hkg, rfl, hno, hbel⟩ := hrel
    have hbg : n * 80 ≤ 140737488351232 := HN.out.2.2
    by_cases hk : k < n
    · obtain ⟨x, hx⟩ : ∃ x, l[k]? = some x := ⟨_, List.getElem?_eq_getElem (by have := HN.out.1; omega)⟩
      obtain ⟨b, off, Ak, nk, ck, Ap, np, cp, rfl, hbb, g0, g1, g2, g3, g4, _, _⟩ := (H.out.below (hbel.out.mono hB)).at_ hx
      have hst := hno.out.trans (posFrom_at hx id)
      have HX := Lib.hid (HG.out x Ak Ap nk ck np cp P id wr (Nat.lt_of_lt_of_le hP hbel.out.size) ((hbel.out.cell (p := ⟨P, 0, none⟩) hP).trans HPC.out))
      dsimp only [AB] at HX
      have j0 : (0 : Int) ≤ (k : Int) := by omega
      have j1 : (k : Int) < (n : Int) := by omega
      clear hx
      obtain ⟨q, hq⟩ : ∃ q, (x.id == id) = q := ⟨_, rfl⟩
      rw [hq] at HX
      cases q
      · have HS := Lib.hid (hst.trans (if_neg (by simpa using hq)))
        clear hst hq
        go_wp2_with fail
        refine HX.out.mono ?_
        rintro e w2 ⟨rfl, hb⟩
        have HB2 : Hid (Below w.heap.size w w2) := hbel.out.trans (hb.mono hbel.out.size)
        clear hb
        go_wp2_with fail
        go_roundg (n - (k + 1))
        case measure => omega
        case rel => exact ⟨k + 1, by omega, by go_num, HS, HB2⟩
      · have HS := Lib.hid (hst.trans (if_pos (by simpa using hq)))
        clear hst hq
        go_wp2_with fail
        refine HX.out.mono ?_
        rintro e w2 ⟨rfl, hb⟩
        have HB2 : Hid (Below w.heap.size w w2) := hbel.out.trans (hb.mono hbel.out.size)
        clear hb
        go_wp2_with fail
        go_ret
        exact ⟨by rw [HS.out]; rfl, HB2.out⟩
    · obtain rfl : n = k := by omega
      have HZ : Hid (V = -1) := hno.out.trans (by rw [List.drop_of_length_le (by rw [← HN.out.1]; exact Nat.le_refl _)]; rfl)
      go_wp2_with fail
      go_ret
      exact ⟨by rw [HZ.out]; rfl, hbel.out⟩

end Go.Proofs.YtmkicfjcgbfaaaaGreat
