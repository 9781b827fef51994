/-
  DERIVED. What the walks of the reference's Applied share. Conditions: none.
  A base in a row of the call's own: one block taken out, one put in (append, copy, store). Conditions: sizes.
  The walk of the reference's Applied, kind 4. Conditions: sizes; an operation without error.
  By an AI agent.
-/
import Derived.Test.YtmkicfjcgbfaaaaGreatTg33
import Derived.Test.YtmkicfjcgbfaaaaGreatTg34
import Derived.Test.YtmkicfjcgbfaaaaGreatTg29
import Derived.Test.YtmkicfjcgbfaaaaGreatTg11
import Derived.Test.YtmkicfjcgbfaaaaGreatTg06
import Derived.Test.YtmkicfjcgbfaaaaGreatTg05
import Derived.Test.YtmkicfjcgbfaaaaGreatTg28
namespace Go.Proofs.YtmkicfjcgbfaaaaGreat
open Go.RowKit

/-- what the reference's Applied leaves -/
def ApplR (l : List Bl) (w : World) (e : Ending) (w' : World) : Prop := ∃ A n c, e = .returned (.slice A n c) ∧ RB w' w'.heap.size (.slice A n c) l ∧ Below w.heap.size w w'
end Go.Proofs.YtmkicfjcgbfaaaaGreat
namespace Go.Proofs.YtmkicfjcgbfaaaaGreat
open Go.RowKit

section
variable {w w' : World} {g cap : Nat} {M : List BK}
/-- the row without one block, by append(out[:i], out[i+1:]...) -/
theorem RowB.rem (h : RowB w g cap M) {i : Nat} (hi : i < M.length) : ∃ R : Array Value, RowB (w.setRow g R) g cap (M.take i ++ M.drop (i + 1)) ∧
    ∀ (ty : TypeId) (c0 : Nat) (ad : Addr), (0 < M.length - (i + 1) → ad = ⟨g, (i + 1) * 5, none⟩) → (Builtin.append_ #[22, 22] ty #[.slice (some ⟨g, 0, none⟩) i cap, .slice (some ad) (M.length - (i + 1)) c0]).run Tryz.prog w = .ok (.slice (some ⟨g, 0, none⟩) (M.length - 1) cap) (w.setRow g R) := by
  obtain ⟨i0, hi0, hq0, hq1, hq2⟩ := info_parts block_info
  obtain ⟨sp, h1, h2⟩ := h.row
  have hcl : (M.flatMap blV ++ sp).length = cap * 5 := by rw [List.length_append, fmB_len]; exact h2
  have htk : (M.flatMap blV ++ sp).take (i * 5) = (M.take i).flatMap blV := by
    rw [List.take_append_of_le_length (by rw [fmB_len]; omega), fmB_take]
  have hdl : ((M.drop (i + 1)).flatMap blV).length = (M.length - (i + 1)) * 5 := by rw [fmB_len, List.length_drop]
  obtain ⟨sp', hsp⟩ : ∃ sp', sp' = (M.flatMap blV ++ sp).drop (i * 5 + (M.length - (i + 1)) * 5) := ⟨_, rfl⟩
  have hlen : (M.take i ++ M.drop (i + 1)).length = M.length - 1 := by rw [List.length_append, List.length_take, List.length_drop]; omega
  refine ⟨((M.take i ++ M.drop (i + 1)).flatMap blV ++ sp').toArray, h.setRow ?_ ?_ fun x hx => ?_, fun ty c0 ad had => ?_⟩
  · rw [hlen, hsp, List.length_drop, hcl]
    have := h.len
    omega
  · rw [hlen]; have := h.few; omega
  · rcases List.mem_append.1 hx with hx | hx
    · exact h.nest x (List.mem_of_mem_take hx)
    · exact h.nest x (List.mem_of_mem_drop hx)
  · have := run_append_room (P := Tryz.prog) (ty := ty) w 22 38 i0 Tryz.underlying22 hi0 g i cap _ h1 ad (M.length - (i + 1)) c0 ((M.drop (i + 1)).flatMap blV) (by rw [hdl, hq1])
      (fun j v hj => by
        have hjl := (List.getElem?_eq_some_iff.1 hj).1
        rw [hdl] at hjl
        rw [had (by omega), Addr.add_lit]
        refine h.cells ?_
        rw [← fmB_drop, List.getElem?_drop] at hj
        exact hj) (fun v hv => h.one v (by rw [← fmB_drop] at hv; exact List.mem_of_mem_drop hv)) (by have := h.len; omega) (by rw [hdl, hq1, szB, h2]; have := h.len; omega)
    rw [hq1, hdl, List.toList_toArray, htk, ← hsp, ← List.flatMap_append, show i + (M.length - (i + 1)) = M.length - 1 by omega] at this
    exact this
/-- one block behind the row -/
theorem RowB.app1 (h : RowB w g cap M) (hl : M.length < 100000) {x : BK} {v' : Value} {base : Nat} (hx : NB w (fun b => b < w.heap.size ∧ b ≠ g) x) (hown : w'.ownsRow base 38 5 v' (M.length + 1) (M.flatMap blV ++ blV x)) (hg : w.grownBy w' (some g)) (hv : v'.ownBlock = some g ∨ v'.ownBlock = some w.heap.size) :
    ∃ g' cap', v' = .slice (some ⟨g', 0, none⟩) (M.length + 1) cap' ∧ base ≤ g' ∧ RowB w' g' cap' (M ++ [x]) := by
  have hlen : (M ++ [x]).length = M.length + 1 := by rw [List.length_append]; rfl
  have hfm : (M ++ [x]).flatMap blV = M.flatMap blV ++ blV x := by rw [List.flatMap_append, List.flatMap_singleton]
  rw [← hlen, ← hfm] at hown
  obtain ⟨g', cap', e, hb, hr⟩ := RowB.of_own hown (by omega) (by omega) fun y hy => by
    have hy' : NB w (fun b => b < w.heap.size ∧ b ≠ g) y := by
      rcases List.mem_append.1 hy with hy | hy
      · exact h.nest y hy
      · obtain rfl := List.mem_singleton.1 hy
        exact hx
    refine NB_ok _ _ _ _ y hy' (fun q hq => World.cell?_of_block (hg.block q.block hq.1 fun e => hq.2 (Option.some.inj e))) fun b hb' => ⟨Nat.lt_of_lt_of_le hb'.1 hg.size, ?_⟩
    rcases hv with e | e <;> rw [e]
    · exact fun e => hb'.2 (Option.some.inj e).symm
    · exact fun e => by have := Option.some.inj e; omega
  rw [hlen] at e
  exact ⟨g', cap', e, hb, hr⟩
/-- the blocks from a place on moved up by one, by copy(out[k+1:], out[k:]) -/
theorem RowB.shift {z : BK} (h : RowB w g cap (M ++ [z])) {k : Nat} (hk : k ≤ M.length) (o : Nat) (ho : 0 < M.length - k → o = (k + 1) * 5) (ho2 : o ≤ cap * 5) : ∃ (R : Array Value) (y : BK), RowB (w.setRow g R) g cap (M.take k ++ y :: M.drop k) ∧
    ∀ (ty : TypeId) (d0 c0 : Nat), (Builtin.copy_ #[22, 22] ty #[.slice (some ⟨g, o, none⟩) (M.length + 1 - (k + 1)) d0, .slice (some ⟨g, k * 5, none⟩) (M.length + 1 - k) c0]).run Tryz.prog w = .ok (goInt ((M.length + 1 - (k + 1) : Nat) : Int)) (w.setRow g R) := by
  obtain ⟨i0, hi0, hq0, hq1, hq2⟩ := info_parts block_info
  have hzz : (Tryz.prog.info? 38).map (·.size) = some 5 := by rw [hi0]; simp [hq1]
  obtain ⟨sp, h1, h2⟩ := h.row
  have hml : (M ++ [z]).length = M.length + 1 := by rw [List.length_append]; rfl
  rw [hml] at h2
  have hcl : ((M ++ [z]).flatMap blV ++ sp).length = cap * 5 := by rw [List.length_append, fmB_len, hml]; exact h2
  have hdl : ((M.drop k).flatMap blV).length = (M.length - k) * 5 := by rw [fmB_len, List.length_drop]
  have hmin : Nat.min (M.length + 1 - k) (M.length + 1 - (k + 1)) = M.length - k := by
    show min _ _ = _
    omega
  have hrun : ∀ (ty : TypeId) (d0 c0 : Nat), (Builtin.copy_ #[22, 22] ty #[.slice (some ⟨g, o, none⟩) (M.length + 1 - (k + 1)) d0, .slice (some ⟨g, k * 5, none⟩) (M.length + 1 - k) c0]).run Tryz.prog w = .ok (goInt ((M.length + 1 - (k + 1) : Nat) : Int)) (w.setRow g (((M ++ [z]).flatMap blV ++ sp).take o ++ (M.drop k).flatMap blV ++ ((M ++ [z]).flatMap blV ++ sp).drop (o + (M.length - k) * 5)).toArray) := fun ty d0 c0 => by
    have := run_copy_rowN (P := Tryz.prog) w 22 22 ty 38 g o (M.length + 1 - (k + 1)) d0 ⟨g, k * 5, none⟩ (M.length + 1 - k) c0 5 _ 38 ((M.drop k).flatMap blV) Tryz.underlying22 hzz h1 (by rw [hdl, hmin]) (fun j v hj => by
      have hjl := (List.getElem?_eq_some_iff.1 hj).1
      rw [Addr.add_lit]
      refine h.cells ?_
      rw [List.flatMap_append, List.getElem?_append_left (by rw [fmB_len]; rw [hdl] at hjl; omega)]
      rw [← fmB_drop, List.getElem?_drop] at hj
      exact hj) (by rw [hdl, List.size_toArray, hcl]; have hl := h.len; rw [hml] at hl; rcases Nat.eq_zero_or_pos (M.length - k) with e | e
                    · rw [e]; omega
                    · rw [ho e]; omega) (fun v hv => h.one v (by rw [← fmB_drop] at hv; rw [List.flatMap_append]; exact List.mem_append_left _ (List.mem_of_mem_drop hv)))
    rw [hmin, hdl, List.toList_toArray] at this
    rw [show M.length + 1 - (k + 1) = M.length - k by omega] at this ⊢
    exact this
  rcases Nat.eq_zero_or_pos (M.length - k) with e | e
  · obtain rfl : k = M.length := by omega
    refine ⟨_, z, ?_, hrun⟩
    have e2 : ((M ++ [z]).flatMap blV ++ sp).take o ++ (M.drop M.length).flatMap blV ++ ((M ++ [z]).flatMap blV ++ sp).drop (o + (M.length - M.length) * 5) = (M ++ [z]).flatMap blV ++ sp := by
      rw [List.drop_length, List.flatMap_nil, List.append_nil, Nat.sub_self, Nat.zero_mul, Nat.add_zero, List.take_append_drop]
    rw [e2, List.take_length, List.drop_length]
    refine h.setRow (M' := M ++ [z]) (by rw [hml]; exact h2) h.few fun x hx => h.nest x hx
  · have hkl : k < M.length := by omega
    obtain rfl : o = (k + 1) * 5 := ho e
    refine ⟨_, M[k], ?_, hrun⟩
    have e1 : ((M ++ [z]).flatMap blV ++ sp).take ((k + 1) * 5) = (M.take k ++ [M[k]]).flatMap blV := by
      rw [List.take_append_of_le_length (by rw [fmB_len, hml]; omega), fmB_take, List.take_append_of_le_length (by omega), List.take_succ_eq_append_getElem hkl]
    have e2 : ((M ++ [z]).flatMap blV ++ sp).drop ((k + 1) * 5 + (M.length - k) * 5) = sp := by
      rw [show (k + 1) * 5 + (M.length - k) * 5 = ((M ++ [z]).flatMap blV).length by rw [fmB_len, hml]; omega, List.drop_left]
    have e3 : (M.take k ++ [M[k]]).flatMap blV ++ (M.drop k).flatMap blV = (M.take k ++ M[k] :: M.drop k).flatMap blV := by
      rw [← List.flatMap_append, List.append_assoc]; rfl
    have hl2 : (M.take k ++ M[k] :: M.drop k).length = M.length + 1 := by rw [List.length_append, List.length_cons, List.length_take, List.length_drop]; omega
    rw [e1, e2, e3]
    refine h.setRow (by rw [hl2]; exact h2) (by rw [hl2]; have := h.few; rw [hml] at this; exact this) fun x hx => h.nest x (List.mem_append_left _ ?_)
    rcases List.mem_append.1 hx with hx | hx
    · exact List.mem_of_mem_take hx
    · rcases List.mem_cons.1 hx with rfl | hx
      · exact List.getElem_mem _
      · exact List.mem_of_mem_drop hx
/-- a new block stored whole at its place -/
theorem RowB.putNew {y : BK} {k : Nat} (h : RowB w g cap M) (hy : M[k]? = some y) (id p : Int) (s : ByteArray) :
    RowB (((((w.setCell ⟨g, k * 5, none⟩ (.int .i64 id)).setCell ⟨g, k * 5 + 1, none⟩ (.int .i64 p)).setCell ⟨g, k * 5 + 2, none⟩ (.slice none 0 0)).setCell ⟨g, k * 5 + 3, none⟩ (.string s)).setCell ⟨g, k * 5 + 4, none⟩ (.slice none 0 0)) g cap (M.set k (newB id p s)) := by
  obtain ⟨⟨yid, ypar, yks, ytx, yps⟩, ykv, ypv⟩ := y
  have hkl := (List.getElem?_eq_some_iff.1 hy).1
  have get : ∀ (M : List BK) (x : BK), k < M.length → (M.set k x)[k]? = some x := fun M x hl => by rw [List.getElem?_set, if_pos rfl, if_pos hl]
  have hn0 := h.nest _ (List.mem_of_getElem? hy)
  have s0 := h.store hy (j := 0) (y := (⟨id, ypar, yks, ytx, yps⟩, ykv, ypv)) (u := .int .i64 id) (by omega) rfl (by exact hn0)
  have q0 := get M (⟨id, ypar, yks, ytx, yps⟩, ykv, ypv) hkl
  have s1 := s0.store q0 (j := 1) (y := (⟨id, p, yks, ytx, yps⟩, ykv, ypv)) (u := .int .i64 p) (by omega) rfl (by have := s0.nest _ (List.mem_of_getElem? q0); exact this)
  have q1 := get (M.set k (⟨id, ypar, yks, ytx, yps⟩, ykv, ypv)) (⟨id, p, yks, ytx, yps⟩, ykv, ypv) (by rw [List.length_set]; exact hkl)
  have s2 := s1.store q1 (j := 2) (y := (⟨id, p, [], ytx, yps⟩, .slice none 0 0, ypv)) (u := .slice none 0 0) (by omega) rfl ⟨(newB_nest _ _ id p s).1, (s1.nest _ (List.mem_of_getElem? q1)).2⟩
  rw [List.set_set] at s1 s2 q1
  rw [List.set_set] at s2
  have q2 := get M (⟨id, p, [], ytx, yps⟩, .slice none 0 0, ypv) hkl
  have s3 := s2.store q2 (j := 3) (y := (⟨id, p, [], s, yps⟩, .slice none 0 0, ypv)) (u := .string s) (by omega) rfl (by have := s2.nest _ (List.mem_of_getElem? q2); exact this)
  have q3 := get (M.set k (⟨id, p, [], ytx, yps⟩, .slice none 0 0, ypv)) (⟨id, p, [], s, yps⟩, .slice none 0 0, ypv) (by rw [List.length_set]; exact hkl)
  have s4 := s3.store q3 (j := 4) (y := newB id p s) (u := .slice none 0 0) (by omega) rfl (newB_nest _ _ _ _ _)
  rw [List.set_set, List.set_set] at s4
  exact s4
end
/-- two turns of blocks in either order -/
theorem upd_comm (L : List Bl) (a b : Int) (h1 h2 : Bl → Bl) (e1 : ∀ x, (h1 x).id = x.id) (e2 : ∀ x, (h2 x).id = x.id) (hc : ∀ x, h1 (h2 x) = h2 (h1 x)) : upd (upd L a h1) b h2 = upd (upd L b h2) a h1 := by
  unfold upd
  rw [List.map_map, List.map_map]
  refine List.map_congr_left fun x _ => ?_
  show (if (if x.id = a then h1 x else x).id = b then h2 (if x.id = a then h1 x else x) else (if x.id = a then h1 x else x)) = (if (if x.id = b then h2 x else x).id = a then h1 (if x.id = b then h2 x else x) else (if x.id = b then h2 x else x))
  by_cases ha : x.id = a
  · by_cases hb : x.id = b
    · rw [if_pos ha, if_pos hb, if_pos (by rw [e1]; exact hb), if_pos (by rw [e2]; exact ha), hc]
    · rw [if_pos ha, if_neg hb, if_neg (by rw [e1]; exact hb), if_pos ha]
  · by_cases hb : x.id = b
    · rw [if_neg ha, if_pos hb, if_neg (by rw [e2]; exact ha)]
    · rw [if_neg ha, if_neg hb, if_neg ha]
end Go.Proofs.YtmkicfjcgbfaaaaGreat
namespace Go.Proofs.YtmkicfjcgbfaaaaGreat
open Go.RowKit

set_option maxRecDepth 100000 in
set_option maxHeartbeats 8000000 in
/-- the reference's Applied, kind 4 -/
theorem appliedR4 (l : List Bl) (f : Int → Option Int) (G : Good l f) (A : Option Addr) (n c : Nat) (o : Opn) (hk : o.kind = 4) (Av : Option Addr) (nv cv : Nat) (w : World) (B : Nat) (hB : B ≤ w.heap.size) (h : RB w B (.slice A n c) l) (hv : RV w B (.slice Av nv cv) o.val.items) (hoi : OI o) (he : opErr l f o = 0) :
    Calls Tryz.prog 22 #[.slice A n c, AO (o, .slice Av nv cv)] w (ApplR (applied l o) w) := by
  obtain ⟨p, x, hx, hxi, hed⟩ : ∃ (p : Nat) (x : Bl), l[p]? = some x ∧ x.id = o.id ∧ edErr x.text o.text o.from_ o.to_ = 0 := by
    cases G.op_facts he with
    | ins h => omega
    | rem h => omega
    | mov h => omega
    | edit h p x hx hxi he2 => exact ⟨p, x, hx, hxi, he2⟩
    | set h => omega
  have htx := txt_size (G.tree.loc _ (List.mem_of_getElem? hx)).1
  have hpx : posOf l o.id = (p : Int) := by rw [← hxi]; exact posOf_of G.kids.rise hx
  have HX := Lib.hid hx
  have HXI := Lib.hid hxi
  have HED := Lib.hid hed
  have HTX := Lib.hid htx
  have HPX := Lib.hid hpx
  have HAPP := Lib.hid (applied_edit (l := l) hk)
  have hn0 : 0 < n := by
    obtain ⟨r, hr, _⟩ := G.kids.root
    have := (List.getElem?_eq_some_iff.1 hr).1
    have := h.len.1
    omega
  have hn1 : n ≤ 2000 := by have := G.kids.short; have := h.len.1; omega
  obtain ⟨wa, hwa⟩ : ∃ wa, wa = w.alloc (.cells (opC o (.slice Av nv cv)) 31) := ⟨_, rfl⟩
  have HBA : Hid (Below w.heap.size w wa) := by rw [hwa]; exact (Below.refl _ _).alloc (Nat.le_refl _) _
  have P0 : Hid (Blk wa w.heap.size 31 (opC o (.slice Av nv cv))) := by rw [hwa]; exact Blk.new _ _ _
  have HZA : Hid (wa.heap.size = w.heap.size + 1) := by show _ = _; rw [hwa]; simp
  have HCO := Lib.hid (copied_any l A n c wa B (Nat.le_trans hB HBA.out.size) (h.below (HBA.out.mono hB)) hn0 (by omega))
  have HRI : Hid (Rise l ∧ IdsIn l) := ⟨G.kids.rise, G.kids.ids⟩
  have HLN : Hid (n = l.length) := h.len.1
  have HV := Lib.hid hv
  have HOI := Lib.hid hoi
  have HWA := Lib.hid hwa
  obtain ⟨ip, hip⟩ : ∃ ip, ip = posOf l o.id := ⟨_, rfl⟩
  obtain ⟨pp, hpp⟩ : ∃ pp, pp = posOf l o.parent := ⟨_, rfl⟩
  have HIP := Lib.hid hip
  have HPP := Lib.hid hpp
  have HK := Lib.hid hk
  obtain ⟨ok, oi, op, oa, of, ot, ox, on, ⟨vk, vi, vt, vs, vl⟩⟩ := o
  have hk : ok = 4 := HK.out
  subst hk
  dsimp only [AO, opC, Vl.kind, Vl.int_, Vl.to_, Vl.text, Vl.items] at P0 HWA HV HIP HPP ⊢
  clear hx hxi hed htx hpx G h hv hoi he hwa hip hpp hn0 HK
  go_enter Tryz.func22, Tryz.ntmps22
  go_upto_region 1 with fail
  rw [← HWA.out]
  go_wp2_with fail
  refine HCO.out.mono ?_
  rintro e w1 ⟨g1, cap1, n1, M1, rfl, hml1, hm1, hg1, hr1, hb1⟩
  have HB1 : Hid (Below w.heap.size w w1) := HBA.out.trans (hb1.mono HBA.out.size)
  have HG1 : Hid (w.heap.size < g1) := by show _ < _; have := HZA.out; omega
  have P1 := Lib.hid (P0.out.below hb1 P0.out.lt)
  have HML := Lib.hid hml1
  have HMM := Lib.hid hm1
  have HR1 := Lib.hid hr1
  have HAT : Hid (∀ id W, Below w1.heap.size w1 W → Calls Tryz.prog 71 #[.slice (some ⟨g1, 0, none⟩) n1 cap1, .int .i64 id] W fun e w' => e = .returned (.int .i64 (posOf l id)) ∧ Below w1.heap.size w1 w') := fun id W hW => by
    have := at_any (M1.map Prod.fst) (some ⟨g1, 0, none⟩) M1.length cap1 id W W.heap.size (Nat.le_refl _) ((HR1.out.below hW).rb)
    rw [HML.out, HMM.out] at this
    exact this.mono fun e w' h => ⟨h.1, hW.trans (h.2.mono hW.size)⟩
  have KS : Hid (∀ W, Below w1.heap.size w1 W → ∀ i, W.cell? ⟨w.heap.size, i, none⟩ = (#[.int .i64 4, .int .i64 oi, .int .i64 op, .int .i64 oa, .int .i64 of, .int .i64 ot, .string ox, .string on, .int .i64 vk, .int .i64 vi, .int .i64 vt, .string vs, .slice Av nv cv] : Array Value)[i]?) := fun W hW => fun i => (P1.out.below hW P1.out.lt).cell i
  have HAI := Lib.hid (HAT.out oi)
  have HAP := Lib.hid (HAT.out op)
  rw [← HIP.out] at HAI
  rw [← HPP.out] at HAP
  have e0 := KS.out w1 (Below.refl _ _)
  clear hml1 hm1 hg1 hr1 hb1
  go_upto_region 2 with fail
  go_cut [6, 7] (fun s6 s7 wd => s6 = .int .i64 ip ∧ s7 = .int .i64 pp ∧ Hid (Below w1.heap.size w1 wd))
  case first =>
    go_region_with (first
      | (go_at_call 71; (with_reducible refine Calls.mono (HAI.out _ ?hb) ?_); (case hb => first | exact HB9.out | with_reducible exact (Below.refl _ _).drew | with_reducible exact Below.refl _ _ | exact (Below.refl _ _).drew); rintro e w9 ⟨rfl, hb9⟩; have HB9 := Lib.hid hb9; have r0 := KS.out w9 hb9; clear hb9)
      | (go_at_call 71; (with_reducible refine Calls.mono (HAP.out _ ?hb) ?_); (case hb => first | exact HB9.out | with_reducible exact (Below.refl _ _).drew | with_reducible exact Below.refl _ _ | exact (Below.refl _ _).drew); rintro e w9 ⟨rfl, hb9⟩; have HB9 := Lib.hid hb9; have r0 := KS.out w9 hb9; clear hb9))
    all_goals
      go_wp2_with fail
      go_meet
      exact ⟨rfl, rfl, HB9⟩
  case rest =>
  obtain ⟨rfl, rfl, hbd⟩ := hcut
  obtain ⟨w2, rfl⟩ : ∃ w2, w2 = wc := ⟨_, rfl⟩
  have HB2 : Hid (Below w.heap.size w w2) := HB1.out.trans (hbd.out.mono HB1.out.size)
  have HR2 := Lib.hid (HR1.out.below hbd.out)
  have HKS := Lib.hid fun W (hW : Below w2.heap.size w2 W) => KS.out W (hbd.out.trans (hW.mono hbd.out.size))
  have HHAT := Lib.hid fun id W (hW : Below w2.heap.size w2 W) => HAT.out id W (hbd.out.trans (hW.mono hbd.out.size))
  have hzz := HB2.out.size
  have hg2 := HR2.out.lt
  have hg1 := HG1.out
  have HRR : Hid (Rise (M1.map Prod.fst)) := by show Rise _; rw [HMM.out]; exact HRI.out.1
  clear e0
  have e0 := HKS.out w2 (Below.refl _ _)
  have hipp : ip = (p : Int) := HIP.out.trans HPX.out
  subst hipp
  obtain ⟨xk, hxk, hxe⟩ := row_at HMM.out HX.out
  subst hxe
  obtain ⟨⟨xid, xpar, xks, xtx, xps⟩, xkv, xpv⟩ := xk
  have hpl : p < n1 := by have := (List.getElem?_eq_some_iff.1 hxk).1; have := HML.out; omega
  have HXK := Lib.hid hxk
  have hm4 := map_upd HRR.out hxk (fun b => b.withText (edS b.text ox of ot)) xkv xpv
  dsimp only [Bl.withText] at hm4
  rw [HMM.out] at hm4
  obtain ⟨T, hT⟩ : ∃ T, T = edS xtx ox of ot := ⟨_, rfl⟩
  have hed : edErr xtx ox of ot = 0 := HED.out
  have htx : xtx.size ≤ 65536 := HTX.out
  have hxi : xid = oi := HXI.out
  obtain ⟨h0, h1, h2, _⟩ := edErr_ok hed
  have HCALL : Hid (∀ W, Below w2.heap.size w2 W → Calls Tryz.prog 85 #[.string xtx, .agg #[.int .i64 of, .int .i64 ot, .string ox]] W fun e w' => e = .returned (.string T) ∧ Below w2.heap.size w2 w') := fun W hW => (Edited_any xtx ox of ot W (by omega) HOI.out.2.2.2.2.2 h0 h1 h2).mono fun e w' h => ⟨by rw [hT]; exact h.1, hW.trans (h.2.mono hW.size)⟩
  have HRW : Hid (∀ W, Below w2.heap.size w2 W → W.cell? ⟨g1, p * 5 + 3, none⟩ = some (.string xtx) ∧ W.frozen? ⟨g1, p * 5 + 3, none⟩ = false) := fun W hW =>
    have hr := HR2.out.below hW
    ⟨hr.cell HXK.out rfl, hr.frozen _⟩
  have HFIN : Hid (∀ W, Below w2.heap.size w2 W → RB (W.setCell ⟨g1, p * 5 + 3, none⟩ (.string T)) (W.setCell ⟨g1, p * 5 + 3, none⟩ (.string T)).heap.size (.slice (some ⟨g1, 0, none⟩) n1 cap1) (applied l ⟨4, oi, op, oa, of, ot, ox, on, ⟨vk, vi, vt, vs, vl⟩⟩) ∧ Below w.heap.size w (W.setCell ⟨g1, p * 5 + 3, none⟩ (.string T))) := fun W hW => by
    have hr := HR2.out.below hW
    have hnb := hr.nest _ (List.mem_of_getElem? HXK.out)
    have hst := hr.store HXK.out (j := 3) (u := .string T) (y := (⟨xid, xpar, xks, T, xps⟩, xkv, xpv)) (by omega) rfl ⟨hnb.1, hnb.2⟩
    have hrb := hst.rb
    rw [hT, hm4, hxi, List.length_set, HML.out] at hrb
    refine ⟨?_, (HB2.out.trans (hW.mono HB2.out.size)).setCell (p := ⟨g1, p * 5 + 3, none⟩) (by show w.heap.size ≤ g1; omega) _⟩
    rw [HAPP.out, hT]
    exact hrb
  obtain ⟨q0, q1⟩ := HRW.out w2 (Below.refl _ _)
  have i0 : (0 : Int) ≤ (p : Int) := by omega
  have i1 : (p : Int) < (n1 : Int) := by omega
  clear hxk hm4 hT hed htx hxi h0 h1 h2
  go_upto_region 22 with fail
  go_region_with (go_at_call 85; refine (HCALL.out _ (by first | with_reducible exact (Below.refl _ _).drew | with_reducible exact Below.refl _ _ | exact (Below.refl _ _).drew)).mono ?_; rintro e w9 ⟨rfl, hb9⟩; have HB9 := Lib.hid hb9; obtain ⟨r0, r1⟩ := HRW.out w9 hb9; have r2 := HKS.out w9 hb9; clear hb9)
  all_goals
    obtain ⟨hf9, hb9⟩ := HFIN.out _ HB9.out
    have HF9 := Lib.hid hf9
    have HX9 := Lib.hid hb9
    clear q0 q1 r0 r1 r2 e0 hf9 hb9
    go_wp2_with fail
    go_ret
    exact ⟨some ⟨g1, 0, none⟩, n1, cap1, rfl, HF9.out, HX9.out⟩
end Go.Proofs.YtmkicfjcgbfaaaaGreat
