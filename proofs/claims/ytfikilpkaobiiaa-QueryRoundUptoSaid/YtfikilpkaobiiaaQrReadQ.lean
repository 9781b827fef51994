/-
  DERIVED. The walk of find.ReadQuery along a written query. Conditions: sizes. By an AI agent.
-/
import Derived.Test.YtfikilpkaobiiaaQrRqMath
namespace Go.Proofs.Ytfikilpkaobiiaa
open Go.RowKit

def clZ : Value := .agg #[.bool false, .slice none 0 0]
theorem cl_info : (Try.prog.info? 38).map (fun i => (i.zero, i.size, i.bytes)) = some (some clZ, 2, 32) := by kernel_rfl
theorem cl_one {k : Bool} {A : Option Addr} {n c : Nat} : ∀ u ∈ [Value.bool k, .slice A n c], u.oneCell' = true := by
  intro u hu
  simp only [List.mem_cons, List.not_mem_nil, or_false] at hu
  rcases hu with rfl | rfl <;> rfl

set_option maxRecDepth 100000 in
set_option maxHeartbeats 4000000 in
theorem readQuery_any (cs : List Clause) (s : ByteArray) (w : World) (hs : s = qtext cs) (hq : okQ cs) (hlen : cs.length ≤ 4294967280) :
    Calls Try.prog 6 #[.string s] w fun e w' => ∃ v, e = .returned (.tuple #[.agg #[v], .int .i64 0, .int .i64 0]) ∧ RC w' w'.heap.size v cs ∧ Below w.heap.size w w' := by
  obtain ⟨i0, hi0, hz0', hz1, hz2⟩ := info_parts cl_info
  obtain ⟨hnp, hok, hs400⟩ := hq
  rw [← hs] at hs400
  have hst : NX s cs 0 0 := by rw [hs]; exact NX.start cs hok
  have hsz : s.size ≤ 4294967280 := by omega
  have i4 : ¬ (400 : Int) < (s.size : Int) := by omega
  have HST := Lib.hid hst
  have HOK := Lib.hid hok
  have HSP : Hid (∀ t, t ≤ s.size → ∀ g W, Rd W g s t (-1) → Calls Try.prog 12 #[.pointer (some ⟨g, 0, none⟩), .int .u8 32] W fun e w' => e = .returned (.bool (decide (bt s t = 32))) ∧ Rd w' g s (if bt s t = 32 then t + 1 else t) (-1) ∧ Kp g W.heap.size W w') := fun t ht g W hW => take_any g s t (-1) 32 W hW ht (by decide) hsz
  have HNPT : Hid (∀ k, (cs.take k).length ≤ cs.length) := fun k => by rw [List.length_take]; omega
  have HCL : Hid (∀ c ∈ cs, c.parts.length ≤ 4294967280) := by
    intro c hc
    obtain ⟨k, hk, rfl⟩ := List.mem_iff_getElem.1 hc
    have h1 := np_take cs k _ (List.getElem?_eq_getElem hk)
    have h2 := np_le cs (k + 1)
    omega
  have HNP := Lib.hid hnp
  clear hs hst hok
  go_enter Try.func6, Try.ntmps6
  go_wp2_with fail
  go_loopg [] cs.length (fun gg wr => ∃ M rest v t u, Hid (M.map Prod.fst ++ rest = cs) ∧ rest.length = gg ∧ Hid (NX s rest t u) ∧ Hid (QRel (w.heap.size + 1) (w.heap.size + 1 + 1) s w wr v M t))
  case atStart =>
    refine ⟨[], cs, .slice none 0 0, 0, 0, rfl, rfl, HST, ?_, ?_, World.ownsRow_nil _ _ _ _, (fun x hx => by cases hx), ((Blk.new _ _ _).alloc _).alloc _, (((Below.refl _ _).alloc (Nat.le_refl _) _).alloc (by simp) _).alloc (by simp; omega) _⟩
    · have := (Blk.new (w.alloc (.cells #[.slice none 0 0] 24)) 46 #[.string s, .int .i64 0, .int .i64 (-1)]).alloc (.cells #[.slice none 0 0] 24)
      simpa [Rd] using this
    · have := Blk.new ((w.alloc (.cells #[.slice none 0 0] 24)).alloc (.cells #[.string s, .int .i64 0, .int .i64 (-1)] 46)) 24 #[.slice none 0 0]
      simpa using this
  case round =>
    obtain ⟨M, rest, v, t, u, hMr, hgl, hN, hC⟩ := hrel
    have hl := hN.out.le
    have hN1 := hN.out.1
    have HN1 := Lib.hid hN1
    have d2 := hC.out.1.cell 2
    have HGL := Lib.hid hgl
    clear hN1 hgl
    go_wp2_with fail
    obtain ⟨W1, hW1⟩ : ∃ W1, W1 = wr := ⟨_, rfl⟩
    rw [← hW1] at hC ⊢
    clear hW1
    go_loopg [] (u - t) (fun g2 wi => ∃ t2, t2 + g2 = u ∧ Hid (t2 = u ∨ (t2 + 1 = u ∧ bt s t2 = 32)) ∧ Hid (QRel (w.heap.size + 1) (w.heap.size + 1 + 1) s w wi v M t2))
    case atStart => exact ⟨t, by omega, HN1, hC⟩
    case round =>
      obtain ⟨t2, htg, hway, hC2⟩ := hrel
      have ht2 : t2 ≤ s.size := by omega
      by_cases hb : bt s t2 = 32
      · have hu : t2 + 1 = u := by
          rcases hway.out with h | h
          · exact absurd (by rw [← h]; exact hb) hN.out.2.2
          · exact h.1
        have HBT : Hid (decide (bt s t2 = 32) = true) := decide_eq_true hb
        have HIF : Hid ((if bt s t2 = 32 then t2 + 1 else t2) = u) := (if_pos hb).trans hu
        have hu0 : t2 < u := by omega
        clear hb hu
        go_wp2_with fail
        refine (HSP.out t2 ht2 _ wr hC2.out.1).mono ?_
        rintro e w2 ⟨rfl, hr2, hk2⟩
        rw [HBT.out]
        rw [HIF.out] at hr2
        have HC3 := Lib.hid (hC2.out.kp (by omega) (by omega) hk2 hr2)
        clear hr2 hk2
        go_wp2_with fail
        go_roundg 0
        case measure => omega
        case rel => exact ⟨u, by omega, .inl rfl, HC3⟩
      · have hu : t2 = u := by
          rcases hway.out with h | h
          · exact h
          · exact absurd h.2 hb
        have HBT : Hid (decide (bt s t2 = 32) = false) := decide_eq_false hb
        have HIF : Hid ((if bt s t2 = 32 then t2 + 1 else t2) = u) := (if_neg hb).trans hu
        clear hb hu
        go_wp2_with fail
        refine (HSP.out t2 ht2 _ wr hC2.out.1).mono ?_
        rintro e w2 ⟨rfl, hr2, hk2⟩
        rw [HBT.out]
        rw [HIF.out] at hr2
        have HC3 := Lib.hid (hC2.out.kp (by omega) (by omega) hk2 hr2)
        clear hr2 hk2
        have d1 := HC3.out.1.cell 1
        rcases rest with _ | ⟨c, r⟩
        · have hus : u = s.size := hN.out.nil
          have e1 : ((u : Int) == (s.size : Int)) = true := beq_iff_eq.2 (by omega)
          have HMM : Hid (M.map Prod.fst = cs) := by have := hMr.out; rw [List.append_nil] at this; exact this
          clear hus d1
          have d1 := HC3.out.1.cell 1
          have d2' := HC3.out.1.cell 2
          obtain ⟨A, n, hv, hrd⟩ := own_reads HC3.out.2.2.1
          subst hv
          clear hrd
          have q0 := HC3.out.2.1.cell 0
          obtain ⟨q, hq⟩ : ∃ q, q = np cs := ⟨_, rfl⟩
          have HRC : Hid (RC w2 w2.heap.size (.slice A M.length n) cs) := by show RC _ _ _ _; rw [← HMM.out]; exact HC3.out.rc
          have HPT : Hid (Calls Try.prog 8 #[.agg #[.slice A M.length n]] w2 fun e w' => e = .returned (.int .i64 q) ∧ Below w2.heap.size w2 w') := by
            show Calls _ _ _ _ _
            rw [hq]
            exact parts_any cs _ w2 _ HRC.out (Nat.le_refl _) (by omega) hlen
          have hq20 : ¬ (20 : Int) < (q : Int) := by omega
          clear hq
          go_wp2_with fail
          refine HPT.out.mono ?_
          rintro e w3 ⟨rfl, hb3⟩
          have hgz : w.heap.size + 1 < w2.heap.size := HC3.out.1.lt
          have HC4 := Lib.hid (HC3.out.kp (by omega) (by omega) (Kp.of_below hb3 (by omega)) (Blk.below HC3.out.1 hb3 hgz))
          have q1 := HC4.out.2.1.cell 0
          have r0 := HC4.out.2.2.2.2.1.cell 0
          have r1 := HC4.out.2.2.2.2.1.frozen 0
          clear hb3
          go_wp2_with fail
          obtain ⟨z0, z1, z2⟩ := HC4.out.fin (by omega) (by omega) _ rfl
          refine bodyPost_ret (v := .tuple #[.agg #[.slice A M.length n], .int .i64 0, .int .i64 0]) (by simp [results, Try.results6, go_sem, z0]) rfl ⟨_, rfl, by rw [← HMM.out]; exact z1, z2⟩
        · have HAC := hN.out.cons (fun x hx => HOK.out x (by rw [← hMr.out]; exact List.mem_append_right _ hx))
          have hcm : c ∈ cs := by rw [← hMr.out]; simp
          have hus : u < s.size := HAC.2.2.1
          have e1 : ((u : Int) == (s.size : Int)) = false := beq_eq_false_iff_ne.2 (by omega)
          have HCC : Hid (∀ W, Rd W (w.heap.size + 1) s u (-1) → Calls Try.prog 13 #[.pointer (some ⟨w.heap.size + 1, 0, none⟩)] W fun e w' => ∃ v, e = .returned (.agg #[.bool c.neg, v]) ∧ RPX (fun b => W.heap.size ≤ b) w' v c.parts ∧ Rd w' (w.heap.size + 1) s (u + (ctext c).size) (-1) ∧ Kp (w.heap.size + 1) W.heap.size W w') := fun W hW =>
            rdClause (w.heap.size + 1) s u _ c W hW (HOK.out c hcm) hsz HAC.1 HAC.2.1 (HCL.out c hcm)
          obtain ⟨u', hu'⟩ := HAC.2.2.2
          obtain ⟨t1, ht1⟩ : ∃ t1, t1 = u + (ctext c).size := ⟨_, rfl⟩
          rw [← ht1] at HCC hu'
          have HNN := Lib.hid hu'
          have hMl : M.length ≤ 4294967280 := by
            have := congrArg List.length hMr.out
            simp at this; omega
          have HMM : Hid ((M.map Prod.fst ++ [c]) ++ r = cs) := by show _ = _; rw [← hMr.out]; simp
          clear HAC hcm hus ht1 hu'
          have c1 := HC3.out.2.1.cell 0
          go_wp2_with fail
          go_region_law (first | (refine step_append_any _ (by rfl) _ _ _ (by rfl) (w.heap.size + 1 + 1 + 1) 38 i0 clZ 2 32 Try.underlying22 hi0 hz0' hz1 hz2 rfl (by decide) v M.length _ (by rfl) (HC5.out.2.2.1.alloc _) (w5.heap.size + 1) (some ⟨w5.heap.size, 0, none⟩) 1 1 [.bool c.neg, .slice A5 n5 c5] (by rfl) ⟨rfl, fun _ => ⟨_, rfl, by simp, new_cells w5 _ [.bool c.neg, .slice A5 n5 c5] _ rfl⟩⟩ cl_one (by unfold maxLen; omega) (by omega) (by have := HC5.out.2.1.lt; simp; omega) ?_; intro v7 w7 hown7 hg7 hv7; obtain ⟨g', cap', rfl⟩ := ownsRow_succ hown7; have h77 := QRel.app HC5.out (by omega) (by omega) HW5.out hown7 hg7 hv7; have HC7 := Lib.hid h77.2; have s1 := h77.1.cell 0; have s2 := h77.1.frozen 0; clear h77 hown7 hg7 hv7) | (go_simp; go_at_call 13; refine (HCC.out w2.drew HC3.out.1).mono ?_; rintro e w5 ⟨vp, rfl, hv5, hr5, hk5⟩; have HK5 : Hid (Kp (w.heap.size + 1) w2.heap.size w2 w5) := (Kp.refl _ _ w2).drew.trans hk5; have HC5 := Lib.hid (HC3.out.kp (by omega) (by omega) HK5.out hr5); have HW5 := Lib.hid (HC3.out.cl hv5); obtain ⟨A5, n5, c5, M5, hx1, rfl, hx2⟩ := hv5; clear hx1 hx2; have c5c := HC5.out.2.1.cell 0; have c5d : ∀ o, (w5.alloc o).cell? ⟨w.heap.size + 1 + 1, 0, none⟩ = some v := fun o => (HC5.out.2.1.alloc o).cell 0; clear hr5 hk5))
          all_goals
            go_wp2_with fail
            go_roundg r.length
            case measure => have := HGL.out; simp at this; omega
            case rel => exact ⟨M ++ [(c, _)], r, _, t1, u', by show _ = _; rw [← HMM.out]; simp, rfl, HNN, HC7⟩
end Go.Proofs.Ytfikilpkaobiiaa
