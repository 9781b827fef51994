/-
  DERIVED. The walk of find's reader.clause along a written clause. Conditions: sizes. By an AI agent.
-/
import Derived.Test.YtfikilpkaobiiaaQrClMath
import Derived.Deep.RegionLaw
namespace Go.Proofs.Ytfikilpkaobiiaa
open Go.RowKit

theorem Kp.drew {g B : Nat} {a w : World} (h : Kp g B a w) : Kp g B a w.drew := ⟨h.1.trans ⟨rfl, rfl, rfl, Nat.le_refl _, fun _ _ => rfl⟩, h.2.1, h.2.2⟩
def paZ : Value := .agg #[.int .i64 0, .slice none 0 0]
theorem pa_info : (Try.prog.info? 40).map (fun i => (i.zero, i.size, i.bytes)) = some (some paZ, 2, 32) := by kernel_rfl
theorem pa_one {k : Int} {A : Option Addr} {n c : Nat} : ∀ u ∈ [Value.int .i64 k, .slice A n c], u.oneCell' = true := by
  intro u hu
  simp only [List.mem_cons, List.not_mem_nil, or_false] at hu
  rcases hu with rfl | rfl <;> rfl

set_option maxRecDepth 100000 in
set_option maxHeartbeats 4000000 in
theorem rdClause (g : Nat) (s : ByteArray) (i E : Nat) (cl : Clause) (w : World) (h : Rd w g s i (-1)) (hc : okc cl) (hsz : s.size ≤ 4294967280) (hat : At s i (ctext cl) E) (hend : bt s E = -1 ∨ bt s E = 32) (hlen : cl.parts.length ≤ 4294967280) :
    Calls Try.prog 13 #[.pointer (some ⟨g, 0, none⟩)] w fun e w' => ∃ v, e = .returned (.agg #[.bool cl.neg, v]) ∧ RPX (fun b => w.heap.size ≤ b) w' v cl.parts ∧ Rd w' g s E (-1) ∧ Kp g w.heap.size w w' := by
  obtain ⟨i0, hi0, hz0', hz1, hz2⟩ := info_parts pa_info
  obtain ⟨hne, hok⟩ := hc
  have hEs : E ≤ s.size := hat.2.1
  obtain ⟨t0, T45, hJt⟩ : ∃ t0, Hid (∀ W, Rd W g s i (-1) → Calls Try.prog 12 #[.pointer (some ⟨g, 0, none⟩), .int .u8 45] W fun e w' => e = .returned (.bool cl.neg) ∧ Rd w' g s t0 (-1) ∧ Kp g W.heap.size W w') ∧ At s t0 (joinB (cl.parts.map ptext) bBar) E := by
    obtain ⟨h1, h2⟩ := hat.split
    obtain ⟨p, r, hp⟩ : ∃ p r, cl.parts = p :: r := by
      rcases hcp : cl.parts with _ | ⟨p, r⟩
      · exact absurd hcp hne
      · exact ⟨p, r, rfl⟩
    have hpf := ptext_first (hok p (by rw [hp]; exact List.mem_cons_self))
    have hjf := join_first (r := r.map ptext) (sep := bBar) hpf.1
    refine ⟨_, fun W hW => ?_, h2⟩
    refine (take_any g s i (-1) 45 W hW (by have := hat.1; omega) (by decide) hsz).mono ?_
    rintro e w' ⟨rfl, hR, hK⟩
    cases hn : cl.neg
    · rw [hn] at h2
      have hb : bt s i ≠ 45 := by
        have := h2.2.2 0 (by rw [hp]; exact hjf.1)
        rw [hp, List.map_cons, hjf.2] at this
        rw [show i = i + (if false = true then bMin else ⟨#[]⟩ : ByteArray).size + 0 from rfl, this]
        exact hpf.2.1
      rw [if_neg hb] at hR
      exact ⟨by rw [decide_eq_false hb], hR, hK⟩
    · rw [hn] at h1
      have hb : bt s i = 45 := h1.2.2 0 (by decide)
      rw [if_pos hb] at hR
      exact ⟨by rw [decide_eq_true hb], hR, hK⟩
  have HJT := Lib.hid hJt
  have HOK := Lib.hid hok
  have HNE := Lib.hid hne
  have HEND := Lib.hid hend
  have H := Lib.hid h
  have hgw : g < w.heap.size := Blk.lt h
  have HB : Hid (∀ t, t ≤ s.size → ∀ W, Rd W g s t (-1) → Calls Try.prog 12 #[.pointer (some ⟨g, 0, none⟩), .int .u8 124] W fun e w' => e = .returned (.bool (decide (bt s t = 124))) ∧ Rd w' g s (if bt s t = 124 then t + 1 else t) (-1) ∧ Kp g W.heap.size W w') := fun t ht W hW => take_any g s t (-1) 124 W hW ht (by decide) hsz
  have HP : Hid (∀ p ∈ cl.parts, ∀ t W, Rd W g s t (-1) → At s t (ptext p) (t + (ptext p).size) → (bt s (t + (ptext p).size) = -1 ∨ bt s (t + (ptext p).size) = 32 ∨ bt s (t + (ptext p).size) = 124) → Calls Try.prog 24 #[.pointer (some ⟨g, 0, none⟩)] W fun e w' => ∃ v, e = .returned (.agg #[.int .i64 p.kind, v]) ∧ RWn g w' w'.heap.size v p.words ∧ Rd w' g s (t + (ptext p).size) (-1) ∧ Kp g W.heap.size W w' ∧ Fr W.heap.size v) :=
    fun p hp t W hW hA hE => rdPart_any g s t p W hW (hok p hp) hsz hA.2.1 hA.2.2 hE
  clear hJt hne hok hend h hat
  obtain ⟨neg, hneg⟩ : ∃ neg, neg = cl.neg := ⟨_, rfl⟩
  rw [← hneg] at T45 ⊢
  obtain ⟨ps, hps⟩ : ∃ ps, ps = cl.parts := ⟨_, rfl⟩
  rw [← hps] at HJT HOK HNE HP hlen ⊢
  clear hneg hps
  go_enter Try.func13, Try.ntmps13
  go_wp2_with fail
  refine (T45.out _ (Blk.alloc H.out _)).mono ?_
  rintro e w1 ⟨rfl, hr1, hk1⟩
  have HR1 := Lib.hid hr1
  have HRB : Hid (Blk w1 w.heap.size 38 #[.bool false, .slice none 0 0]) := hk1.blk (Blk.new _ _ _) (by simp) (by omega)
  have HK1 : Hid (Kp g w.heap.size w w1) := (Kp.of_below ((Below.refl w.heap.size w).alloc (Nat.le_refl _) _) (by omega)).trans (hk1.less (by simp))
  have hz1' : w.heap.size < w1.heap.size := HRB.out.lt
  clear hr1 hk1
  have hpn : 0 < ps.length := List.length_pos_iff.2 HNE.out
  go_wp2_with fail
  go_loopg [] ps.length (fun gg wr => ∃ M rest v t, Hid (M.map Prod.fst ++ rest = ps) ∧ rest.length = gg ∧ 0 < gg ∧ Hid (At s t (joinB (rest.map ptext) bBar) E) ∧ Hid (ClRel g w1.heap.size s neg w wr v M t))
  case atStart =>
    exact ⟨[], ps, .slice none 0 0, t0, rfl, rfl, hpn, HJT, Blk.alloc HR1.out _, Blk.new _ _ _, World.ownsRow_nil _ _ _ _, (fun x hx => by cases hx), HRB.out.alloc _, HK1.out.trans (Kp.of_below ((Below.refl w.heap.size w1).alloc (by omega) _) (by omega))⟩
  case round =>
    obtain ⟨M, rest, v, t, hMr, hgl, hgp, hT, hC⟩ := hrel
    rcases rest with _ | ⟨p, r2⟩
    · simp at hgl; omega
    have d2 := hC.out.1.cell 2
    have c1 := hC.out.2.1.cell 1
    have hvp : p ∈ ps := by rw [← hMr.out]; simp
    have hMl : M.length ≤ 4294967280 := by
      have := congrArg List.length hMr.out
      simp at this; omega
    have hpw : 0 < p.words.length := (ckP_zero (HOK.out p hvp)).2.2.1
    -- the part's place
    have hAp : At s t (ptext p) (t + (ptext p).size) ∧ (bt s (t + (ptext p).size) = -1 ∨ bt s (t + (ptext p).size) = 32 ∨ bt s (t + (ptext p).size) = 124) ∧ (r2 = [] → t + (ptext p).size = E) ∧ (r2 ≠ [] → bt s (t + (ptext p).size) = 124 ∧ At s (t + (ptext p).size + 1) (joinB (r2.map ptext) bBar) E) := by
      have hA := hT.out
      rcases r2 with _ | ⟨p2, r3⟩
      · rw [List.map_cons, List.map_nil, joinB_one] at hA
        have he := hA.1
        refine ⟨by rw [he]; exact hA, by rw [he]; rcases HEND.out with h | h; exact .inl h; exact .inr (.inl h), fun _ => he, fun h => absurd rfl h⟩
      · have hA' := At.cons hA rfl
        exact ⟨hA'.1, .inr (.inr hA'.2.1), (fun h => by cases h), fun _ => ⟨hA'.2.1, hA'.2.2⟩⟩
    have HAP := Lib.hid hAp
    have hvpH := Lib.hid hvp
    clear hAp hvp
    have hlt := hC.out.2.2.1.lt
    have HLT := Lib.hid hlt
    clear hlt
    obtain ⟨t1, ht1⟩ : ∃ t1, t1 = t + (ptext p).size := ⟨_, rfl⟩
    rw [← ht1] at HAP
    have ht1s : t1 ≤ s.size := HAP.out.1.2.1
    have HPP : Hid (∀ W, Rd W g s t (-1) → Calls Try.prog 24 #[.pointer (some ⟨g, 0, none⟩)] W fun e w' => ∃ v, e = .returned (.agg #[.int .i64 p.kind, v]) ∧ RWn g w' w'.heap.size v p.words ∧ Rd w' g s t1 (-1) ∧ Kp g W.heap.size W w' ∧ Fr W.heap.size v) := by
      intro W hW
      have := HP.out p hvpH.out t W hW
      rw [← ht1] at this
      exact this HAP.out.1 HAP.out.2.1
    clear ht1
    go_wp2_with fail
    go_cut [] (fun wc => ∃ v' vp, Hid (ClRel g w1.heap.size s neg w wc v' (M ++ [(p, vp)]) t1))
    case first =>
      go_region_law (first | (refine step_append_any _ (by rfl) _ _ _ (by rfl) (w1.heap.size + 1) 40 i0 paZ 2 32 Try.underlying36 hi0 hz0' hz1 hz2 rfl (by decide) v M.length _ (by rfl) (HC5.out.2.2.1.alloc _) (w5.heap.size + 1) (some ⟨w5.heap.size, 0, none⟩) 1 1 [.int .i64 p.kind, .slice A5 n5 c5] (by rfl) ⟨rfl, fun _ => ⟨_, rfl, by simp, new_cells w5 _ [.int .i64 p.kind, .slice A5 n5 c5] _ rfl⟩⟩ pa_one (by unfold maxLen; omega) (by omega) (by have := HC5.out.2.1.lt; simp; omega) ?_; intro v7 w7 hown7 hg7 hv7; obtain ⟨g', cap', rfl⟩ := ownsRow_succ hown7; have h77 := ClRel.app HC5.out hgw hz1' HW5.out hown7 hg7 hv7; have HC7 := Lib.hid h77.2; have s1 := h77.1.cell 1; have s2 := h77.1.frozen 1; clear h77 hown7 hg7 hv7) | (go_simp; go_at_call 24; refine (HPP.out wr.drew hC.out.1).mono ?_; rintro e w5 ⟨vp, rfl, hv5, hr5, hk5, hf5⟩; have HK5 : Hid (Kp g wr.heap.size wr w5) := (Kp.refl g _ wr).drew.trans hk5; have HC5 := Lib.hid (hC.out.kp hgw hz1' HK5.out hr5); have HW5 := Lib.hid (hC.out.word hv5 hpw hf5); obtain ⟨A5, n5, c5, rfl, hx5⟩ := hv5; clear hx5; have c5c := HC5.out.2.1.cell 1; have c5d : ∀ o, (w5.alloc o).cell? ⟨w1.heap.size, 1, none⟩ = some v := fun o => (HC5.out.2.1.alloc o).cell 1; clear hr5 hk5 hf5))
      all_goals (go_wp2_with fail; go_meet)
      all_goals exact ⟨_, _, HC7⟩
    case rest =>
    obtain ⟨v', vp, hC⟩ := hcut
    clear HPP d2 c1 HLT
    by_cases hr2 : r2 = []
    · have he : t1 = E := HAP.out.2.2.1 hr2
      have hb : bt s t1 ≠ 124 := by rw [he]; rcases HEND.out with h | h <;> rw [h] <;> decide
      have HBF : Hid (decide (bt s t1 = 124) = false) := decide_eq_false hb
      have HMM : Hid ((M ++ [(p, vp)]).map Prod.fst = ps) := by
        show _ = _
        rw [← hMr.out, hr2]; simp
      have HIF : Hid ((if bt s t1 = 124 then t1 + 1 else t1) = t1) := if_neg hb
      have HE := Lib.hid he
      clear hb he hr2
      go_wp2_with fail
      refine (HB.out t1 ht1s wc hC.out.1).mono ?_
      rintro e w2 ⟨rfl, hr2, hk2⟩
      rw [HBF.out]
      rw [HIF.out] at hr2
      have HC2 := Lib.hid (hC.out.kp hgw hz1' hk2 hr2)
      clear hr2 hk2
      obtain ⟨M2, hM2⟩ : ∃ M2, M2 = M ++ [(p, vp)] := ⟨_, rfl⟩
      rw [← hM2] at HC2 HMM
      clear hM2
      have d0 := HC2.out.1.cell 0
      have d1 := HC2.out.1.cell 1
      have k0 : (0 : Int) ≤ (t1 : Int) := by omega
      have ways : ((¬ (t1 : Int) < (s.size : Int)) ∧ decide (t1 < s.size) = false ∧ decide ((t1 : Int) < (s.size : Int)) = false) ∨ (((t1 : Int) < (s.size : Int)) ∧ ∃ hl : t1 < s.size, ((s[t1].toNat : Int) != 32) = false) := by
        by_cases hl : t1 < s.size
        · refine .inr ⟨by omega, hl, ?_⟩
          have hb := HEND.out
          rw [← HE.out, bt_at hl] at hb
          rcases hb with h | h
          · omega
          · rw [h]; rfl
        · exact .inl ⟨by omega, decide_eq_false hl, decide_eq_false (by omega)⟩
      go_upto_region 5 with fail
      go_cut [43] (fun s43 wc => s43 = .bool false ∧ ∃ n, wc = w2.drewN n)
      case first =>
        rcases ways with ⟨j1, j2, j3⟩ | ⟨j1, hl, j2⟩
        all_goals
          go_quiet (fail)
          go_wp2_with fail
          go_meet
          exact ⟨rfl, _, rfl⟩
      case rest =>
      obtain ⟨rfl, n5, rfl⟩ := hcut
      have HC3 : Hid (ClRel g w1.heap.size s neg w (w2.drewN n5) v' M2 t1) := ⟨HC2.out.1, HC2.out.2.1, HC2.out.2.2.1, HC2.out.2.2.2.1, HC2.out.2.2.2.2.1, HC2.out.2.2.2.2.2.drewN _⟩
      have b0 := HC2.out.2.1.cell 0
      have b1 := HC2.out.2.1.cell 1
      have r0 := HC2.out.2.2.2.2.1.cell 0
      have r1 := HC2.out.2.2.2.2.1.cell 1
      have r2' := HC2.out.2.2.2.2.1.frozen 0
      have r3 := HC2.out.2.2.2.2.1.frozen 1
      clear ways d0 d1 k0
      obtain ⟨A, c, rfl, hrd⟩ := own_reads HC2.out.2.2.1
      clear hrd
      go_wp2_with fail
      obtain ⟨q0, q1, q2, q3, q4⟩ := HC3.out.fin hgw hz1' _ rfl
      refine bodyPost_ret (v := .agg #[.bool neg, .slice A M2.length c]) (by simp [results, Try.results13, go_sem, q0, q1]) rfl ⟨_, rfl, by rw [← HMM.out]; exact q2, by rw [← HE.out]; exact q3, q4⟩
    · have he := HAP.out.2.2.2 hr2
      have HBF : Hid (decide (bt s t1 = 124) = true) := decide_eq_true he.1
      have HIF : Hid ((if bt s t1 = 124 then t1 + 1 else t1) = t1 + 1) := if_pos he.1
      have HMM : Hid ((M ++ [(p, vp)]).map Prod.fst ++ r2 = ps) := by
        show _ = _
        rw [← hMr.out]; simp
      have HE := Lib.hid he.2
      have hrl : 0 < r2.length := List.length_pos_iff.2 hr2
      have hgl' : r2.length + 1 = gk := by simpa using hgl
      have HGL := Lib.hid hgl'
      clear he hr2 hgl hgl'
      go_wp2_with fail
      refine (HB.out t1 ht1s wc hC.out.1).mono ?_
      rintro e w2 ⟨rfl, hr2, hk2⟩
      rw [HBF.out]
      rw [HIF.out] at hr2
      have HC2 := Lib.hid (hC.out.kp hgw hz1' hk2 hr2)
      clear hr2 hk2
      go_wp2_with fail
      go_roundg r2.length
      case measure => have := HGL.out; omega
      case rel => exact ⟨M ++ [(p, vp)], r2, v', t1 + 1, HMM, rfl, hrl, HE, HC2⟩
end Go.Proofs.Ytfikilpkaobiiaa
