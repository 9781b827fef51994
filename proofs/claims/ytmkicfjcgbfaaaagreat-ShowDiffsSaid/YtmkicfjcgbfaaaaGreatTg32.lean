/-
  DERIVED. The walk of tree.checkMove. Conditions: sizes; a base without error.
  The walk of the reference's used. Conditions: sizes.
  By an AI agent.
-/
import Derived.Test.YtmkicfjcgbfaaaaGreatTg28
import Derived.Test.YtmkicfjcgbfaaaaGreatTg27
import Derived.Test.YtmkicfjcgbfaaaaGreatTg26
import Derived.Deep.DeepCutAuto
namespace Go.Proofs.YtmkicfjcgbfaaaaGreat
open Go.RowKit

theorem less_count : ∀ {l : List Int}, l.Nodup → ∀ x : Int, (lessK l x).length + (if x ∈ l then 1 else 0) = l.length
  | [], _, x => by simp [lessK]
  | a :: l, h, x => by
    obtain ⟨h1, h2⟩ := List.nodup_cons.1 h
    have ih := less_count h2 x
    unfold lessK at *
    rw [List.filter_cons]
    by_cases e : a = x
    · subst e
      rw [if_neg (by simp), if_pos (by simp), List.length_cons]
      rw [if_neg h1] at ih
      omega
    · rw [if_pos (by simpa using e), List.length_cons, List.length_cons]
      have : (x ∈ a :: l) = (x ∈ l) := by
        rw [List.mem_cons, eq_iff_iff]
        exact ⟨fun h => h.resolve_left (fun q => e q.symm), .inr⟩
      simp only [this]
      omega

set_option maxRecDepth 100000 in
set_option maxHeartbeats 4000000 in
/-- tree.checkMove -/
theorem checkMove_any (l : List Bl) (f : Int → Option Int) (G : Good l f) (Al : Option Addr) (n cl : Nat) (o : Opn) (Av : Option Addr) (nv cv : Nat) (w : World) (B : Nat) (hB : B ≤ w.heap.size) (h : RB w B (.slice Al n cl) l) (ho : OI o) :
    Calls Tryz.prog 122 #[.slice Al n cl, AO (o, .slice Av nv cv)] w fun e w' => e = .returned (.int .i64 (movErr l f o)) ∧ Below w.heap.size w w' := by
  have HIa := Lib.hid fun W (hW : Below w.heap.size w W) => index_any l Al n cl o.id W B (Nat.le_trans hB hW.size) (h.below (hW.mono hB)) G.kids.rise G.kids.ids ho.1
  have HIp := Lib.hid fun W (hW : Below w.heap.size w W) => index_any l Al n cl o.parent W B (Nat.le_trans hB hW.size) (h.below (hW.mono hB)) G.kids.rise G.kids.ids ho.2.1
  have HN := Lib.hid h.len.1
  have hbg : n * 80 ≤ 140737488351232 := h.len.2.2
  have H := Lib.hid h
  obtain ⟨V, hV⟩ : ∃ V, V = movErr l f o := ⟨_, rfl⟩
  rw [← hV]
  unfold movErr at hV
  have HV := Lib.hid hV
  obtain ⟨wa, hwa⟩ : ∃ wa, wa = w.alloc (.cells (opC o (.slice Av nv cv)) 31) := ⟨_, rfl⟩
  have HBA : Hid (Below w.heap.size w wa) := by rw [hwa]; exact (Below.refl _ _).alloc (Nat.le_refl _) _
  have P0 : Hid (Blk wa w.heap.size 31 (opC o (.slice Av nv cv))) := by rw [hwa]; exact Blk.new _ _ _
  have HWA := Lib.hid hwa
  clear h hV hwa
  dsimp only [AO]
  go_enter Tryz.func122, Tryz.ntmps122
  go_upto_region 1 with fail
  rw [← HWA.out]
  have e0 := fun i => P0.out.cell i
  go_wp2_with fail
  refine (HIp.out wa HBA.out).mono ?_
  rintro e w1 ⟨rfl, hb⟩
  have HB1 : Hid (Below w.heap.size w w1) := HBA.out.trans (hb.mono HBA.out.size)
  have P1 := Lib.hid (P0.out.below hb P0.out.lt)
  clear hb e0
  have e0 := fun i => P1.out.cell i
  by_cases h1 : o.id = 0
  · have HL : Hid (V = 7) := HV.out.trans (if_pos (.inl h1))
    have h1' : (o.id == 0) = true := by simpa using h1
    clear h1
    go_wp2_with fail
    go_ret
    exact ⟨by rw [HL.out]; rfl, HB1.out⟩
  have h1' : (o.id == 0) = false := by simpa using h1
  go_wp2_with fail
  refine (HIa.out w1 HB1.out).mono ?_
  rintro e w2 ⟨rfl, hb⟩
  have HB2 : Hid (Below w.heap.size w w2) := HB1.out.trans (hb.mono HB1.out.size)
  have P2 := Lib.hid (P1.out.below hb P1.out.lt)
  clear hb e0
  have e0 := fun i => P2.out.cell i
  by_cases h2 : posOf l o.id < 0
  · have HL : Hid (V = 7) := HV.out.trans (if_pos (.inr (.inl h2)))
    go_wp2_with fail
    go_ret
    exact ⟨by rw [HL.out]; rfl, HB2.out⟩
  by_cases h3 : posOf l o.parent < 0
  · have HL : Hid (V = 7) := HV.out.trans (if_pos (.inr (.inr h3)))
    go_wp2_with fail
    go_ret
    exact ⟨by rw [HL.out]; rfl, HB2.out⟩
  have HV1 := Lib.hid (HV.out.trans (if_neg (by omega)))
  obtain ⟨p, b, d, hp, hlp, hbi, hba, hd, hd40, hdF⟩ := G.blk_at (id := o.parent) (by omega)
  obtain ⟨p2, b2, d2, hp2, hlp2, hbi2, hba2, hd2, hd402, hdF2⟩ := G.blk_at (id := o.id) (by omega)
  rw [hba, hdF, Int.toNat_natCast] at HV1
  rw [hp]
  have hpn : p < n := by have := (List.getElem?_eq_some_iff.1 hlp).1; have := HN.out; omega
  obtain ⟨bb, off, Ak, nk, ck, Ap, np, cp, rfl, hbb, _, _, g2, _, _, hK, _⟩ := H.out.at_ hlp
  have hkl : nk = b.kids.length := hK.len.1
  have hkb := hK.len.2.2
  have hkc := hK.len.2.1
  have hcount := less_count (G.kids.nod b (List.mem_of_getElem? hlp)) o.id
  rw [← hkl] at hcount
  have c2 := (HB2.out.cell (p := ⟨bb, off + p * 5 + 2, none⟩) (by show bb < _; omega)).trans g2
  have HPA := Lib.hid fun W (hW : Below w.heap.size w W) => path_any l G.kids (some ⟨bb, off, none⟩) n cl o.parent d hd hd40 W B (Nat.le_trans hB hW.size) (H.out.below (hW.mono hB))
  have HHT := Lib.hid fun W (hW : Below w.heap.size w W) => height_any l f G (some ⟨bb, off, none⟩) n cl B d2 o.id W hd2 (Nat.le_trans hB hW.size) (H.out.below (hW.mono hB))
  have HCK := Lib.hid fun W (hW : Below w.heap.size w W) => containsI_any b.kids Ak nk ck o.id W B (hK.below (hW.mono hB))
  have i0 : (0 : Int) ≤ (p : Int) := by omega
  have i1 : (p : Int) < (n : Int) := by omega
  have i2 : ¬ ((p : Int) < 0) := by omega
  have HPL : Hid ((pth l d o.parent).length = d) := pth_len d o.parent
  obtain ⟨hg, hhg⟩ : ∃ hg, hg = hgt l 41 o.id := ⟨_, rfl⟩
  have hg41 : hg ≤ 41 := by have := hgt_le l 41 o.id; omega
  rw [← hhg] at HV1 HHT
  obtain ⟨kn, hkn⟩ : ∃ kn, kn = (lessK b.kids o.id).length := ⟨_, rfl⟩
  rw [← hkn] at HV1 hcount
  have HCT := Lib.hid hcount
  clear hK hkl hp hlp hba hd hdF h1 h3 hp2 hlp2 hba2 hd2 hdF2 hbi2 hhg hkn hcount
  go_wp2_with fail
  refine (HPA.out w2 HB2.out).mono ?_
  rintro e w3 ⟨⟨A', n', rfl, hr⟩, hb⟩
  have HB3 : Hid (Below w.heap.size w w3) := HB2.out.trans (hb.mono HB2.out.size)
  have P3 := Lib.hid (P2.out.below hb P2.out.lt)
  have hri := hr.reads (B := w3.heap.size) fun b hb => hb.2
  have hn' : n' = d := by
    have := hri.len.1
    rw [HPL.out] at this
    exact this
  have HCP := Lib.hid (containsI_any _ A' n' n' o.id w3 w3.heap.size hri)
  have c3 := (HB3.out.cell (p := ⟨bb, off + p * 5 + 2, none⟩) (by show bb < _; omega)).trans g2
  clear hb hr hri e0 c2 g2
  subst hn'
  have e0 := fun i => P3.out.cell i
  obtain ⟨q, hq⟩ : ∃ q, q = decide (o.id ∈ pth l n' o.parent) := ⟨_, rfl⟩
  rw [← hq] at HCP
  go_wp2_with fail
  refine HCP.out.mono ?_
  rintro e w4 ⟨rfl, hw4⟩
  rw [hw4]
  clear hw4
  cases q
  case true =>
    have HL : Hid (V = 12) := HV1.out.trans (if_pos (of_decide_eq_true hq.symm))
    clear hq
    go_wp2_with fail
    go_ret
    exact ⟨by rw [HL.out]; rfl, HB3.out⟩
  have HV2 := Lib.hid (HV1.out.trans (if_neg (of_decide_eq_false hq.symm)))
  clear hq
  obtain ⟨kq, hkq⟩ : ∃ kq, kq = decide (o.id ∈ b.kids) := ⟨_, rfl⟩
  have HKK := Lib.hid fun W (hW : Below w.heap.size w W) => HCK.out W hW
  rw [← hkq] at HKK
  have hkk : (kn : Int) = (nk : Int) - (if kq = true then 1 else 0) := by
    have := HCT.out
    rw [hkq]
    by_cases e : o.id ∈ b.kids
    · rw [if_pos e] at this
      rw [if_pos (decide_eq_true e)]; omega
    · rw [if_neg e] at this
      rw [if_neg (by rw [decide_eq_false e]; decide)]; omega
  have hk1 : kq = true → 1 ≤ nk := fun e => by
    have := HCT.out
    rw [e] at hkq
    rw [if_pos (of_decide_eq_true hkq.symm)] at this
    omega
  clear hkq
  go_upto_region 8 with fail
  have HKD := Lib.hid fun q => HKK.out (w3.drewN q) (bdrew HB3.out q)
  go_quiet ((go_at_call 14; exact (HKD.out _).mono (fun _ _ h => ⟨h.1, _, h.2⟩)))
  have HBD : Hid (Below w.heap.size w (w3.drewN nq)) := bdrew HB3.out nq
  have PD := Lib.hid (P3.out.drewN nq)
  clear e0 c3
  have e0 := fun i => PD.out.cell i
  cases kq
  case true =>
    have hk1' := hk1 rfl
    rw [if_pos rfl] at hkk
    have hz : (nk : Int) - 1 = (kn : Int) := hkk.symm
    clear hkk hk1
    by_cases h5 : o.at_ < 0
    · have HL : Hid (V = 2) := HV2.out.trans (if_pos (.inl h5))
      go_wp2_with fail
      go_ret
      exact ⟨by rw [HL.out]; rfl, HBD⟩
    by_cases h6 : (kn : Int) < o.at_
    · have HL : Hid (V = 2) := HV2.out.trans (if_pos (.inr h6))
      go_wp2_with fail
      go_ret
      exact ⟨by rw [HL.out]; rfl, HBD⟩
    have HV3 := Lib.hid (HV2.out.trans (if_neg (by omega)))
    by_cases h9 : 500 ≤ kn
    · have HL : Hid (V = 14) := HV3.out.trans (if_pos h9)
      have h9' : (500 : Int) ≤ (kn : Int) := by omega
      go_wp2_with fail
      go_ret
      exact ⟨by rw [HL.out]; rfl, HBD⟩
    have h9' : ¬ (500 : Int) ≤ (kn : Int) := by omega
    have HV4 := Lib.hid (HV3.out.trans (if_neg h9))
    have HHX := Lib.hid (HHT.out _ HBD)
    by_cases h10 : 40 < (n' : Int) + hg
    · have HL : Hid (V = 13) := HV4.out.trans (if_pos h10)
      go_wp2_with fail
      refine HHX.out.mono ?_
      rintro e w5 ⟨rfl, hb5⟩
      have HB5 : Hid (Below w.heap.size w w5) := HBD.trans (hb5.mono HBD.size)
      clear hb5
      go_wp2_with fail
      go_ret
      exact ⟨by rw [HL.out]; rfl, HB5.out⟩
    · have HL : Hid (V = 0) := HV4.out.trans (if_neg h10)
      go_wp2_with fail
      refine HHX.out.mono ?_
      rintro e w5 ⟨rfl, hb5⟩
      have HB5 : Hid (Below w.heap.size w w5) := HBD.trans (hb5.mono HBD.size)
      clear hb5
      go_wp2_with fail
      go_ret
      exact ⟨by rw [HL.out]; rfl, HB5.out⟩
  case false =>
    rw [if_neg (by decide)] at hkk
    obtain rfl : nk = kn := by omega
    clear hkk hk1
    by_cases h5 : o.at_ < 0
    · have HL : Hid (V = 2) := HV2.out.trans (if_pos (.inl h5))
      go_wp2_with fail
      go_ret
      exact ⟨by rw [HL.out]; rfl, HBD⟩
    by_cases h6 : (nk : Int) < o.at_
    · have HL : Hid (V = 2) := HV2.out.trans (if_pos (.inr h6))
      go_wp2_with fail
      go_ret
      exact ⟨by rw [HL.out]; rfl, HBD⟩
    have HV3 := Lib.hid (HV2.out.trans (if_neg (by omega)))
    by_cases h9 : 500 ≤ nk
    · have HL : Hid (V = 14) := HV3.out.trans (if_pos h9)
      have h9' : (500 : Int) ≤ (nk : Int) := by omega
      go_wp2_with fail
      go_ret
      exact ⟨by rw [HL.out]; rfl, HBD⟩
    have h9' : ¬ (500 : Int) ≤ (nk : Int) := by omega
    have HV4 := Lib.hid (HV3.out.trans (if_neg h9))
    have HHX := Lib.hid (HHT.out _ HBD)
    by_cases h10 : 40 < (n' : Int) + hg
    · have HL : Hid (V = 13) := HV4.out.trans (if_pos h10)
      go_wp2_with fail
      refine HHX.out.mono ?_
      rintro e w5 ⟨rfl, hb5⟩
      have HB5 : Hid (Below w.heap.size w w5) := HBD.trans (hb5.mono HBD.size)
      clear hb5
      go_wp2_with fail
      go_ret
      exact ⟨by rw [HL.out]; rfl, HB5.out⟩
    · have HL : Hid (V = 0) := HV4.out.trans (if_neg h10)
      go_wp2_with fail
      refine HHX.out.mono ?_
      rintro e w5 ⟨rfl, hb5⟩
      have HB5 : Hid (Below w.heap.size w w5) := HBD.trans (hb5.mono HBD.size)
      clear hb5
      go_wp2_with fail
      go_ret
      exact ⟨by rw [HL.out]; rfl, HB5.out⟩
end Go.Proofs.YtmkicfjcgbfaaaaGreat
namespace Go.Proofs.YtmkicfjcgbfaaaaGreat
open Go.RowKit

set_option maxRecDepth 100000 in
set_option maxHeartbeats 4000000 in
theorem used1_any (id pa at_ fr to_ vk vi vt : Int) (tx nm vs : ByteArray) (A : Option Addr) (n c : Nat) (Q V : Bool) (w : World)
    (hQ : Q = ((vk == 0) && (vi == 0) && (vt == 0) && vs.toList.isEmpty && ((n : Int) == 0)))
    (hV : V = ((fr == 0) && (to_ == 0) && nm.toList.isEmpty && Q)) :
    Calls Tryz.prog 74 #[.agg #[.int .i64 1, .int .i64 id, .int .i64 pa, .int .i64 at_, .int .i64 fr, .int .i64 to_, .string tx, .string nm, .int .i64 vk, .int .i64 vi, .int .i64 vt, .string vs, .slice A n c]] w fun e w' => e = .returned (.bool V) ∧ Below w.heap.size w w' := by
  have HQ := Lib.hid hQ
  have HV := Lib.hid hV
  clear hQ hV
  obtain ⟨wb, hwb⟩ : ∃ wb, wb = (w.alloc (.cells #[.int .i64 1, .int .i64 id, .int .i64 pa, .int .i64 at_, .int .i64 fr, .int .i64 to_, .string tx, .string nm, .int .i64 vk, .int .i64 vi, .int .i64 vt, .string vs, .slice A n c] 31)).alloc (.cells #[.int .i64 vk, .int .i64 vi, .int .i64 vt, .string vs, .slice A n c] 29) := ⟨_, rfl⟩
  have hp0 : Blk wb w.heap.size 31 #[.int .i64 1, .int .i64 id, .int .i64 pa, .int .i64 at_, .int .i64 fr, .int .i64 to_, .string tx, .string nm, .int .i64 vk, .int .i64 vi, .int .i64 vt, .string vs, .slice A n c] := by rw [hwb]; exact (Blk.new w _ _).alloc _
  have hp1 : Blk wb (w.heap.size + 1) 29 #[.int .i64 vk, .int .i64 vi, .int .i64 vt, .string vs, .slice A n c] := by
    rw [hwb]
    have h := Blk.new (w.alloc (.cells #[.int .i64 1, .int .i64 id, .int .i64 pa, .int .i64 at_, .int .i64 fr, .int .i64 to_, .string tx, .string nm, .int .i64 vk, .int .i64 vi, .int .i64 vt, .string vs, .slice A n c] 31)) 29 #[.int .i64 vk, .int .i64 vi, .int .i64 vt, .string vs, .slice A n c]
    simpa only [World.size_alloc] using h
  have HB : Hid (Below w.heap.size w wb) := by rw [hwb]; exact ((Below.refl _ _).alloc (Nat.le_refl _) _).alloc (by simp) _
  have HWB := Lib.hid hwb
  have e0 := fun i => hp0.cell i
  have P1 := Lib.hid hp1
  clear hp0 hp1 hwb
  go_enter Tryz.func74, Tryz.ntmps74
  go_upto_region 5 with fail
  rw [← HWB.out]
  go_cut [7] (fun s7 wc => s7 = .bool Q ∧ wb = wc)
  case first =>
    have e1 := fun i => P1.out.cell i
    obtain ⟨q0, hq0⟩ : ∃ q, (vk == 0) = q := ⟨_, rfl⟩
    obtain ⟨q1, hq1⟩ : ∃ q, (vi == 0) = q := ⟨_, rfl⟩
    obtain ⟨q2, hq2⟩ : ∃ q, (vt == 0) = q := ⟨_, rfl⟩
    obtain ⟨q3, hq3⟩ : ∃ q, vs.toList.isEmpty = q := ⟨_, rfl⟩
    obtain ⟨q4, hq4⟩ : ∃ q, ((n : Int) == 0) = q := ⟨_, rfl⟩
    have e := HQ.out
    rw [hq0, hq1, hq2, hq3, hq4] at e
    cases q0
    case false =>
      obtain rfl : Q = false := e
      go_wp2_with fail
      go_meet
      exact ⟨rfl, rfl⟩
    cases q1
    case false =>
      obtain rfl : Q = false := e
      go_wp2_with fail
      go_meet
      exact ⟨rfl, rfl⟩
    cases q2
    case false =>
      obtain rfl : Q = false := e
      go_wp2_with fail
      go_meet
      exact ⟨rfl, rfl⟩
    cases q3
    case false =>
      obtain rfl : Q = false := e
      go_wp2_with fail
      go_meet
      exact ⟨rfl, rfl⟩
    cases q4
    all_goals
      first
        | (obtain rfl : Q = false := e)
        | (obtain rfl : Q = true := e)
      go_wp2_with fail
      go_meet
      exact ⟨rfl, rfl⟩
  case rest =>
    obtain ⟨rfl, rfl⟩ := hcut
    have hV := HV.out
    clear HQ
    obtain ⟨b0, hb0⟩ : ∃ q, (fr == 0) = q := ⟨_, rfl⟩
    rw [hb0] at hV
    cases b0
    case false =>
      have HL : Hid (V = false) := by show _ = _; rw [hV]; simp
      clear hV
      go_wp2_with fail
      go_ret
      exact ⟨by rw [HL.out]; rfl, HB.out⟩
    obtain ⟨b1, hb1⟩ : ∃ q, (to_ == 0) = q := ⟨_, rfl⟩
    rw [hb1] at hV
    cases b1
    case false =>
      have HL : Hid (V = false) := by show _ = _; rw [hV]; simp
      clear hV
      go_wp2_with fail
      go_ret
      exact ⟨by rw [HL.out]; rfl, HB.out⟩
    obtain ⟨b2, hb2⟩ : ∃ q, nm.toList.isEmpty = q := ⟨_, rfl⟩
    rw [hb2] at hV
    cases b2
    case false =>
      have HL : Hid (V = false) := by show _ = _; rw [hV]; simp
      clear hV
      go_wp2_with fail
      go_ret
      exact ⟨by rw [HL.out]; rfl, HB.out⟩
    obtain ⟨b3, hb3⟩ : ∃ q, Q = q := ⟨_, rfl⟩
    rw [hb3] at hV
    cases b3
    case false =>
      have HL : Hid (V = false) := by show _ = _; rw [hV]; simp
      clear hV
      go_wp2_with fail
      go_ret
      exact ⟨by rw [HL.out]; rfl, HB.out⟩
    have HL : Hid (V = true) := by show _ = _; rw [hV]; simp
    clear hV
    go_wp2_with fail
    go_ret
    exact ⟨by rw [HL.out]; rfl, HB.out⟩
set_option maxRecDepth 100000 in
set_option maxHeartbeats 4000000 in
theorem used2_any (id pa at_ fr to_ vk vi vt : Int) (tx nm vs : ByteArray) (A : Option Addr) (n c : Nat) (Q V : Bool) (w : World)
    (hQ : Q = ((vk == 0) && (vi == 0) && (vt == 0) && vs.toList.isEmpty && ((n : Int) == 0)))
    (hV : V = ((pa == 0) && (at_ == 0) && (fr == 0) && (to_ == 0) && tx.toList.isEmpty && nm.toList.isEmpty && Q)) :
    Calls Tryz.prog 74 #[.agg #[.int .i64 2, .int .i64 id, .int .i64 pa, .int .i64 at_, .int .i64 fr, .int .i64 to_, .string tx, .string nm, .int .i64 vk, .int .i64 vi, .int .i64 vt, .string vs, .slice A n c]] w fun e w' => e = .returned (.bool V) ∧ Below w.heap.size w w' := by
  have HQ := Lib.hid hQ
  have HV := Lib.hid hV
  clear hQ hV
  obtain ⟨wb, hwb⟩ : ∃ wb, wb = (w.alloc (.cells #[.int .i64 2, .int .i64 id, .int .i64 pa, .int .i64 at_, .int .i64 fr, .int .i64 to_, .string tx, .string nm, .int .i64 vk, .int .i64 vi, .int .i64 vt, .string vs, .slice A n c] 31)).alloc (.cells #[.int .i64 vk, .int .i64 vi, .int .i64 vt, .string vs, .slice A n c] 29) := ⟨_, rfl⟩
  have hp0 : Blk wb w.heap.size 31 #[.int .i64 2, .int .i64 id, .int .i64 pa, .int .i64 at_, .int .i64 fr, .int .i64 to_, .string tx, .string nm, .int .i64 vk, .int .i64 vi, .int .i64 vt, .string vs, .slice A n c] := by rw [hwb]; exact (Blk.new w _ _).alloc _
  have hp1 : Blk wb (w.heap.size + 1) 29 #[.int .i64 vk, .int .i64 vi, .int .i64 vt, .string vs, .slice A n c] := by
    rw [hwb]
    have h := Blk.new (w.alloc (.cells #[.int .i64 2, .int .i64 id, .int .i64 pa, .int .i64 at_, .int .i64 fr, .int .i64 to_, .string tx, .string nm, .int .i64 vk, .int .i64 vi, .int .i64 vt, .string vs, .slice A n c] 31)) 29 #[.int .i64 vk, .int .i64 vi, .int .i64 vt, .string vs, .slice A n c]
    simpa only [World.size_alloc] using h
  have HB : Hid (Below w.heap.size w wb) := by rw [hwb]; exact ((Below.refl _ _).alloc (Nat.le_refl _) _).alloc (by simp) _
  have HWB := Lib.hid hwb
  have e0 := fun i => hp0.cell i
  have P1 := Lib.hid hp1
  clear hp0 hp1 hwb
  go_enter Tryz.func74, Tryz.ntmps74
  go_upto_region 5 with fail
  rw [← HWB.out]
  go_cut [7] (fun s7 wc => s7 = .bool Q ∧ wb = wc)
  case first =>
    have e1 := fun i => P1.out.cell i
    obtain ⟨q0, hq0⟩ : ∃ q, (vk == 0) = q := ⟨_, rfl⟩
    obtain ⟨q1, hq1⟩ : ∃ q, (vi == 0) = q := ⟨_, rfl⟩
    obtain ⟨q2, hq2⟩ : ∃ q, (vt == 0) = q := ⟨_, rfl⟩
    obtain ⟨q3, hq3⟩ : ∃ q, vs.toList.isEmpty = q := ⟨_, rfl⟩
    obtain ⟨q4, hq4⟩ : ∃ q, ((n : Int) == 0) = q := ⟨_, rfl⟩
    have e := HQ.out
    rw [hq0, hq1, hq2, hq3, hq4] at e
    cases q0
    case false =>
      obtain rfl : Q = false := e
      go_wp2_with fail
      go_meet
      exact ⟨rfl, rfl⟩
    cases q1
    case false =>
      obtain rfl : Q = false := e
      go_wp2_with fail
      go_meet
      exact ⟨rfl, rfl⟩
    cases q2
    case false =>
      obtain rfl : Q = false := e
      go_wp2_with fail
      go_meet
      exact ⟨rfl, rfl⟩
    cases q3
    case false =>
      obtain rfl : Q = false := e
      go_wp2_with fail
      go_meet
      exact ⟨rfl, rfl⟩
    cases q4
    all_goals
      first
        | (obtain rfl : Q = false := e)
        | (obtain rfl : Q = true := e)
      go_wp2_with fail
      go_meet
      exact ⟨rfl, rfl⟩
  case rest =>
    obtain ⟨rfl, rfl⟩ := hcut
    have hV := HV.out
    clear HQ
    obtain ⟨b0, hb0⟩ : ∃ q, (pa == 0) = q := ⟨_, rfl⟩
    rw [hb0] at hV
    cases b0
    case false =>
      have HL : Hid (V = false) := by show _ = _; rw [hV]; simp
      clear hV
      go_wp2_with fail
      go_ret
      exact ⟨by rw [HL.out]; rfl, HB.out⟩
    obtain ⟨b1, hb1⟩ : ∃ q, (at_ == 0) = q := ⟨_, rfl⟩
    rw [hb1] at hV
    cases b1
    case false =>
      have HL : Hid (V = false) := by show _ = _; rw [hV]; simp
      clear hV
      go_wp2_with fail
      go_ret
      exact ⟨by rw [HL.out]; rfl, HB.out⟩
    obtain ⟨b2, hb2⟩ : ∃ q, (fr == 0) = q := ⟨_, rfl⟩
    rw [hb2] at hV
    cases b2
    case false =>
      have HL : Hid (V = false) := by show _ = _; rw [hV]; simp
      clear hV
      go_wp2_with fail
      go_ret
      exact ⟨by rw [HL.out]; rfl, HB.out⟩
    obtain ⟨b3, hb3⟩ : ∃ q, (to_ == 0) = q := ⟨_, rfl⟩
    rw [hb3] at hV
    cases b3
    case false =>
      have HL : Hid (V = false) := by show _ = _; rw [hV]; simp
      clear hV
      go_wp2_with fail
      go_ret
      exact ⟨by rw [HL.out]; rfl, HB.out⟩
    obtain ⟨b4, hb4⟩ : ∃ q, tx.toList.isEmpty = q := ⟨_, rfl⟩
    rw [hb4] at hV
    cases b4
    case false =>
      have HL : Hid (V = false) := by show _ = _; rw [hV]; simp
      clear hV
      go_wp2_with fail
      go_ret
      exact ⟨by rw [HL.out]; rfl, HB.out⟩
    obtain ⟨b5, hb5⟩ : ∃ q, nm.toList.isEmpty = q := ⟨_, rfl⟩
    rw [hb5] at hV
    cases b5
    case false =>
      have HL : Hid (V = false) := by show _ = _; rw [hV]; simp
      clear hV
      go_wp2_with fail
      go_ret
      exact ⟨by rw [HL.out]; rfl, HB.out⟩
    obtain ⟨b6, hb6⟩ : ∃ q, Q = q := ⟨_, rfl⟩
    rw [hb6] at hV
    cases b6
    case false =>
      have HL : Hid (V = false) := by show _ = _; rw [hV]; simp
      clear hV
      go_wp2_with fail
      go_ret
      exact ⟨by rw [HL.out]; rfl, HB.out⟩
    have HL : Hid (V = true) := by show _ = _; rw [hV]; simp
    clear hV
    go_wp2_with fail
    go_ret
    exact ⟨by rw [HL.out]; rfl, HB.out⟩
set_option maxRecDepth 100000 in
set_option maxHeartbeats 4000000 in
theorem used3_any (id pa at_ fr to_ vk vi vt : Int) (tx nm vs : ByteArray) (A : Option Addr) (n c : Nat) (Q V : Bool) (w : World)
    (hQ : Q = ((vk == 0) && (vi == 0) && (vt == 0) && vs.toList.isEmpty && ((n : Int) == 0)))
    (hV : V = ((fr == 0) && (to_ == 0) && tx.toList.isEmpty && nm.toList.isEmpty && Q)) :
    Calls Tryz.prog 74 #[.agg #[.int .i64 3, .int .i64 id, .int .i64 pa, .int .i64 at_, .int .i64 fr, .int .i64 to_, .string tx, .string nm, .int .i64 vk, .int .i64 vi, .int .i64 vt, .string vs, .slice A n c]] w fun e w' => e = .returned (.bool V) ∧ Below w.heap.size w w' := by
  have HQ := Lib.hid hQ
  have HV := Lib.hid hV
  clear hQ hV
  obtain ⟨wb, hwb⟩ : ∃ wb, wb = (w.alloc (.cells #[.int .i64 3, .int .i64 id, .int .i64 pa, .int .i64 at_, .int .i64 fr, .int .i64 to_, .string tx, .string nm, .int .i64 vk, .int .i64 vi, .int .i64 vt, .string vs, .slice A n c] 31)).alloc (.cells #[.int .i64 vk, .int .i64 vi, .int .i64 vt, .string vs, .slice A n c] 29) := ⟨_, rfl⟩
  have hp0 : Blk wb w.heap.size 31 #[.int .i64 3, .int .i64 id, .int .i64 pa, .int .i64 at_, .int .i64 fr, .int .i64 to_, .string tx, .string nm, .int .i64 vk, .int .i64 vi, .int .i64 vt, .string vs, .slice A n c] := by rw [hwb]; exact (Blk.new w _ _).alloc _
  have hp1 : Blk wb (w.heap.size + 1) 29 #[.int .i64 vk, .int .i64 vi, .int .i64 vt, .string vs, .slice A n c] := by
    rw [hwb]
    have h := Blk.new (w.alloc (.cells #[.int .i64 3, .int .i64 id, .int .i64 pa, .int .i64 at_, .int .i64 fr, .int .i64 to_, .string tx, .string nm, .int .i64 vk, .int .i64 vi, .int .i64 vt, .string vs, .slice A n c] 31)) 29 #[.int .i64 vk, .int .i64 vi, .int .i64 vt, .string vs, .slice A n c]
    simpa only [World.size_alloc] using h
  have HB : Hid (Below w.heap.size w wb) := by rw [hwb]; exact ((Below.refl _ _).alloc (Nat.le_refl _) _).alloc (by simp) _
  have HWB := Lib.hid hwb
  have e0 := fun i => hp0.cell i
  have P1 := Lib.hid hp1
  clear hp0 hp1 hwb
  go_enter Tryz.func74, Tryz.ntmps74
  go_upto_region 5 with fail
  rw [← HWB.out]
  go_cut [7] (fun s7 wc => s7 = .bool Q ∧ wb = wc)
  case first =>
    have e1 := fun i => P1.out.cell i
    obtain ⟨q0, hq0⟩ : ∃ q, (vk == 0) = q := ⟨_, rfl⟩
    obtain ⟨q1, hq1⟩ : ∃ q, (vi == 0) = q := ⟨_, rfl⟩
    obtain ⟨q2, hq2⟩ : ∃ q, (vt == 0) = q := ⟨_, rfl⟩
    obtain ⟨q3, hq3⟩ : ∃ q, vs.toList.isEmpty = q := ⟨_, rfl⟩
    obtain ⟨q4, hq4⟩ : ∃ q, ((n : Int) == 0) = q := ⟨_, rfl⟩
    have e := HQ.out
    rw [hq0, hq1, hq2, hq3, hq4] at e
    cases q0
    case false =>
      obtain rfl : Q = false := e
      go_wp2_with fail
      go_meet
      exact ⟨rfl, rfl⟩
    cases q1
    case false =>
      obtain rfl : Q = false := e
      go_wp2_with fail
      go_meet
      exact ⟨rfl, rfl⟩
    cases q2
    case false =>
      obtain rfl : Q = false := e
      go_wp2_with fail
      go_meet
      exact ⟨rfl, rfl⟩
    cases q3
    case false =>
      obtain rfl : Q = false := e
      go_wp2_with fail
      go_meet
      exact ⟨rfl, rfl⟩
    cases q4
    all_goals
      first
        | (obtain rfl : Q = false := e)
        | (obtain rfl : Q = true := e)
      go_wp2_with fail
      go_meet
      exact ⟨rfl, rfl⟩
  case rest =>
    obtain ⟨rfl, rfl⟩ := hcut
    have hV := HV.out
    clear HQ
    obtain ⟨b0, hb0⟩ : ∃ q, (fr == 0) = q := ⟨_, rfl⟩
    rw [hb0] at hV
    cases b0
    case false =>
      have HL : Hid (V = false) := by show _ = _; rw [hV]; simp
      clear hV
      go_wp2_with fail
      go_ret
      exact ⟨by rw [HL.out]; rfl, HB.out⟩
    obtain ⟨b1, hb1⟩ : ∃ q, (to_ == 0) = q := ⟨_, rfl⟩
    rw [hb1] at hV
    cases b1
    case false =>
      have HL : Hid (V = false) := by show _ = _; rw [hV]; simp
      clear hV
      go_wp2_with fail
      go_ret
      exact ⟨by rw [HL.out]; rfl, HB.out⟩
    obtain ⟨b2, hb2⟩ : ∃ q, tx.toList.isEmpty = q := ⟨_, rfl⟩
    rw [hb2] at hV
    cases b2
    case false =>
      have HL : Hid (V = false) := by show _ = _; rw [hV]; simp
      clear hV
      go_wp2_with fail
      go_ret
      exact ⟨by rw [HL.out]; rfl, HB.out⟩
    obtain ⟨b3, hb3⟩ : ∃ q, nm.toList.isEmpty = q := ⟨_, rfl⟩
    rw [hb3] at hV
    cases b3
    case false =>
      have HL : Hid (V = false) := by show _ = _; rw [hV]; simp
      clear hV
      go_wp2_with fail
      go_ret
      exact ⟨by rw [HL.out]; rfl, HB.out⟩
    obtain ⟨b4, hb4⟩ : ∃ q, Q = q := ⟨_, rfl⟩
    rw [hb4] at hV
    cases b4
    case false =>
      have HL : Hid (V = false) := by show _ = _; rw [hV]; simp
      clear hV
      go_wp2_with fail
      go_ret
      exact ⟨by rw [HL.out]; rfl, HB.out⟩
    have HL : Hid (V = true) := by show _ = _; rw [hV]; simp
    clear hV
    go_wp2_with fail
    go_ret
    exact ⟨by rw [HL.out]; rfl, HB.out⟩
set_option maxRecDepth 100000 in
set_option maxHeartbeats 4000000 in
theorem used4_any (id pa at_ fr to_ vk vi vt : Int) (tx nm vs : ByteArray) (A : Option Addr) (n c : Nat) (Q V : Bool) (w : World)
    (hQ : Q = ((vk == 0) && (vi == 0) && (vt == 0) && vs.toList.isEmpty && ((n : Int) == 0)))
    (hV : V = ((pa == 0) && (at_ == 0) && nm.toList.isEmpty && Q)) :
    Calls Tryz.prog 74 #[.agg #[.int .i64 4, .int .i64 id, .int .i64 pa, .int .i64 at_, .int .i64 fr, .int .i64 to_, .string tx, .string nm, .int .i64 vk, .int .i64 vi, .int .i64 vt, .string vs, .slice A n c]] w fun e w' => e = .returned (.bool V) ∧ Below w.heap.size w w' := by
  have HQ := Lib.hid hQ
  have HV := Lib.hid hV
  clear hQ hV
  obtain ⟨wb, hwb⟩ : ∃ wb, wb = (w.alloc (.cells #[.int .i64 4, .int .i64 id, .int .i64 pa, .int .i64 at_, .int .i64 fr, .int .i64 to_, .string tx, .string nm, .int .i64 vk, .int .i64 vi, .int .i64 vt, .string vs, .slice A n c] 31)).alloc (.cells #[.int .i64 vk, .int .i64 vi, .int .i64 vt, .string vs, .slice A n c] 29) := ⟨_, rfl⟩
  have hp0 : Blk wb w.heap.size 31 #[.int .i64 4, .int .i64 id, .int .i64 pa, .int .i64 at_, .int .i64 fr, .int .i64 to_, .string tx, .string nm, .int .i64 vk, .int .i64 vi, .int .i64 vt, .string vs, .slice A n c] := by rw [hwb]; exact (Blk.new w _ _).alloc _
  have hp1 : Blk wb (w.heap.size + 1) 29 #[.int .i64 vk, .int .i64 vi, .int .i64 vt, .string vs, .slice A n c] := by
    rw [hwb]
    have h := Blk.new (w.alloc (.cells #[.int .i64 4, .int .i64 id, .int .i64 pa, .int .i64 at_, .int .i64 fr, .int .i64 to_, .string tx, .string nm, .int .i64 vk, .int .i64 vi, .int .i64 vt, .string vs, .slice A n c] 31)) 29 #[.int .i64 vk, .int .i64 vi, .int .i64 vt, .string vs, .slice A n c]
    simpa only [World.size_alloc] using h
  have HB : Hid (Below w.heap.size w wb) := by rw [hwb]; exact ((Below.refl _ _).alloc (Nat.le_refl _) _).alloc (by simp) _
  have HWB := Lib.hid hwb
  have e0 := fun i => hp0.cell i
  have P1 := Lib.hid hp1
  clear hp0 hp1 hwb
  go_enter Tryz.func74, Tryz.ntmps74
  go_upto_region 5 with fail
  rw [← HWB.out]
  go_cut [7] (fun s7 wc => s7 = .bool Q ∧ wb = wc)
  case first =>
    have e1 := fun i => P1.out.cell i
    obtain ⟨q0, hq0⟩ : ∃ q, (vk == 0) = q := ⟨_, rfl⟩
    obtain ⟨q1, hq1⟩ : ∃ q, (vi == 0) = q := ⟨_, rfl⟩
    obtain ⟨q2, hq2⟩ : ∃ q, (vt == 0) = q := ⟨_, rfl⟩
    obtain ⟨q3, hq3⟩ : ∃ q, vs.toList.isEmpty = q := ⟨_, rfl⟩
    obtain ⟨q4, hq4⟩ : ∃ q, ((n : Int) == 0) = q := ⟨_, rfl⟩
    have e := HQ.out
    rw [hq0, hq1, hq2, hq3, hq4] at e
    cases q0
    case false =>
      obtain rfl : Q = false := e
      go_wp2_with fail
      go_meet
      exact ⟨rfl, rfl⟩
    cases q1
    case false =>
      obtain rfl : Q = false := e
      go_wp2_with fail
      go_meet
      exact ⟨rfl, rfl⟩
    cases q2
    case false =>
      obtain rfl : Q = false := e
      go_wp2_with fail
      go_meet
      exact ⟨rfl, rfl⟩
    cases q3
    case false =>
      obtain rfl : Q = false := e
      go_wp2_with fail
      go_meet
      exact ⟨rfl, rfl⟩
    cases q4
    all_goals
      first
        | (obtain rfl : Q = false := e)
        | (obtain rfl : Q = true := e)
      go_wp2_with fail
      go_meet
      exact ⟨rfl, rfl⟩
  case rest =>
    obtain ⟨rfl, rfl⟩ := hcut
    have hV := HV.out
    clear HQ
    obtain ⟨b0, hb0⟩ : ∃ q, (pa == 0) = q := ⟨_, rfl⟩
    rw [hb0] at hV
    cases b0
    case false =>
      have HL : Hid (V = false) := by show _ = _; rw [hV]; simp
      clear hV
      go_wp2_with fail
      go_ret
      exact ⟨by rw [HL.out]; rfl, HB.out⟩
    obtain ⟨b1, hb1⟩ : ∃ q, (at_ == 0) = q := ⟨_, rfl⟩
    rw [hb1] at hV
    cases b1
    case false =>
      have HL : Hid (V = false) := by show _ = _; rw [hV]; simp
      clear hV
      go_wp2_with fail
      go_ret
      exact ⟨by rw [HL.out]; rfl, HB.out⟩
    obtain ⟨b2, hb2⟩ : ∃ q, nm.toList.isEmpty = q := ⟨_, rfl⟩
    rw [hb2] at hV
    cases b2
    case false =>
      have HL : Hid (V = false) := by show _ = _; rw [hV]; simp
      clear hV
      go_wp2_with fail
      go_ret
      exact ⟨by rw [HL.out]; rfl, HB.out⟩
    obtain ⟨b3, hb3⟩ : ∃ q, Q = q := ⟨_, rfl⟩
    rw [hb3] at hV
    cases b3
    case false =>
      have HL : Hid (V = false) := by show _ = _; rw [hV]; simp
      clear hV
      go_wp2_with fail
      go_ret
      exact ⟨by rw [HL.out]; rfl, HB.out⟩
    have HL : Hid (V = true) := by show _ = _; rw [hV]; simp
    clear hV
    go_wp2_with fail
    go_ret
    exact ⟨by rw [HL.out]; rfl, HB.out⟩
set_option maxRecDepth 100000 in
set_option maxHeartbeats 4000000 in
theorem used5_any (id pa at_ fr to_ vk vi vt : Int) (tx nm vs : ByteArray) (A : Option Addr) (n c : Nat) (Q V : Bool) (w : World)
    (hQ : Q = ((vk == 0) && (vi == 0) && (vt == 0) && vs.toList.isEmpty && ((n : Int) == 0)))
    (hV : V = ((pa == 0) && (at_ == 0) && (fr == 0) && (to_ == 0) && tx.toList.isEmpty)) :
    Calls Tryz.prog 74 #[.agg #[.int .i64 5, .int .i64 id, .int .i64 pa, .int .i64 at_, .int .i64 fr, .int .i64 to_, .string tx, .string nm, .int .i64 vk, .int .i64 vi, .int .i64 vt, .string vs, .slice A n c]] w fun e w' => e = .returned (.bool V) ∧ Below w.heap.size w w' := by
  have HQ := Lib.hid hQ
  have HV := Lib.hid hV
  clear hQ hV
  obtain ⟨wb, hwb⟩ : ∃ wb, wb = (w.alloc (.cells #[.int .i64 5, .int .i64 id, .int .i64 pa, .int .i64 at_, .int .i64 fr, .int .i64 to_, .string tx, .string nm, .int .i64 vk, .int .i64 vi, .int .i64 vt, .string vs, .slice A n c] 31)).alloc (.cells #[.int .i64 vk, .int .i64 vi, .int .i64 vt, .string vs, .slice A n c] 29) := ⟨_, rfl⟩
  have hp0 : Blk wb w.heap.size 31 #[.int .i64 5, .int .i64 id, .int .i64 pa, .int .i64 at_, .int .i64 fr, .int .i64 to_, .string tx, .string nm, .int .i64 vk, .int .i64 vi, .int .i64 vt, .string vs, .slice A n c] := by rw [hwb]; exact (Blk.new w _ _).alloc _
  have hp1 : Blk wb (w.heap.size + 1) 29 #[.int .i64 vk, .int .i64 vi, .int .i64 vt, .string vs, .slice A n c] := by
    rw [hwb]
    have h := Blk.new (w.alloc (.cells #[.int .i64 5, .int .i64 id, .int .i64 pa, .int .i64 at_, .int .i64 fr, .int .i64 to_, .string tx, .string nm, .int .i64 vk, .int .i64 vi, .int .i64 vt, .string vs, .slice A n c] 31)) 29 #[.int .i64 vk, .int .i64 vi, .int .i64 vt, .string vs, .slice A n c]
    simpa only [World.size_alloc] using h
  have HB : Hid (Below w.heap.size w wb) := by rw [hwb]; exact ((Below.refl _ _).alloc (Nat.le_refl _) _).alloc (by simp) _
  have HWB := Lib.hid hwb
  have e0 := fun i => hp0.cell i
  have P1 := Lib.hid hp1
  clear hp0 hp1 hwb
  go_enter Tryz.func74, Tryz.ntmps74
  go_upto_region 5 with fail
  rw [← HWB.out]
  go_cut [7] (fun s7 wc => s7 = .bool Q ∧ wb = wc)
  case first =>
    have e1 := fun i => P1.out.cell i
    obtain ⟨q0, hq0⟩ : ∃ q, (vk == 0) = q := ⟨_, rfl⟩
    obtain ⟨q1, hq1⟩ : ∃ q, (vi == 0) = q := ⟨_, rfl⟩
    obtain ⟨q2, hq2⟩ : ∃ q, (vt == 0) = q := ⟨_, rfl⟩
    obtain ⟨q3, hq3⟩ : ∃ q, vs.toList.isEmpty = q := ⟨_, rfl⟩
    obtain ⟨q4, hq4⟩ : ∃ q, ((n : Int) == 0) = q := ⟨_, rfl⟩
    have e := HQ.out
    rw [hq0, hq1, hq2, hq3, hq4] at e
    cases q0
    case false =>
      obtain rfl : Q = false := e
      go_wp2_with fail
      go_meet
      exact ⟨rfl, rfl⟩
    cases q1
    case false =>
      obtain rfl : Q = false := e
      go_wp2_with fail
      go_meet
      exact ⟨rfl, rfl⟩
    cases q2
    case false =>
      obtain rfl : Q = false := e
      go_wp2_with fail
      go_meet
      exact ⟨rfl, rfl⟩
    cases q3
    case false =>
      obtain rfl : Q = false := e
      go_wp2_with fail
      go_meet
      exact ⟨rfl, rfl⟩
    cases q4
    all_goals
      first
        | (obtain rfl : Q = false := e)
        | (obtain rfl : Q = true := e)
      go_wp2_with fail
      go_meet
      exact ⟨rfl, rfl⟩
  case rest =>
    obtain ⟨rfl, rfl⟩ := hcut
    have hV := HV.out
    clear HQ
    obtain ⟨b0, hb0⟩ : ∃ q, (pa == 0) = q := ⟨_, rfl⟩
    rw [hb0] at hV
    cases b0
    case false =>
      have HL : Hid (V = false) := by show _ = _; rw [hV]; simp
      clear hV
      go_wp2_with fail
      go_ret
      exact ⟨by rw [HL.out]; rfl, HB.out⟩
    obtain ⟨b1, hb1⟩ : ∃ q, (at_ == 0) = q := ⟨_, rfl⟩
    rw [hb1] at hV
    cases b1
    case false =>
      have HL : Hid (V = false) := by show _ = _; rw [hV]; simp
      clear hV
      go_wp2_with fail
      go_ret
      exact ⟨by rw [HL.out]; rfl, HB.out⟩
    obtain ⟨b2, hb2⟩ : ∃ q, (fr == 0) = q := ⟨_, rfl⟩
    rw [hb2] at hV
    cases b2
    case false =>
      have HL : Hid (V = false) := by show _ = _; rw [hV]; simp
      clear hV
      go_wp2_with fail
      go_ret
      exact ⟨by rw [HL.out]; rfl, HB.out⟩
    obtain ⟨b3, hb3⟩ : ∃ q, (to_ == 0) = q := ⟨_, rfl⟩
    rw [hb3] at hV
    cases b3
    case false =>
      have HL : Hid (V = false) := by show _ = _; rw [hV]; simp
      clear hV
      go_wp2_with fail
      go_ret
      exact ⟨by rw [HL.out]; rfl, HB.out⟩
    obtain ⟨b4, hb4⟩ : ∃ q, tx.toList.isEmpty = q := ⟨_, rfl⟩
    rw [hb4] at hV
    cases b4
    case false =>
      have HL : Hid (V = false) := by show _ = _; rw [hV]; simp
      clear hV
      go_wp2_with fail
      go_ret
      exact ⟨by rw [HL.out]; rfl, HB.out⟩
    have HL : Hid (V = true) := by show _ = _; rw [hV]; simp
    clear hV
    go_wp2_with fail
    go_ret
    exact ⟨by rw [HL.out]; rfl, HB.out⟩
/-- the reference's used, at a kind that there is -/
theorem used_any (o : Opn) (A : Option Addr) (n c : Nat) (w : World) (hn : n = o.val.items.length) (hk : 1 ≤ o.kind ∧ o.kind ≤ 5) :
    Calls Tryz.prog 74 #[AO (o, .slice A n c)] w fun e w' => e = .returned (.bool (usedB o)) ∧ Below w.heap.size w w' := by
  obtain ⟨V, hV⟩ : ∃ V, V = usedB o := ⟨_, rfl⟩
  dsimp only [AO]
  rw [← hV]
  obtain ⟨Q, hQ⟩ : ∃ Q, Q = noV o.val := ⟨_, rfl⟩
  unfold usedB at hV
  rw [← hQ] at hV
  unfold noV at hQ
  rw [← hn] at hQ
  have hk : o.kind = 1 ∨ o.kind = 2 ∨ o.kind = 3 ∨ o.kind = 4 ∨ o.kind = 5 := by omega
  rcases hk with hk | hk | hk | hk | hk
  all_goals rw [hk] at hV ⊢
  · refine used1_any _ _ _ _ _ _ _ _ _ _ _ _ _ _ Q V w hQ (hV.trans ?_)
    simp [Bool.and_assoc]
  · refine used2_any _ _ _ _ _ _ _ _ _ _ _ _ _ _ Q V w hQ (hV.trans ?_)
    simp [Bool.and_assoc]
  · refine used3_any _ _ _ _ _ _ _ _ _ _ _ _ _ _ Q V w hQ (hV.trans ?_)
    simp [Bool.and_assoc]
  · refine used4_any _ _ _ _ _ _ _ _ _ _ _ _ _ _ Q V w hQ (hV.trans ?_)
    simp [Bool.and_assoc]
  · refine used5_any _ _ _ _ _ _ _ _ _ _ _ _ _ _ Q V w hQ (hV.trans ?_)
    simp [Bool.and_assoc]
end Go.Proofs.YtmkicfjcgbfaaaaGreat
