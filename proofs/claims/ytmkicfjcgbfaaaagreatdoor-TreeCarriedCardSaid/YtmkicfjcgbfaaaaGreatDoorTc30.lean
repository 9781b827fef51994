/-
  DERIVED. The walk of tree.checkMove. Conditions: sizes; a base without error.
  The walks of tree.copyOp and slices.Clone, Clip at operations. Conditions: sizes.
  slices.Insert and Delete at a base's row that is turned in place. Conditions: sizes.
  The walk of prop.Put where there is no error. Conditions: sizes.
  By an AI agent.
-/
import Derived.Test.YtmkicfjcgbfaaaaGreatDoorTc29
import Derived.Test.YtmkicfjcgbfaaaaGreatDoorTc26
import Derived.Test.YtmkicfjcgbfaaaaGreatDoorTc23
import Derived.Test.YtmkicfjcgbfaaaaGreatDoorTc27
import Derived.Test.YtmkicfjcgbfaaaaGreatDoorTc09
import Derived.Lib.SliceRun
import Derived.Laws.IdiomCopy
import Derived.Maps.AppendAt
import Derived.Test.YtmkicfjcgbfaaaaGreatDoorTc22
import Derived.Test.YtmkicfjcgbfaaaaGreatDoorTc19
import Derived.Test.YtmkicfjcgbfaaaaGreatDoorTc28
namespace Go.Proofs.YtmkicfjcgbfaaaaGreatDoor
open Go.RowKit

theorem less_count : ∀ {l : List Int}, l.Nodup → ∀ x : Int, (lessK l x).length + (if x ∈ l then 1 else 0) = l.length
  | [], _, x => by simp [lessK]
  | a :: l, h, x => by
    obtain ⟨h1, h2⟩ := List.nodup_cons.1 h
    have ih := less_count h2 x
    unfold lessK at *
    rw [List.filter_cons]
    by_cases e : a = x
    · subst e
      rw [if_neg (by simp), if_pos (by simp), List.length_cons]
      rw [if_neg h1] at ih
      omega
    · rw [if_pos (by simpa using e), List.length_cons, List.length_cons]
      have : (x ∈ a :: l) = (x ∈ l) := by
        rw [List.mem_cons, eq_iff_iff]
        exact ⟨fun h => h.resolve_left (fun q => e q.symm), .inr⟩
      simp only [this]
      omega

set_option maxRecDepth 100000 in
set_option maxHeartbeats 4000000 in
/-- tree.checkMove -/
theorem checkMove_any (l : List Bl) (f : Int → Option Int) (G : Good l f) (Al : Option Addr) (n cl : Nat) (o : Opn) (Av : Option Addr) (nv cv : Nat) (w : World) (B : Nat) (hB : B ≤ w.heap.size) (h : RB w B (.slice Al n cl) l) (ho : OI o) :
    Calls Tryz.prog 61 #[.slice Al n cl, AO (o, .slice Av nv cv)] w fun e w' => e = .returned (.int .i64 (movErr l f o)) ∧ Below w.heap.size w w' := by
  have HIa := Lib.hid fun W (hW : Below w.heap.size w W) => index_any l Al n cl o.id W B (Nat.le_trans hB hW.size) (h.below (hW.mono hB)) G.kids.rise G.kids.ids ho.1
  have HIp := Lib.hid fun W (hW : Below w.heap.size w W) => index_any l Al n cl o.parent W B (Nat.le_trans hB hW.size) (h.below (hW.mono hB)) G.kids.rise G.kids.ids ho.2.1
  have HN := Lib.hid h.len.1
  have hbg : n * 80 ≤ 140737488351232 := h.len.2.2
  have H := Lib.hid h
  obtain ⟨V, hV⟩ : ∃ V, V = movErr l f o := ⟨_, rfl⟩
  rw [← hV]
  unfold movErr at hV
  have HV := Lib.hid hV
  obtain ⟨wa, hwa⟩ : ∃ wa, wa = w.alloc (.cells (opC o (.slice Av nv cv)) 67) := ⟨_, rfl⟩
  have HBA : Hid (Below w.heap.size w wa) := by rw [hwa]; exact (Below.refl _ _).alloc (Nat.le_refl _) _
  have P0 : Hid (Blk wa w.heap.size 67 (opC o (.slice Av nv cv))) := by rw [hwa]; exact Blk.new _ _ _
  have HWA := Lib.hid hwa
  clear h hV hwa
  dsimp only [AO]
  go_enter Tryz.func61, Tryz.ntmps61
  go_upto_region 1 with fail
  rw [← HWA.out]
  have e0 := fun i => P0.out.cell i
  go_wp2_with fail
  refine (HIp.out wa HBA.out).mono ?_
  rintro e w1 ⟨rfl, hb⟩
  have HB1 : Hid (Below w.heap.size w w1) := HBA.out.trans (hb.mono HBA.out.size)
  have P1 := Lib.hid (P0.out.below hb P0.out.lt)
  clear hb e0
  have e0 := fun i => P1.out.cell i
  by_cases h1 : o.id = 0
  · have HL : Hid (V = 7) := HV.out.trans (if_pos (.inl h1))
    have h1' : (o.id == 0) = true := by simpa using h1
    clear h1
    go_wp2_with fail
    go_ret
    exact ⟨by rw [HL.out]; rfl, HB1.out⟩
  have h1' : (o.id == 0) = false := by simpa using h1
  go_wp2_with fail
  refine (HIa.out w1 HB1.out).mono ?_
  rintro e w2 ⟨rfl, hb⟩
  have HB2 : Hid (Below w.heap.size w w2) := HB1.out.trans (hb.mono HB1.out.size)
  have P2 := Lib.hid (P1.out.below hb P1.out.lt)
  clear hb e0
  have e0 := fun i => P2.out.cell i
  by_cases h2 : posOf l o.id < 0
  · have HL : Hid (V = 7) := HV.out.trans (if_pos (.inr (.inl h2)))
    go_wp2_with fail
    go_ret
    exact ⟨by rw [HL.out]; rfl, HB2.out⟩
  by_cases h3 : posOf l o.parent < 0
  · have HL : Hid (V = 7) := HV.out.trans (if_pos (.inr (.inr h3)))
    go_wp2_with fail
    go_ret
    exact ⟨by rw [HL.out]; rfl, HB2.out⟩
  have HV1 := Lib.hid (HV.out.trans (if_neg (by omega)))
  obtain ⟨p, b, d, hp, hlp, hbi, hba, hd, hd40, hdF⟩ := G.blk_at (id := o.parent) (by omega)
  obtain ⟨p2, b2, d2, hp2, hlp2, hbi2, hba2, hd2, hd402, hdF2⟩ := G.blk_at (id := o.id) (by omega)
  rw [hba, hdF, Int.toNat_natCast] at HV1
  rw [hp]
  have hpn : p < n := by have := (List.getElem?_eq_some_iff.1 hlp).1; have := HN.out; omega
  obtain ⟨bb, off, Ak, nk, ck, Ap, np, cp, rfl, hbb, _, _, g2, _, _, hK, _⟩ := H.out.at_ hlp
  have hkl : nk = b.kids.length := hK.len.1
  have hkb := hK.len.2.2
  have hkc := hK.len.2.1
  have hcount := less_count (G.kids.nod b (List.mem_of_getElem? hlp)) o.id
  rw [← hkl] at hcount
  have c2 := (HB2.out.cell (p := ⟨bb, off + p * 5 + 2, none⟩) (by show bb < _; omega)).trans g2
  have HPA := Lib.hid fun W (hW : Below w.heap.size w W) => path_any l G.kids (some ⟨bb, off, none⟩) n cl o.parent d hd hd40 W B (Nat.le_trans hB hW.size) (H.out.below (hW.mono hB))
  have HHT := Lib.hid fun W (hW : Below w.heap.size w W) => height_any l f G (some ⟨bb, off, none⟩) n cl B d2 o.id W hd2 (Nat.le_trans hB hW.size) (H.out.below (hW.mono hB))
  have HCK := Lib.hid fun W (hW : Below w.heap.size w W) => containsI_any b.kids Ak nk ck o.id W B (hK.below (hW.mono hB))
  have i0 : (0 : Int) ≤ (p : Int) := by omega
  have i1 : (p : Int) < (n : Int) := by omega
  have i2 : ¬ ((p : Int) < 0) := by omega
  have HPL : Hid ((pth l d o.parent).length = d) := pth_len d o.parent
  obtain ⟨hg, hhg⟩ : ∃ hg, hg = hgt l 41 o.id := ⟨_, rfl⟩
  have hg41 : hg ≤ 41 := by have := hgt_le l 41 o.id; omega
  rw [← hhg] at HV1 HHT
  obtain ⟨kn, hkn⟩ : ∃ kn, kn = (lessK b.kids o.id).length := ⟨_, rfl⟩
  rw [← hkn] at HV1 hcount
  have HCT := Lib.hid hcount
  clear hK hkl hp hlp hba hd hdF h1 h3 hp2 hlp2 hba2 hd2 hdF2 hbi2 hhg hkn hcount
  go_wp2_with fail
  refine (HPA.out w2 HB2.out).mono ?_
  rintro e w3 ⟨⟨A', n', rfl, hr⟩, hb⟩
  have HB3 : Hid (Below w.heap.size w w3) := HB2.out.trans (hb.mono HB2.out.size)
  have P3 := Lib.hid (P2.out.below hb P2.out.lt)
  have hri := hr.reads (B := w3.heap.size) fun b hb => hb.2
  have hn' : n' = d := by
    have := hri.len.1
    rw [HPL.out] at this
    exact this
  have HCP := Lib.hid (containsI_any _ A' n' n' o.id w3 w3.heap.size hri)
  have c3 := (HB3.out.cell (p := ⟨bb, off + p * 5 + 2, none⟩) (by show bb < _; omega)).trans g2
  clear hb hr hri e0 c2 g2
  subst hn'
  have e0 := fun i => P3.out.cell i
  obtain ⟨q, hq⟩ : ∃ q, q = decide (o.id ∈ pth l n' o.parent) := ⟨_, rfl⟩
  rw [← hq] at HCP
  go_wp2_with fail
  refine HCP.out.mono ?_
  rintro e w4 ⟨rfl, hw4⟩
  rw [hw4]
  clear hw4
  cases q
  case true =>
    have HL : Hid (V = 12) := HV1.out.trans (if_pos (of_decide_eq_true hq.symm))
    clear hq
    go_wp2_with fail
    go_ret
    exact ⟨by rw [HL.out]; rfl, HB3.out⟩
  have HV2 := Lib.hid (HV1.out.trans (if_neg (of_decide_eq_false hq.symm)))
  clear hq
  obtain ⟨kq, hkq⟩ : ∃ kq, kq = decide (o.id ∈ b.kids) := ⟨_, rfl⟩
  have HKK := Lib.hid fun W (hW : Below w.heap.size w W) => HCK.out W hW
  rw [← hkq] at HKK
  have hkk : (kn : Int) = (nk : Int) - (if kq = true then 1 else 0) := by
    have := HCT.out
    rw [hkq]
    by_cases e : o.id ∈ b.kids
    · rw [if_pos e] at this
      rw [if_pos (decide_eq_true e)]; omega
    · rw [if_neg e] at this
      rw [if_neg (by rw [decide_eq_false e]; decide)]; omega
  have hk1 : kq = true → 1 ≤ nk := fun e => by
    have := HCT.out
    rw [e] at hkq
    rw [if_pos (of_decide_eq_true hkq.symm)] at this
    omega
  clear hkq
  go_upto_region 8 with fail
  have HKD := Lib.hid fun q => HKK.out (w3.drewN q) (bdrew HB3.out q)
  go_quiet ((go_at_call 84; exact (HKD.out _).mono (fun _ _ h => ⟨h.1, _, h.2⟩)))
  have HBD : Hid (Below w.heap.size w (w3.drewN nq)) := bdrew HB3.out nq
  have PD := Lib.hid (P3.out.drewN nq)
  clear e0 c3
  have e0 := fun i => PD.out.cell i
  cases kq
  case true =>
    have hk1' := hk1 rfl
    rw [if_pos rfl] at hkk
    have hz : (nk : Int) - 1 = (kn : Int) := hkk.symm
    clear hkk hk1
    by_cases h5 : o.at_ < 0
    · have HL : Hid (V = 2) := HV2.out.trans (if_pos (.inl h5))
      go_wp2_with fail
      go_ret
      exact ⟨by rw [HL.out]; rfl, HBD⟩
    by_cases h6 : (kn : Int) < o.at_
    · have HL : Hid (V = 2) := HV2.out.trans (if_pos (.inr h6))
      go_wp2_with fail
      go_ret
      exact ⟨by rw [HL.out]; rfl, HBD⟩
    have HV3 := Lib.hid (HV2.out.trans (if_neg (by omega)))
    by_cases h9 : 500 ≤ kn
    · have HL : Hid (V = 14) := HV3.out.trans (if_pos h9)
      have h9' : (500 : Int) ≤ (kn : Int) := by omega
      go_wp2_with fail
      go_ret
      exact ⟨by rw [HL.out]; rfl, HBD⟩
    have h9' : ¬ (500 : Int) ≤ (kn : Int) := by omega
    have HV4 := Lib.hid (HV3.out.trans (if_neg h9))
    have HHX := Lib.hid (HHT.out _ HBD)
    by_cases h10 : 40 < (n' : Int) + hg
    · have HL : Hid (V = 13) := HV4.out.trans (if_pos h10)
      go_wp2_with fail
      refine HHX.out.mono ?_
      rintro e w5 ⟨rfl, hb5⟩
      have HB5 : Hid (Below w.heap.size w w5) := HBD.trans (hb5.mono HBD.size)
      clear hb5
      go_wp2_with fail
      go_ret
      exact ⟨by rw [HL.out]; rfl, HB5.out⟩
    · have HL : Hid (V = 0) := HV4.out.trans (if_neg h10)
      go_wp2_with fail
      refine HHX.out.mono ?_
      rintro e w5 ⟨rfl, hb5⟩
      have HB5 : Hid (Below w.heap.size w w5) := HBD.trans (hb5.mono HBD.size)
      clear hb5
      go_wp2_with fail
      go_ret
      exact ⟨by rw [HL.out]; rfl, HB5.out⟩
  case false =>
    rw [if_neg (by decide)] at hkk
    obtain rfl : nk = kn := by omega
    clear hkk hk1
    by_cases h5 : o.at_ < 0
    · have HL : Hid (V = 2) := HV2.out.trans (if_pos (.inl h5))
      go_wp2_with fail
      go_ret
      exact ⟨by rw [HL.out]; rfl, HBD⟩
    by_cases h6 : (nk : Int) < o.at_
    · have HL : Hid (V = 2) := HV2.out.trans (if_pos (.inr h6))
      go_wp2_with fail
      go_ret
      exact ⟨by rw [HL.out]; rfl, HBD⟩
    have HV3 := Lib.hid (HV2.out.trans (if_neg (by omega)))
    by_cases h9 : 500 ≤ nk
    · have HL : Hid (V = 14) := HV3.out.trans (if_pos h9)
      have h9' : (500 : Int) ≤ (nk : Int) := by omega
      go_wp2_with fail
      go_ret
      exact ⟨by rw [HL.out]; rfl, HBD⟩
    have h9' : ¬ (500 : Int) ≤ (nk : Int) := by omega
    have HV4 := Lib.hid (HV3.out.trans (if_neg h9))
    have HHX := Lib.hid (HHT.out _ HBD)
    by_cases h10 : 40 < (n' : Int) + hg
    · have HL : Hid (V = 13) := HV4.out.trans (if_pos h10)
      go_wp2_with fail
      refine HHX.out.mono ?_
      rintro e w5 ⟨rfl, hb5⟩
      have HB5 : Hid (Below w.heap.size w w5) := HBD.trans (hb5.mono HBD.size)
      clear hb5
      go_wp2_with fail
      go_ret
      exact ⟨by rw [HL.out]; rfl, HB5.out⟩
    · have HL : Hid (V = 0) := HV4.out.trans (if_neg h10)
      go_wp2_with fail
      refine HHX.out.mono ?_
      rintro e w5 ⟨rfl, hb5⟩
      have HB5 : Hid (Below w.heap.size w w5) := HBD.trans (hb5.mono HBD.size)
      clear hb5
      go_wp2_with fail
      go_ret
      exact ⟨by rw [HL.out]; rfl, HB5.out⟩
end Go.Proofs.YtmkicfjcgbfaaaaGreatDoor
namespace Go.Proofs.YtmkicfjcgbfaaaaGreatDoor
open Go.RowKit

def opZ : Value := .agg #[.int .i64 0, .int .i64 0, .int .i64 0, .int .i64 0, .int .i64 0, .int .i64 0, .string ⟨#[]⟩, .string ⟨#[]⟩, .int .i64 0, .int .i64 0, .int .i64 0, .string ⟨#[]⟩, .slice none 0 0]
theorem op_info : (Tryz.prog.info? 67).map (fun i => (i.zero, i.size, i.bytes)) = some (some opZ, 13, 144) := by kernel_rfl
theorem opV_one (x : Opn × Value) (h : ∃ A n c, x.2 = .slice A n c) : ∀ u ∈ opV x, u.oneCell' = true := by
  obtain ⟨o, v⟩ := x
  obtain ⟨A, n, c, rfl⟩ : ∃ A n c, v = .slice A n c := h
  intro u hu
  simp only [opV, List.mem_cons, List.not_mem_nil, or_false] at hu
  rcases hu with rfl | rfl | rfl | rfl | rfl | rfl | rfl | rfl | rfl | rfl | rfl | rfl | rfl <;> rfl
set_option maxHeartbeats 1000000 in
/-- slices.Clip at operations -/
theorem clipO_any (A : Option Addr) (n c : Nat) (w : World) (h : n ≤ c) (hA : A = none → n = 0 ∧ c = 0) :
    Calls Tryz.prog 43 #[.slice A n c] w fun e w' => e = .returned (.slice A n n) ∧ w' = w := by
  rcases A with _ | ad
  · obtain ⟨rfl, rfl⟩ := hA rfl
    clear hA
    go_enter Tryz.func43, Tryz.ntmps43
    go_wp2_with fail
    go_ret
    exact ⟨rfl, rfl⟩
  · clear hA
    go_enter Tryz.func43, Tryz.ntmps43
    go_wp2_with fail
    go_ret
    exact ⟨rfl, rfl⟩
end Go.Proofs.YtmkicfjcgbfaaaaGreatDoor
namespace Go.Proofs.YtmkicfjcgbfaaaaGreatDoor
open Go.RowKit

theorem blk_one (x : BK) (h1 : ∃ A n c, x.2.1 = .slice A n c) (h2 : ∃ A n c, x.2.2 = .slice A n c) : ∀ u ∈ blV x, u.oneCell' = true := by
  obtain ⟨A, n, c, e1⟩ := h1
  obtain ⟨A', n', c', e2⟩ := h2
  intro u hu
  unfold blV at hu
  rw [e1, e2] at hu
  simp at hu
  rcases hu with rfl | rfl | rfl | rfl | rfl <;> rfl
theorem NB.slices {w : World} {S : Nat → Prop} {x : BK} (h : NB w S x) : (∃ A n c, x.2.1 = .slice A n c) ∧ ∃ A n c, x.2.2 = .slice A n c := by
  obtain ⟨⟨A, n, c, e, _⟩, ⟨A', n', c', M, _, e', _⟩⟩ := h
  exact ⟨⟨A, n, c, e⟩, ⟨A', n', c', e'⟩⟩
theorem RowB.one {w : World} {g cap : Nat} {M : List BK} (h : RowB w g cap M) : ∀ u ∈ M.flatMap blV, u.oneCell' = true := by
  intro u hu
  obtain ⟨x, hx, hu⟩ := List.mem_flatMap.1 hu
  obtain ⟨h1, h2⟩ := (h.nest x hx).slices
  exact blk_one x h1 h2 u hu
/-- a new block -/
def newB (id p : Int) (s : ByteArray) : BK := (⟨id, p, [], s, []⟩, .slice none 0 0, .slice none 0 0)
theorem newB_nest (w : World) (S : Nat → Prop) (id p : Int) (s : ByteArray) : NB w S (newB id p s) :=
  ⟨⟨none, 0, 0, rfl, rfl, ⟨Nat.le_refl _, by omega⟩, ⟨rfl, fun h => absurd h (by omega)⟩, fun x hx => by cases hx⟩, ⟨none, 0, 0, [], rfl, rfl, rfl, ⟨Nat.le_refl _, by omega⟩, ⟨rfl, fun h => absurd h (by omega)⟩, fun x hx => by cases hx⟩⟩
theorem fmB_take (M : List BK) (i : Nat) : (M.flatMap blV).take (i * 5) = (M.take i).flatMap blV := by
  conv => lhs; rw [← List.take_append_drop i M, List.flatMap_append]
  rcases Nat.lt_or_ge i M.length with h | h
  · rw [List.take_append_of_le_length (by rw [fmB_len, List.length_take]; omega), List.take_of_length_le (by rw [fmB_len, List.length_take]; omega)]
  · rw [List.drop_eq_nil_of_le h, List.flatMap_nil, List.append_nil, List.take_of_length_le (by rw [fmB_len, List.length_take]; omega)]
theorem fmB_drop (M : List BK) (i : Nat) : (M.flatMap blV).drop (i * 5) = (M.drop i).flatMap blV := by
  conv => lhs; rw [← List.take_append_drop i M, List.flatMap_append]
  rcases Nat.lt_or_ge i M.length with h | h
  · have : ((M.take i).flatMap blV).length = i * 5 := by rw [fmB_len, List.length_take]; omega
    rw [← this, List.drop_left]
  · rw [List.drop_eq_nil_of_le h, List.flatMap_nil, List.append_nil, List.drop_eq_nil_of_le]
    rw [fmB_len, List.length_take]; omega
/-- what an insert leaves -/
def InsBR (S : Nat → Prop) (g : Nat) (M' : List BK) (w : World) (e : Ending) (w' : World) : Prop := ∃ g' cap', e = .returned (.slice (some ⟨g', 0, none⟩) M'.length cap') ∧ RowS S w' g' cap' M' ∧ w.grownBy w' (some g) ∧ (g' = g ∨ w.heap.size ≤ g')
theorem insertB_any {S : Nat → Prop} (w : World) (g cap : Nat) (M : List BK) (h : RowS S w g cap M) (i : Nat) (hi : i ≤ M.length) (hl : M.length < 100000) (id p : Int) (s : ByteArray) :
    Calls Tryz.prog 66 #[.slice (some ⟨g, 0, none⟩) M.length cap, .int .i64 i, .slice (some ⟨w.heap.size, 0, none⟩) 1 1] (w.alloc (.cells #[.int .i64 id, .int .i64 p, .slice none 0 0, .string s, .slice none 0 0] 52)) (InsBR S g (M.take i ++ newB id p s :: M.drop i) (w.alloc (.cells #[.int .i64 id, .int .i64 p, .slice none 0 0, .string s, .slice none 0 0] 52))) := by
  obtain ⟨wa, hwa⟩ : ∃ wa, wa = w.alloc (.cells #[.int .i64 id, .int .i64 p, .slice none 0 0, .string s, .slice none 0 0] 52) := ⟨_, rfl⟩
  have hk : Blk wa w.heap.size 52 (blV (newB id p s)).toArray := by rw [hwa]; exact Blk.new _ _ _
  have hb : Below w.heap.size w wa := by rw [hwa]; exact (Below.refl _ _).alloc (Nat.le_refl _) _
  rw [← hwa]
  have ha := h.below hb
  have hgl := h.lt
  have hbz := hb.size
  refine (insB_own (.slice (some ⟨g, 0, none⟩) M.length cap) M.length (M.flatMap blV) g i w.heap.size (blV (newB id p s)) wa (ha.own (Nat.le_refl _)) hi (by omega) (blV_len _) hk (fun e => by have : g = w.heap.size := Option.some.inj e; omega) ha.one (blk_one _ ⟨_, _, _, rfl⟩ ⟨_, _, _, rfl⟩) (Nat.le_of_lt ha.lt)).mono ?_
  rintro e w1 ⟨v', rfl, hown, hg, hv⟩
  have hfm : (M.take i ++ newB id p s :: M.drop i).flatMap blV = (M.flatMap blV).take (i * 5) ++ blV (newB id p s) ++ (M.flatMap blV).drop (i * 5) := by
    rw [fmB_take, fmB_drop, List.flatMap_append, List.flatMap_cons, List.append_assoc]
  have hlen : (M.take i ++ newB id p s :: M.drop i).length = M.length + 1 := by
    rw [List.length_append, List.length_cons, List.length_take, List.length_drop]; omega
  rw [← hfm, ← hlen] at hown
  have hg' : wa.grownBy w1 (some g) := hg
  obtain ⟨g', cap', rfl, hgg, hrow⟩ := RowS.of_own (S := S) hown (by omega) (by omega) fun x hx => by
    have hx' : NB wa (fun b => (b < wa.heap.size ∧ b ≠ g) ∧ S b) x := by
      rcases List.mem_append.1 hx with hx | hx
      · exact ha.far x (List.mem_of_mem_take hx)
      · rcases List.mem_cons.1 hx with rfl | hx
        · exact newB_nest _ _ _ _ _
        · exact ha.far x (List.mem_of_mem_drop hx)
    refine NB_ok _ _ _ _ x hx' (fun q hq => World.cell?_of_block (hg'.block q.block hq.1.1 fun e => hq.1.2 (Option.some.inj e))) fun b hb' => ⟨⟨Nat.lt_of_lt_of_le hb'.1.1 hg'.size, ?_⟩, hb'.2⟩
    rcases hv with e | e <;> rw [e]
    · exact fun e => hb'.1.2 (Option.some.inj e).symm
    · exact fun e => by have := Option.some.inj e; omega
  refine ⟨g', cap', rfl, hrow, hg', ?_⟩
  rcases hv with e | e
  · exact .inl (Option.some.inj e)
  · exact .inr (Nat.le_of_eq (Option.some.inj e).symm)
/-- what a delete leaves -/
def DelBR (S : Nat → Prop) (g cap : Nat) (M' : List BK) (w : World) (e : Ending) (w' : World) : Prop := ∃ cap', e = .returned (.slice (some ⟨g, 0, none⟩) M'.length cap') ∧ RowS S w' g cap' M' ∧ w.grownBy w' (some g) ∧ cap = cap
theorem deleteB_any {S : Nat → Prop} (w : World) (g cap : Nat) (M : List BK) (h : RowS S w g cap M) (i : Nat) (hi : i < M.length) (h2 : 2 ≤ M.length) :
    Calls Tryz.prog 69 #[.slice (some ⟨g, 0, none⟩) M.length cap, .int .i64 i, .int .i64 ((i : Int) + 1)] w (DelBR S g cap (M.take i ++ M.drop (i + 1)) w) := by
  have hfew := h.few
  refine (deleteB_own (.slice (some ⟨g, 0, none⟩) M.length cap) M.length (M.flatMap blV) g i w (h.own (Nat.le_refl _)) hi hfew h.one).mono ?_
  rintro e w1 ⟨v', rfl, hown, hg, hv⟩
  have hfm : (M.take i ++ M.drop (i + 1)).flatMap blV = (M.flatMap blV).take (i * 5) ++ (M.flatMap blV).drop ((i + 1) * 5) := by
    rw [fmB_take, fmB_drop, List.flatMap_append]
  have hlen : (M.take i ++ M.drop (i + 1)).length = M.length - 1 := by
    rw [List.length_append, List.length_take, List.length_drop]; omega
  rw [← hfm, ← hlen] at hown
  have hg' : w.grownBy w1 (some g) := hg
  have hv' : v'.ownBlock = some g := hv
  obtain ⟨g', cap', rfl, hgg, hrow⟩ := RowS.of_own (S := S) hown (by omega) (by omega) fun x hx => by
    have hx' : NB w (fun b => (b < w.heap.size ∧ b ≠ g) ∧ S b) x := by
      rcases List.mem_append.1 hx with hx | hx
      · exact h.far x (List.mem_of_mem_take hx)
      · exact h.far x (List.mem_of_mem_drop hx)
    exact NB_ok _ _ _ _ x hx' (fun q hq => World.cell?_of_block (hg'.block q.block hq.1.1 fun e => hq.1.2 (Option.some.inj e))) fun b hb' => ⟨⟨Nat.lt_of_lt_of_le hb'.1.1 hg'.size, by rw [hv']; exact fun e => hb'.1.2 (Option.some.inj e).symm⟩, hb'.2⟩
  obtain rfl : g' = g := Option.some.inj hv'
  exact ⟨cap', rfl, hrow, hg', rfl⟩
end Go.Proofs.YtmkicfjcgbfaaaaGreatDoor
namespace Go.Proofs.YtmkicfjcgbfaaaaGreatDoor
open Go.RowKit

/-- what Put leaves -/
def PutR (l : List Pr) (w : World) (e : Ending) (w' : World) : Prop := (∃ A n c, e = .returned (.tuple #[.slice A n c, .int .i64 0]) ∧ RPrX w' (fun b => w.heap.size ≤ b ∧ b < w'.heap.size) (.slice A n c) l) ∧ Below w.heap.size w w'

set_option maxRecDepth 100000 in
set_option maxHeartbeats 4000000 in
/-- prop.Put without an error -/
theorem put_ok (A : Option Addr) (n c : Nat) (l : List Pr) (s : ByteArray) (v : Vl) (Av : Option Addr) (nv cv : Nat) (w : World) (B : Nat) (hB : B ≤ w.heap.size) (h : RPr w B (.slice A n c) l) (hcp : cpErr l = 0) (hv : RV w B (.slice Av nv cv) v.items) (hs : nmErr s = 0) (hve : vErr v = 0) (hl : (setPr l s v).length ≤ 20) :
    Calls Tryz.prog 71 #[.slice A n c, .string s, AV (v, .slice Av nv cv)] w (PutR (setPr l s v) w) := by
  obtain ⟨wb, hwb⟩ : ∃ wb, wb = w.alloc (.cells #[.int .i64 v.kind, .int .i64 v.int_, .int .i64 v.to_, .string v.text, .slice Av nv cv] 65) := ⟨_, rfl⟩
  have HWB0 : Hid (Below w.heap.size w wb) := by rw [hwb]; exact (Below.refl _ _).alloc (Nat.le_refl _) _
  have P0 : Hid (Blk wb w.heap.size 65 #[.int .i64 v.kind, .int .i64 v.int_, .int .i64 v.to_, .string v.text, .slice Av nv cv]) := by rw [hwb]; exact Blk.new _ _ _
  have HP := Lib.hid fun W (hW : Below w.heap.size w W) => checkProps_any (.slice A n c) l W B (Nat.le_trans hB hW.size) (h.below (hW.mono hB))
  have HNM := Lib.hid fun W => checkName_any s W
  have HWI := Lib.hid fun W (hW : Below w.heap.size w W) => with_any A n c l s v Av nv cv W B (Nat.le_trans hB hW.size) (h.below (hW.mono hB)) hcp (hv.below (hW.mono hB))
  obtain ⟨dv, hdv⟩ := hv
  have HCV := Lib.hid fun W (hW : Below w.heap.size w W) => checkValue_any dv (v, .slice Av nv cv) W B (Nat.le_trans hB hW.size) (hdv.below (hW.mono hB))
  rw [hcp] at HP
  rw [hs] at HNM
  dsimp only at HCV
  rw [hve] at HCV
  have HWB := Lib.hid hwb
  have HL := Lib.hid hl
  dsimp only [AV] at HCV HWI ⊢
  clear h hcp hdv hwb hs hve hl
  go_enter Tryz.func71, Tryz.ntmps71
  go_upto_region 1 with fail
  rw [← HWB.out]
  go_wp2_with fail
  refine (HP.out wb HWB0.out).mono ?_
  rintro e w1 ⟨rfl, hb1⟩
  have HB1 : Hid (Below w.heap.size w w1) := HWB0.out.trans (hb1.mono HWB0.out.size)
  have P1 := Lib.hid (P0.out.below hb1 P0.out.lt)
  clear hb1
  go_wp2_with fail
  refine (HNM.out w1).mono ?_
  rintro e w2 ⟨rfl, hw2⟩
  rw [hw2]
  clear hw2
  have e0 := P1.out.cell 0
  have e1 := P1.out.cell 1
  have e2 := P1.out.cell 2
  have e3 := P1.out.cell 3
  have e4 := P1.out.cell 4
  go_wp2_with fail
  refine (HCV.out w1 HB1.out).mono ?_
  rintro e w3 ⟨rfl, hb3⟩
  have HB3 : Hid (Below w.heap.size w w3) := HB1.out.trans (hb3.mono HB1.out.size)
  have P3 := Lib.hid (P1.out.below hb3 P1.out.lt)
  clear hb3 e0 e1 e2 e3 e4
  have e0 := P3.out.cell 0
  have e1 := P3.out.cell 1
  have e2 := P3.out.cell 2
  have e3 := P3.out.cell 3
  have e4 := P3.out.cell 4
  go_wp2_with fail
  refine (HWI.out w3 HB3.out).mono ?_
  rintro e w4 ⟨⟨A4, n4, c4, rfl, hrx⟩, hb4⟩
  have HB4 : Hid (Below w.heap.size w w4) := HB3.out.trans (hb4.mono HB3.out.size)
  have hz3 := HB3.out.size
  have HRX : Hid (RPrX w4 (fun b => w.heap.size ≤ b ∧ b < w4.heap.size) (.slice A4 n4 c4) (setPr l s v)) := hrx.weak fun b hb => ⟨by omega, hb.2⟩
  have hn4 : n4 ≤ 20 := by
    have h1 := (hrx.reads (B := w4.heap.size) fun b hb => hb.2).len.1
    have := HL.out
    omega
  clear hrx hb4 e0 e1 e2 e3 e4
  go_wp2_with fail
  go_ret2
  exact ⟨⟨A4, n4, c4, rfl, HRX.out⟩, HB4.out⟩
end Go.Proofs.YtmkicfjcgbfaaaaGreatDoor
