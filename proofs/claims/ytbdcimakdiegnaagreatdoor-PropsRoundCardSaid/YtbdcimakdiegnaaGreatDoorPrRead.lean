/-
  DERIVED. The walk of prop.ReadProps at what PropsText writes. Conditions: tables are laid. By an AI agent.
-/
import Derived.Test.YtbdcimakdiegnaaGreatDoorPrRd
import Derived.Test.YtbdcimakdiegnaaGreatDoorPrAt
import Derived.Test.YtbdcimakdiegnaaGreatDoorRvRead
namespace Go.Proofs.YtbdcimakdiegnaaGreatDoor
open Go.RowKit

/-- what ReadProps leaves behind -/
def RdpP (l : List Pr) (w : World) (e : Ending) (w' : World) : Prop := (∃ A n c, e = .returned (.tuple #[.slice A n c, .int .i64 0, .int .i64 0]) ∧ RPrX w' (fun b => w.heap.size ≤ b ∧ b < w'.heap.size) (.slice A n c) l) ∧ Below w.heap.size w w'

set_option maxHeartbeats 2000000 in
set_option maxRecDepth 100000 in
theorem readProps_big (s : ByteArray) (w : World) (hs : 400000 < s.size) :
    Calls Tryz.prog 11 #[.string s] w fun e w' => e = .returned (.tuple #[.slice none 0 0, .int .i64 0, .int .i64 4]) ∧ w' = w := by
  have j1 : (400000 : Int) < (s.size : Int) := by omega
  clear hs
  go_enter Tryz.func11, Tryz.ntmps11
  go_wp2_with fail
  exact bodyPost_ret (v := .tuple #[.slice none 0 0, .int .i64 0, .int .i64 4]) (by simp [results, Tryz.results11, go_sem]) rfl ⟨rfl, rfl⟩

set_option maxHeartbeats 4000000 in
set_option maxRecDepth 100000 in
theorem readProps_any (l : List Pr) (m : Int) (w : World) (hl : cpErr l = 0) (hs : (ptS l).size ≤ 400000) (hE : En m w) :
    Calls Tryz.prog 11 #[.string (ptS l)] w (RdpP l w) := by
  obtain ⟨i0, hi, xq0, xq1, xq2⟩ := info_parts prop_info
  have HCP := Lib.hid hl
  have HRT := Lib.hid (cp_right hl)
  have HE := Lib.hid hE
  have HSZ := Lib.hid hs
  obtain ⟨N, hN⟩ : ∃ N, N = l.length := ⟨_, rfl⟩
  have HN := Lib.hid hN
  have hN20 : N ≤ 20 := by have := HRT.out.1; omega
  have j1 : ¬ (400000 : Int) < ((ptS l).size : Int) := by omega
  have HS : Hid (OwnX prV 6 60 NP w w.heap.size (.slice none 0 0) []) := OwnX.start _ _
  obtain ⟨S0, hS0⟩ : ∃ S0, S0 = ptS l := ⟨_, rfl⟩
  have HS0 := Lib.hid hS0
  rw [← hS0] at j1 ⊢
  clear hl hs hE hN hS0
  go_enter Tryz.func11, Tryz.ntmps11
  go_wp2_with fail
  go_loopg [0, 5, 6, 7] N (fun gg s0 s5 s6 s7 wr => ∃ (k : Nat) (v : Value) (L : List (Pr × Value)) (S : ByteArray), k + gg = N ∧ v = s5 ∧ s0 = .string S ∧ Hid (S = ptS (l.drop k)) ∧ s6 = .bool false ∧ s7 = .int .i64 ((k + 1 : Nat) : Int) ∧ Hid (L.map Prod.fst = l.take k) ∧ Hid (OwnX prV 6 60 NP wr w.heap.size v L) ∧ Hid (Below w.heap.size w wr))
  case atStart => exact ⟨0, _, [], S0, by omega, rfl, rfl, HS0, rfl, rfl, rfl, HS, Below.refl _ _⟩
  case round =>
    obtain ⟨k, v, L, S, hkg, rfl, rfl, hS, rfl, rfl, hL, hown, hbel⟩ := hrel
    obtain ⟨W1, rfl⟩ : ∃ W1, W1 = wr := ⟨_, rfl⟩
    have hzr : w.heap.size ≤ W1.heap.size := hbel.out.size
    have HLL : Hid (L.length = k) := by
      show _ = _
      have := congrArg List.length hL.out
      rw [List.length_map, List.length_take, ← HN.out] at this
      omega
    by_cases hk : k < N
    · obtain ⟨x, hx⟩ : ∃ x, l[k]? = some x := ⟨_, List.getElem?_eq_getElem (by have := HN.out; omega)⟩
      obtain ⟨hkk, ex⟩ := List.getElem?_eq_some_iff.1 hx
      have hdr : l.drop k = x :: l.drop (k + 1) := by rw [List.drop_eq_getElem_cons hkk, ex]
      have HLK : Hid (l.take (k + 1) = l.take k ++ [x]) := by
        show _ = _
        rw [List.take_succ_eq_append_getElem hkk, ex]
      have hok := HRT.out.2 x (List.mem_of_getElem? hx)
      have hSe : S = ptS (x :: l.drop (k + 1)) := hS.out.trans (by rw [hdr])
      obtain ⟨S', hS'⟩ : ∃ S', S' = ptS (l.drop (k + 1)) := ⟨_, rfl⟩
      have HS' := Lib.hid hS'
      have hsz : S.size ≤ 400000 := by rw [hS.out]; exact Nat.le_trans (ptS_size l k) HSZ.out
      obtain ⟨z0, z1, z2, z3, z4⟩ := ptS_cons_size x (l.drop (k + 1))
      rw [← hSe] at z0 z1 z2 z3 z4
      obtain ⟨li, hli⟩ : ∃ li, li = liS x := ⟨_, rfl⟩
      obtain ⟨va, hva⟩ : ∃ va, va = vaS x := ⟨_, rfl⟩
      rw [← hli] at z2
      rw [← hva] at z4
      have HC1 : Hid (∀ W, En m W → Calls Tryz.prog 27 #[.string S, .string ⟨#[10]⟩] W fun e w' => e = .returned (.tuple #[.string li, .string S', .bool true]) ∧ Below W.heap.size W w') := fun W hW => by
        have h := Tryz.strings_Cut S ⟨#[10]⟩ m W (by omega) hW.ml
        have e : Lib.cut S.data.toList (⟨#[10]⟩ : ByteArray).data.toList = (li.data.toList, S'.data.toList, true) := by rw [hSe, hli, hS']; exact line_cut hok
        rw [e] at h
        exact h.mono fun e w' ⟨h1, n, h2⟩ => ⟨h1, by rw [h2]; exact bl_drewN _ _ _⟩
      have HC2 : Hid (∀ W, En m W → Calls Tryz.prog 27 #[.string li, .string ⟨#[58, 58]⟩] W fun e w' => e = .returned (.tuple #[.string x.name, .string va, .bool true]) ∧ Below W.heap.size W w') := fun W hW => by
        have h := Tryz.strings_Cut li ⟨#[58, 58]⟩ m W (by omega) hW.ml
        have e : Lib.cut li.data.toList (⟨#[58, 58]⟩ : ByteArray).data.toList = (x.name.data.toList, va.data.toList, true) := by rw [hli, hva]; exact name_cut hok.2
        rw [e] at h
        exact h.mono fun e w' ⟨h1, n, h2⟩ => ⟨h1, by rw [h2]; exact bl_drewN _ _ _⟩
      have HC3 : Hid (∀ W, En m W → Calls Tryz.prog 28 #[.string x.name, .string ⟨#[32]⟩] W fun e w' => e = .returned (.bool false) ∧ w' = W) := fun W hW => by
        have h := Tryz.strings_Contains x.name ⟨#[32]⟩ m W (by omega) hW.ml
        rw [show Lib.contains x.name.data.toList (⟨#[32]⟩ : ByteArray).data.toList = false from name_cont hok.2] at h
        exact h
      have HC4 : Hid (∀ W, Calls Tryz.prog 29 #[.string va, .string ⟨#[32]⟩] W fun e w' => e = .returned (.bool true) ∧ w' = W) := fun W => by
        have h := Tryz.strings_HasPrefix va ⟨#[32]⟩ W
        rw [hva, show Lib.hasPrefix (vaS x).data.toList (⟨#[32]⟩ : ByteArray).data.toList = true from va_pre x] at h
        rw [hva]
        exact h
      have hvz : 1 ≤ va.size := by rw [hva]; exact va_size x
      obtain ⟨T, hT⟩ : ∃ T, T = wrV x.val := ⟨_, rfl⟩
      have hex : va.extract 1 va.size = T := by rw [hva, hT]; exact va_rest x
      rw [← hT] at z1
      have HC5 : Hid (∀ W, En m W → Calls Tryz.prog 18 #[.string T] W (RvP (x.val, 0) W)) := fun W hW => by
        have h := readValue_any T m W (by omega) hW
        rw [hT, show rdAll (wrV x.val).data.toList = (x.val, 0) from rdAll_wr hok.1] at h
        rw [hT]
        exact h
      have hnz : x.name.size ≠ 0 := (nm_all' hok.2).1
      have hSne : S.toList.isEmpty = false := notEmpty_of (by omega)
      have hNne : x.name.toList.isEmpty = false := notEmpty_of (by omega)
      have hva1 : (1 : Int) ≤ (va.size : Int) := by omega
      rw [← hex] at HC5
      obtain ⟨nm, xv⟩ := x
      dsimp only at HC2 HC3 HC5 hNne
      have HEW : Hid (En m W1) := HE.out.below hbel.out
      have hkb : (L.length + 1) * 80 ≤ 140737488355328 := by have := HLL.out; omega
      have hkm : L.length + 1 ≤ maxLen := by have := HLL.out; unfold maxLen; omega
      clear hx ex hdr hSe hS' hli hva hT hnz hok z0 z1 z2 z3 z4 hkk hex
      go_wp2_with fail
      refine (HC1.out _ HEW.out).mono ?_
      rintro e w2 ⟨rfl, hb2⟩
      have HB2 : Hid (Below w.heap.size w w2) := hbel.out.trans (hb2.mono hzr)
      have HO2 := Lib.hid (hown.out.below NP_ok hb2)
      have HE2 : Hid (En m w2) := HEW.out.below hb2
      clear hb2 hown hbel HEW HC1
      go_wp2_with fail
      refine (HC2.out _ HE2.out).mono ?_
      rintro e w3 ⟨rfl, hb3⟩
      have HB3 : Hid (Below w.heap.size w w3) := HB2.out.trans (hb3.mono HB2.out.size)
      have HO3 := Lib.hid (HO2.out.below NP_ok hb3)
      have HE3 : Hid (En m w3) := HE2.out.below hb3
      clear hb3 HO2 HB2 HE2 HC2
      go_wp2_with fail
      refine (HC3.out _ HE3.out).mono ?_
      rintro e w4 ⟨rfl, rfl⟩
      go_wp2_with fail
      refine (HC4.out _).mono ?_
      rintro e w5 ⟨rfl, rfl⟩
      go_wp2_with fail
      refine (HC5.out _ HE3.out).mono ?_
      rintro e w6 ⟨⟨⟨kx, ix, tx', sx, lx⟩, vx⟩, rfl, hyx, m6, b6⟩
      obtain ⟨A6, n6, c6, rfl⟩ := m6.slice
      dsimp only at hyx
      subst hyx
      dsimp only [AV, Vl.kind, Vl.int_, Vl.to_, Vl.text, Vl.items] at m6 ⊢
      obtain ⟨W, hW⟩ : ∃ W, W = w6.alloc (.cells #[.int .i64 kx, .int .i64 ix, .int .i64 tx', .string sx, .slice A6 n6 c6] 24) := ⟨_, rfl⟩
      have bW : Below w6.heap.size w6 W := by rw [hW]; exact (Below.refl _ _).alloc (Nat.le_refl _) _
      have HKV : Hid (Blk W w6.heap.size 24 #[.int .i64 kx, .int .i64 ix, .int .i64 tx', .string sx, .slice A6 n6 c6]) := by
        rw [hW]; exact Blk.new _ _ _
      have hz6 := b6.size
      have bW2 := b6.trans (bW.mono hz6)
      have HO6 := Lib.hid (HO3.out.below NP_ok bW2)
      have HB6 : Hid (Below w.heap.size w W) := HB3.out.trans (bW2.mono HB3.out.size)
      have HM6 : Hid (RVX W (fun b => w5.heap.size ≤ b ∧ b < W.heap.size ∧ v.ownBlock ≠ some b) (.slice A6 n6 c6) lx) := (m6.keep (fun p hp => bW.cell hp.2)).weak fun b hb => ⟨hb.1, Nat.lt_of_lt_of_le hb.2 bW.size, fun e => by have := (HO3.out.blocks b e).2; omega⟩
      have HZ5 := Lib.hid HB3.out.size
      have HW := Lib.hid hW
      clear m6 b6 bW bW2 hW HC3 HC4 HC5 HO3 HE3 HB3 hz6 hzr
      go_upto_region 13 with fail
      rw [← HW.out]
      have v4 := fun i => HKV.out.cell i
      go_wp2_with (at_builtin; refine wpList_append_own_at _ rfl _ _ 33 rfl w.heap.size 60 i0 pZ 6 80 Tryz.underlying33 hi xq0 xq1 xq2 rfl (by decide) v L.length _ rfl (HO6.out.own.alloc _) ⟨W.heap.size, 0, none⟩ 1 1 (prV (⟨nm, Vl.mk kx ix tx' sx lx⟩, Value.slice A6 n6 c6)) rfl rfl (newCells _ _ _) (prV_one _ ⟨_, _, _, rfl⟩) hkm hkb (by have := HB6.out.size; simp; omega) ?_)
      intro v' w7 hown7 hg7 hxx7 hat7
      clear hxx7
      have HO7 : Hid (OwnX prV 6 60 NP w7 w.heap.size v' (L ++ [(⟨nm, Vl.mk kx ix tx' sx lx⟩, Value.slice A6 n6 c6)])) := (HO6.out.below NP_ok ((Below.refl _ _).alloc (Nat.le_refl _) (.cells #[.string nm, .int .i64 kx, .int .i64 ix, .int .i64 tx', .string sx, .slice A6 n6 c6] 60))).app NP_ok (S := fun b => w5.heap.size ≤ b ∧ b < W.heap.size ∧ v.ownBlock ≠ some b) (HM6.out.keep fun p hp => World.cell?_alloc_lt _ _ _ hp.2.1) (fun b hb => ⟨by have := HZ5.out; omega, by have := hb.2.1; simp; omega, hb.2.2⟩) hown7 hg7 (by simpa using hat7)
      have HB7 : Hid (Below w.heap.size w w7) := (HB6.out.alloc HB6.out.size _).grown hg7 (by have := HB6.out.size; simp; omega) (fun g hg => (HO6.out.blocks g hg).1)
      have HL7 : Hid ((L ++ [((⟨nm, Vl.mk kx ix tx' sx lx⟩ : Pr), Value.slice A6 n6 c6)]).map Prod.fst = l.take (k + 1)) := by
        show _ = _
        rw [List.map_append, hL.out, HLK.out]; rfl
      have iw1 : IntKind.i64.wrap (((k + 1 : Nat) : Int) + 1) = ((k + 1 + 1 : Nat) : Int) := by
        rw [IntWalk.i64_in _ (by omega)]; omega
      clear hown7 hg7 hat7 v4 HO6 HB6 HM6 HKV HW HLK
      go_wp2_with fail
      go_roundg (N - (k + 1))
      case measure => omega
      case rel => exact ⟨k + 1, v', _, S', by omega, rfl, rfl, HS', rfl, by go_num, HL7, HO7, HB7⟩
    · obtain rfl : k = N := by omega
      have hd0 : l.drop k = [] := List.drop_eq_nil_of_le (by rw [← HN.out]; exact Nat.le_refl _)
      have hSe : S = ⟨#[]⟩ := hS.out.trans (by rw [hd0]; rfl)
      subst hSe
      obtain ⟨Ar, cr, rfl, hcr, hrd⟩ := RdX.of_own hown.out.own
      have HL' : Hid (L.map Prod.fst = l) := hL.out.trans (List.take_of_length_le (by rw [← HN.out]; exact Nat.le_refl _))
      obtain rfl : L.length = k := HLL.out
      have hown' := hown.out
      have HRX : RPrX W1 (fun b => w.heap.size ≤ b ∧ b < W1.heap.size) (.slice Ar L.length cr) l :=
        ⟨Ar, L.length, cr, L, HL'.out, rfl, rfl, ⟨hcr, by omega⟩, hrd.weak fun b hb => ⟨hb.2.1, hb.2.2⟩, fun x hx => (hown'.nest x hx).weak fun b hb => ⟨hb.1, hb.2.1⟩⟩
      have HRP : Hid (RPr W1 W1.heap.size (.slice Ar L.length cr) l) := HRX.reads fun b hb => hb.2
      have CH := checkProps_any (.slice Ar L.length cr) l W1 W1.heap.size (Nat.le_refl _) HRP.out
      rw [HCP.out] at CH
      have HCH := Lib.hid CH
      have HBL := Lib.hid hbel.out
      clear hcr hrd hown' HRX CH hbel hS hown hd0
      go_wp2_with fail
      refine HCH.out.mono ?_
      rintro e w2 ⟨rfl, hb2⟩
      have HCO := Lib.hid (copyProps_any Ar L.length cr l w2 W1.heap.size hb2.size (HRP.out.below hb2))
      have HB2 : Hid (Below w.heap.size w w2) := HBL.out.trans (hb2.mono hzr)
      clear hb2 HCH HRP
      go_wp2_with fail
      refine HCO.out.mono ?_
      rintro e w3 ⟨⟨A', n', c', rfl, hr⟩, hb3⟩
      have hz2 := HB2.out.size
      have HR : Hid (RPrX w3 (fun b => w.heap.size ≤ b ∧ b < w3.heap.size) (.slice A' n' c') l) := hr.weak fun b hb => ⟨by omega, hb.2⟩
      have HB3 : Hid (Below w.heap.size w w3) := HB2.out.trans (hb3.mono hz2)
      clear hb3 hr
      go_wp2_with fail
      exact bodyPost_ret (v := .tuple #[.slice A' n' c', .int .i64 0, .int .i64 0]) (by simp [results, Tryz.results11, go_sem]) rfl ⟨⟨A', n', c', rfl, HR.out⟩, HB3.out⟩
end Go.Proofs.YtbdcimakdiegnaaGreatDoor
