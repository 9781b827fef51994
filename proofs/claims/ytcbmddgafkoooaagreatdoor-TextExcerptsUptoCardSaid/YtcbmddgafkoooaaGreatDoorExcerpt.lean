/-
  DERIVED. The walks of text.Excerpt, florref1.ExcerptOf and the law over them. Conditions: the text's size. By an AI agent.
-/
import Derived.Test.YtcbmddgafkoooaaGreatDoorExcerptMath
namespace Go.Proofs.YtcbmddgafkoooaaGreatDoor
open Go.RowKit

theorem lib_idx (H : ByteArray) : ∃ j : Nat, Lib.lastIndexByte H 32 = (j : Int) - 1 ∧ j ≤ H.size ∧ (0 < j → bt H (j - 1) = 32) ∧ ∀ i, j ≤ i → i < H.size → bt H i ≠ 32 := by
  have key : ∀ i, i < H.size → ((H.data[i]!).toNat : Int) = bt H i := fun i hi => by
    rw [bt_at hi]
    have : i < H.data.size := hi
    rw [getElem!_pos H.data i this]
    rfl
  rcases Lib.lastIndexByte_spec H 32 with ⟨e, hn⟩ | ⟨i, hi, e, hc, hn⟩
  · exact ⟨0, by rw [e]; rfl, Nat.zero_le _, fun h => absurd h (by omega), fun i _ hi => by rw [← key i hi]; exact hn i hi⟩
  · exact ⟨i + 1, by rw [e]; omega, hi, fun _ => by rw [show i + 1 - 1 = i by omega, ← key i hi]; exact hc, fun k hk hk' => by rw [← key k hk']; exact hn k (by omega) hk'⟩
theorem cut_list (p : ByteArray) (n : Nat) : (p.extract 0 n).data.toList = p.data.toList.take n := by rw [ext_list2]; simp
theorem cut_size (p : ByteArray) {n : Nat} (h : n ≤ p.size) : (p.extract 0 n).size = n := by rw [ByteArray.size_extract]; omega
theorem cut_cut (p : ByteArray) {n j : Nat} (h : j ≤ n) : (p.extract 0 n).extract 0 j = p.extract 0 j := by
  apply ba_ext
  rw [cut_list, cut_list, cut_list, List.take_take, Nat.min_eq_left h]
theorem ba_of (p : ByteArray) : (⟨p.data.toList.toArray⟩ : ByteArray) = p := by cases p; rfl

set_option maxHeartbeats 2000000 in
set_option maxRecDepth 100000 in
theorem excerpt_any (s : ByteArray) (m : Int) (w : World) (hs : s.size ≤ 1048576) :
    Calls Tryz.prog 26 #[.string s, .int .i64 m] w fun e w' => e = .returned (.string (exOut (trP s) m)) ∧ Below w.heap.size w w' := by
  by_cases h0 : m ≤ 0
  · have HV : Hid (exOut (trP s) m = ⟨#[]⟩) := by show _ = _; unfold exOut; rw [if_pos h0]; rfl
    go_enter Tryz.func26, Tryz.ntmps26
    go_wp2
    go_ret
    exact ⟨by rw [HV.out]; rfl, Below.refl _ _⟩
  obtain ⟨n, rfl⟩ : ∃ n : Nat, m = n := ⟨m.toNat, by omega⟩
  have hn0 : 0 < n := by omega
  have hpz := trP_size s hs
  have hqz : (plain s).size ≤ 4398046511104 := plainB_size (s := s) (l := spans s) (q := []) (by simp) hs
  have hhd := trP_head s
  obtain ⟨p, hp⟩ : ∃ p, p = trP s := ⟨_, rfl⟩
  have hpe : (⟨(Lib.trimB (plain s).data.toList 32).toArray⟩ : ByteArray) = p := hp.symm
  rw [← hp] at hpz hhd ⊢
  have HPE := Lib.hid hpe
  have HHD := Lib.hid hhd
  have HT := Lib.hid (fun w1 => Tryz.strings_Trim_one (plain s) 32 (by decide) w1 (by omega))
  obtain ⟨pl, hpl⟩ : ∃ pl, pl = plain s := ⟨_, rfl⟩
  have HPL := Lib.hid hpl
  clear hp hpe hhd hqz hpl
  have i0 : ¬ (n : Int) ≤ 0 := by omega
  by_cases h1 : p.size ≤ n
  · have HV : Hid (exOut p n = p) := by show _ = _; unfold exOut; rw [if_neg h0, if_pos (by omega)]
    have i1 : (p.size : Int) ≤ (n : Int) := by omega
    have i1' : decide (p.size ≤ n) = true := by simp; omega
    clear h0
    go_enter Tryz.func26, Tryz.ntmps26
    go_wp2_with fail
    refine (plainOf_any s _ hs).mono ?_
    rintro e w1 ⟨rfl, hb1⟩
    have HB1 := Lib.hid hb1
    clear hb1
    go_wp2_with fail
    refine (HT.out _).mono ?_
    rintro e w2 ⟨rfl, hw2⟩
    rw [HPE.out]
    have HB2 : Hid (Below w.heap.size w w2) := by
      rcases hw2 with rfl | rfl
      · exact HB1.out
      · exact Below.drew HB1.out
    clear hw2
    go_wp2_with fail
    go_ret
    exact ⟨by rw [HV.out]; rfl, HB2.out⟩
  · have hnp : n < p.size := by omega
    have HV : Hid (exOut p n = ⟨(exB p.data.toList n).toArray⟩) := by show _ = _; unfold exOut; rw [if_neg h0, if_neg (by omega)]; rfl
    have i1 : ¬ (p.size : Int) ≤ (n : Int) := by omega
    have i1' : decide (p.size ≤ n) = false := by simp; omega
    have i2 : (0 : Int) ≤ (n : Int) := by omega
    have i3 : (n : Int) < (p.size : Int) := by omega
    have i4 : (n : Int) ≤ (p.size : Int) := by omega
    have hnl : n < p.data.toList.length := by rw [← Lib.size_eq]; exact hnp
    obtain ⟨j, hj1, hj2, hj3, hj4⟩ := lib_idx (p.extract 0 n)
    rw [cut_size p (by omega)] at hj2 hj4
    have hb : ∀ i, i < n → bt (p.extract 0 n) i = bt p i := fun i hi => by rw [bt_list, bt_list, cut_list, List.getElem?_take_of_lt hi]
    have HX1 := Lib.hid (ex_same p.data.toList n n HHD.out hn0 hnl)
    have HX2 := Lib.hid (ex_same p.data.toList n j HHD.out hn0 hnl)
    have HJ3 : Hid (0 < j → p.data.toList[j - 1]? = some 32) := by
      show 0 < j → _
      intro h
      rw [← bt32, ← hb (j - 1) (by omega)]
      exact hj3 h
    have HJ4 : Hid (∀ i, j ≤ i → i < n → p.data.toList[i]? ≠ some 32) := by
      show ∀ i, _
      intro i a b
      rw [Ne, ← bt32, ← hb i b]
      exact hj4 i a b
    have hbn := bt32 p n
    rw [bt_at hnp] at hbn
    have HBN := Lib.hid hbn
    have HCC := Lib.hid (cut_cut p hj2)
    have HCL := Lib.hid (cut_list p)
    have hcz := cut_size p (show n ≤ p.size by omega)
    have hcj := cut_size p (show j ≤ p.size by omega)
    have HLI := Lib.hid (fun w1 => Tryz.strings_LastIndexByte (p.extract 0 n) 32 (by omega) w1)
    have HTR := Lib.hid (fun (q : ByteArray) (hq : q.size ≤ 4398046511104) w1 => Tryz.strings_TrimRight_one q 32 (by decide) w1 (by omega))
    have k0 : (0 : Int) ≤ (j : Int) := by omega
    have k1 : (j : Int) ≤ ((p.extract 0 n).size : Int) := by omega
    have k2 : (j : Int) ≤ (n : Int) := by omega
    have HJ1 := Lib.hid hj1
    have HCZ := Lib.hid hcz
    have HCJ := Lib.hid hcj
    clear h0 hj1 hj3 hj4 hb hbn hnl hcz hcj
    cases e32 : ((p[n]'hnp).toNat : Int) != 32
    case true =>
      have hne : p.data.toList[n]? ≠ some 32 := fun h => by have := HBN.out.2 h; rw [this] at e32; simp at e32
      have hex := HX2.out (.inr ⟨hne, hj2, HJ3.out, HJ4.out⟩)
      unfold exA at hex
      obtain ⟨T, hT⟩ : ∃ T : ByteArray, T = ⟨(Lib.trimRightB (p.extract 0 j).data.toList 32).toArray⟩ := ⟨_, rfl⟩
      have hTl : T.data.toList = trR (p.data.toList.take j) := by rw [hT, HCL.out]; rfl
      rw [← hTl] at hex
      have HT' := Lib.hid hT
      have HEX := Lib.hid hex
      clear hne hex hT hTl
      go_enter Tryz.func26, Tryz.ntmps26
      go_wp2_with fail
      refine (plainOf_any s _ hs).mono ?_
      rintro e w1 ⟨rfl, hb1⟩
      have HB1 := Lib.hid hb1
      clear hb1
      go_wp2_with fail
      refine (HT.out _).mono ?_
      rintro e w2 ⟨rfl, hw2⟩
      rw [HPE.out]
      have HB2 : Hid (Below w.heap.size w w2) := by
        rcases hw2 with rfl | rfl
        · exact HB1.out
        · exact Below.drew HB1.out
      clear hw2
      go_wp2_with fail
      refine (HLI.out _).mono ?_
      rintro e w3 ⟨rfl, hw3⟩
      rw [HJ1.out, hw3]
      clear hw3
      go_wp2_with fail
      rw [HCC.out]
      refine (HTR.out _ (by rw [HCJ.out]; omega) _).mono ?_
      rintro e w4 ⟨rfl, hw4⟩
      rw [← HT'.out, hw4]
      clear hw4
      by_cases hz : T.size = 0
      · have hem : T.toList.isEmpty = true := by rw [Lib.toList_data, empty_of hz]; rfl
        have HR : Hid (exOut p n = p.extract 0 n) := by
          show _ = _
          rw [HV.out, ← HEX.out, if_pos (by rw [empty_of hz]), ← HCL.out, ba_of]
        clear hz
        go_wp2_with fail
        go_ret
        exact ⟨by rw [HR.out]; rfl, HB2.out⟩
      · have hem : T.toList.isEmpty = false := notEmpty_of (by omega)
        have HR : Hid (exOut p n = T) := by
          show _ = _
          rw [HV.out, ← HEX.out, if_neg (fun h => hz (by rw [Lib.size_eq, h]; rfl)), ba_of]
        clear hz
        go_wp2_with fail
        go_ret
        exact ⟨by rw [HR.out]; rfl, HB2.out⟩
    case false =>
      have heq : p.data.toList[n]? = some 32 := HBN.out.1 (by simpa using e32)
      have hex := HX1.out (.inl ⟨heq, rfl⟩)
      unfold exA at hex
      obtain ⟨T, hT⟩ : ∃ T : ByteArray, T = ⟨(Lib.trimRightB (p.extract 0 n).data.toList 32).toArray⟩ := ⟨_, rfl⟩
      have hTl : T.data.toList = trR (p.data.toList.take n) := by rw [hT, HCL.out]; rfl
      rw [← hTl] at hex
      have HT' := Lib.hid hT
      have HEX := Lib.hid hex
      clear heq hex hT hTl
      go_enter Tryz.func26, Tryz.ntmps26
      go_wp2_with fail
      refine (plainOf_any s _ hs).mono ?_
      rintro e w1 ⟨rfl, hb1⟩
      have HB1 := Lib.hid hb1
      clear hb1
      go_wp2_with fail
      refine (HT.out _).mono ?_
      rintro e w2 ⟨rfl, hw2⟩
      rw [HPE.out]
      have HB2 : Hid (Below w.heap.size w w2) := by
        rcases hw2 with rfl | rfl
        · exact HB1.out
        · exact Below.drew HB1.out
      clear hw2
      go_wp2_with fail
      refine (HTR.out _ (by rw [HCZ.out]; omega) _).mono ?_
      rintro e w4 ⟨rfl, hw4⟩
      rw [← HT'.out, hw4]
      clear hw4
      by_cases hz : T.size = 0
      · have hem : T.toList.isEmpty = true := by rw [Lib.toList_data, empty_of hz]; rfl
        have HR : Hid (exOut p n = p.extract 0 n) := by
          show _ = _
          rw [HV.out, ← HEX.out, if_pos (by rw [empty_of hz]), ← HCL.out, ba_of]
        clear hz
        go_wp2_with fail
        go_ret
        exact ⟨by rw [HR.out]; rfl, HB2.out⟩
      · have hem : T.toList.isEmpty = false := notEmpty_of (by omega)
        have HR : Hid (exOut p n = T) := by
          show _ = _
          rw [HV.out, ← HEX.out, if_neg (fun h => hz (by rw [Lib.size_eq, h]; rfl)), ba_of]
        clear hz
        go_wp2_with fail
        go_ret
        exact ⟨by rw [HR.out]; rfl, HB2.out⟩
end Go.Proofs.YtcbmddgafkoooaaGreatDoor
