/-
  DERIVED. The walks of florref1.ExcerptOf and of the law over both. Conditions: the text's size. By an AI agent.
-/
import Derived.Test.YtcbmddgafkoooaaGreatDoorExcerpt
namespace Go.Proofs.YtcbmddgafkoooaaGreatDoor
open Go.RowKit

theorem kk_succ (l : List UInt8) (k : Nat) : kk l (k + 1) = if l[k]? ≠ some 32 ∧ l[k + 1]? = some 32 then k + 1 else kk l k := rfl
theorem kk_yes {p : ByteArray} {k : Nat} (h : bt p k ≠ 32) (h' : bt p (k + 1) = 32) : kk p.data.toList (k + 1) = k + 1 := by
  rw [kk_succ, if_pos ⟨fun e => h ((bt32 p k).2 e), (bt32 p (k + 1)).1 h'⟩]
theorem kk_no {p : ByteArray} {k : Nat} (h : bt p k = 32 ∨ bt p (k + 1) ≠ 32) : kk p.data.toList (k + 1) = kk p.data.toList k := by
  rw [kk_succ, if_neg]
  rintro ⟨a, b⟩
  rcases h with h | h
  · exact a ((bt32 p k).1 h)
  · exact h ((bt32 p (k + 1)).2 b)
theorem ex_end {p : ByteArray} {n q : Nat} (h : (if kk p.data.toList n = 0 then n else kk p.data.toList n) = q) : (⟨(exB p.data.toList n).toArray⟩ : ByteArray) = ⟨(Lib.trimRightB (p.data.toList.take q) 32).toArray⟩ := by
  unfold exB
  rw [h]; rfl

set_option maxHeartbeats 4000000 in
set_option maxRecDepth 100000 in
theorem rexcerpt_any (s : ByteArray) (m : Int) (w : World) (hs : s.size ≤ 1048576) :
    Calls Tryz.prog 27 #[.string s, .int .i64 m] w fun e w' => e = .returned (.string (exOut (trP s) m)) ∧ Below w.heap.size w w' := by
  have hpz := trP_size s hs
  have hqz : (plain s).size ≤ 4398046511104 := plainB_size (s := s) (l := spans s) (q := []) (by simp) hs
  have htl := trP_tail s
  obtain ⟨p, hp⟩ : ∃ p, p = trP s := ⟨_, rfl⟩
  have hpe : (⟨(Lib.trimB (plain s).data.toList 32).toArray⟩ : ByteArray) = p := hp.symm
  rw [← hp] at hpz htl ⊢
  have HPE := Lib.hid hpe
  have HTL := Lib.hid htl
  have HT := Lib.hid (fun w1 => Tryz.strings_Trim_one (plain s) 32 (by decide) w1 (by omega))
  have HTR := Lib.hid (fun (q : ByteArray) (hq : q.size ≤ 4398046511104) w1 => Tryz.strings_TrimRight_one q 32 (by decide) w1 (by omega))
  clear hp hpe htl hqz
  go_enter Tryz.func27, Tryz.ntmps27
  go_wp2_with fail
  refine (rplain_any s _ hs).mono ?_
  rintro e w1 ⟨rfl, hb1⟩
  have HB1 := Lib.hid hb1
  clear hb1
  go_wp2_with fail
  refine (HT.out _).mono ?_
  rintro e w2 ⟨rfl, hw2⟩
  rw [HPE.out]
  have HB2 : Hid (Below w.heap.size w w2) := by
    rcases hw2 with rfl | rfl
    · exact HB1.out
    · exact Below.drew HB1.out
  clear hw2
  by_cases h0 : m ≤ 0
  · have HV : Hid (exOut p m = ⟨#[]⟩) := by show _ = _; unfold exOut; rw [if_pos h0]; rfl
    go_wp2_with fail
    go_ret
    exact ⟨by rw [HV.out]; rfl, HB2.out⟩
  obtain ⟨n, rfl⟩ : ∃ n : Nat, m = n := ⟨m.toNat, by omega⟩
  have i0 : ¬ (n : Int) ≤ 0 := by omega
  by_cases h1 : p.size ≤ n
  · have HV : Hid (exOut p n = p) := by show _ = _; unfold exOut; rw [if_neg h0, if_pos (by omega)]
    have i1' : decide (n < p.size) = false := by simp; omega
    have i1 : ¬ (n : Int) < (p.size : Int) := by omega
    clear h0
    go_wp2_with fail
    refine (HTR.out _ hpz _).mono ?_
    rintro e w4 ⟨rfl, hw4⟩
    rw [hw4]
    clear hw4
    have HR : Hid ((⟨(Lib.trimRightB p.data.toList 32).toArray⟩ : ByteArray) = p) := by
      show _ = _
      have := HTL.out
      unfold trR at this
      rw [this, ba_of]
    rw [HR.out]
    go_wp2_with fail
    go_ret
    exact ⟨by rw [HV.out]; rfl, HB2.out⟩
  · have hnp : n < p.size := by omega
    have HV : Hid (exOut p n = ⟨(exB p.data.toList n).toArray⟩) := by show _ = _; unfold exOut; rw [if_neg h0, if_neg (by omega)]; rfl
    have i1' : decide (n < p.size) = true := by simp; omega
    have i1 : (n : Int) < (p.size : Int) := by omega
    have hn0 : 0 < n := by omega
    clear h0
    go_wp2_with fail
    go_loopg [6] n (fun gg s6 wr => ∃ k : Nat, k = gg ∧ s6 = .int .i64 k ∧ k ≤ n ∧ Hid (kk p.data.toList k = kk p.data.toList n) ∧ wr = w2)
    case atStart => exact ⟨n, rfl, rfl, Nat.le_refl _, rfl, rfl⟩
    case round =>
      obtain ⟨k, rfl, rfl, hgn, hkk, rfl⟩ := hrel
      rcases k with _ | k
      · have HE := Lib.hid (ex_end (p := p) (n := n) (q := n) (by rw [← hkk.out]; rfl))
        clear hkk
        go_wp2_with fail
        refine (HTR.out _ (by rw [cut_size p (by omega)]; omega) _).mono ?_
        rintro e w4 ⟨rfl, hw4⟩
        rw [hw4]
        clear hw4
        go_wp2_with fail
        go_ret
        exact ⟨by rw [HV.out, HE.out]; rfl, HB2.out⟩
      · have hk1 : k < p.size := by omega
        have hk2 : k + 1 < p.size := by omega
        have b1 := bt_at hk1
        have b2 := bt_at hk2
        have j1 : (k : Int) < (p.size : Int) := by omega
        have j2 : (k : Int) + 1 < (p.size : Int) := by omega
        have j3 : (0 : Int) ≤ (k : Int) := by omega
        have j4 : (0 : Int) < (k : Int) + 1 := by omega
        have j5 : (0 : Int) ≤ (k : Int) + 1 := by omega
        have HK := Lib.hid hkk.out
        have B1 := Lib.hid b1
        have B2 := Lib.hid b2
        clear b1 b2 hkk
        cases e1 : ((p[k]'hk1).toNat : Int) != 32
        case false =>
          have HK2 : Hid (kk p.data.toList k = kk p.data.toList n) := by
            show _ = _
            rw [← HK.out, kk_no (.inl (by rw [B1.out]; simpa using e1))]
          go_wp2_with fail
          go_roundg k
          case measure => omega
          case rel => exact ⟨k, rfl, by go_num, by omega, HK2, rfl⟩
        case true =>
          cases e2 : ((p[k + 1]'hk2).toNat : Int) == 32
          case false =>
            have HK2 : Hid (kk p.data.toList k = kk p.data.toList n) := by
              show _ = _
              rw [← HK.out, kk_no (.inr (by rw [B2.out]; simpa using e2))]
            go_wp2_with fail
            go_roundg k
            case measure => omega
            case rel => exact ⟨k, rfl, by go_num, by omega, HK2, rfl⟩
          case true =>
            have hky := kk_yes (p := p) (k := k) (by rw [B1.out]; simpa using e1) (by rw [B2.out]; simpa using e2)
            have HE := Lib.hid (ex_end (p := p) (n := n) (q := k + 1) (by rw [← HK.out, hky, if_neg (by omega)]))
            clear hky
            go_wp2_with fail
            refine (HTR.out _ (by rw [cut_size p (by omega)]; omega) _).mono ?_
            rintro e w4 ⟨rfl, hw4⟩
            rw [hw4]
            clear hw4
            go_wp2_with fail
            go_ret
            exact ⟨by rw [HV.out, HE.out]; rfl, HB2.out⟩

set_option maxHeartbeats 1000000 in
set_option maxRecDepth 100000 in
theorem textExcerpts_any (s : ByteArray) (m : Int) (w : World) (hs : s.size ≤ 1048576) :
    Calls Tryz.prog 4 #[.string s, .int .i64 m] w fun e w' => e = .returned (.bool true) ∧ Below w.heap.size w w' := by
  obtain ⟨o, ho⟩ : ∃ o, o = exOut (trP s) m := ⟨_, rfl⟩
  have HO := Lib.hid ho
  clear ho
  go_enter Tryz.func4, Tryz.ntmps4
  go_wp2_with fail
  refine (excerpt_any s m _ hs).mono ?_
  rintro e w1 ⟨rfl, hb1⟩
  rw [← HO.out]
  have HB1 := Lib.hid hb1
  clear hb1
  go_wp2_with fail
  refine (rexcerpt_any s m _ hs).mono ?_
  rintro e w2 ⟨rfl, hb2⟩
  rw [← HO.out]
  have HB2 := Lib.hid (HB1.out.trans (hb2.mono HB1.out.size))
  clear hb2 HB1
  go_wp2_with fail
  go_ret
  exact ⟨rfl, HB2.out⟩
end Go.Proofs.YtcbmddgafkoooaaGreatDoor
