/-
  DERIVED. The walk of the reference's QuestionError. Conditions: sizes.
  The text of a question; what a right question holds. Plain law. Conditions: none.
  By an AI agent.
-/
import Derived.Test.YtnlonleljbbgoaaGreatDoorKf13
import Derived.Test.YtnlonleljbbgoaaGreatDoorKf08
import Derived.Test.YtnlonleljbbgoaaGreatDoorKe07
import Derived.Test.YtnlonleljbbgoaaGreatDoorKe27
namespace Go.Proofs.YtnlonleljbbgoaaGreatDoor
open Go.RowKit

theorem any_step {α : Type} {l : List α} {k : Nat} {y : α} {p : α → Bool} (h : (l.take k).any p = false) (hy : l[k]? = some y) : (p y = false → (l.take (k + 1)).any p = false) ∧ (p y = true → l.any p = true) := by
  obtain ⟨hl, rfl⟩ := List.getElem?_eq_some_iff.1 hy
  refine ⟨fun h2 => ?_, fun h2 => List.any_eq_true.2 ⟨_, List.getElem_mem hl, h2⟩⟩
  rw [List.take_succ_eq_append_getElem hl, List.any_append, h, List.any_cons, h2]
  rfl
set_option maxHeartbeats 8000000 in
set_option maxRecDepth 100000 in
/-- the reference's QuestionError -/
theorem questionError_any (d : Nat) (c : Cd) (Ai : Option Addr) (ni ci : Nat) (Ak : Option Addr) (nk ck : Nat) (l : List (ByteArray × Bool)) (As : Option Addr) (ns cs : Nat) (g : ByteArray) (m : Int) (B : Nat) (w : World) (hB : B ≤ w.heap.size) (hc : RCd w B d (.slice Ai ni ci) (.slice Ak nk ck) c) (hcb : cdB c ≤ 1048576) (hs : RSr w B (.slice As ns cs) l) :
    Calls Tryz.prog 6 #[.agg #[.int .i64 c.op, .string c.name, .string c.text, .int .i64 c.val.kind, .int .i64 c.val.int_, .int .i64 c.val.to_, .string c.val.text, .slice Ai ni ci, .int .i64 c.num, .slice Ak nk ck, .slice As ns cs, .string g, .int .i64 m]] w fun e w' => e = .returned (.int .i64 (quE c l g m)) ∧ Below w.heap.size w w' := by
  have HC := Lib.hid fun W (hW : Below w.heap.size w W) => condError_any d c Ai ni ci Ak nk ck B W (Nat.le_trans hB hW.size) (hc.below (hW.mono hB)) hcb
  unfold ACd at HC
  dsimp only at HC
  have HN := Lib.hid hs.len
  have HS := Lib.hid hs
  have hnb : ns * 24 ≤ 140737488351232 := hs.len.2.2
  have hnc : ns ≤ cs := hs.len.2.1
  have HQ : Hid (quE c l g m = if cdErr c ≠ 0 then cdErr c else qrE l g m) := rfl
  obtain ⟨V, hV⟩ : ∃ V, V = quE c l g m := ⟨_, rfl⟩
  rw [← hV] at HQ ⊢
  obtain ⟨ce, hce⟩ : ∃ q, cdErr c = q := ⟨_, rfl⟩
  rw [hce] at HC HQ
  clear hc hs hV hce
  obtain ⟨wb, hwb⟩ : ∃ wb, wb = w.alloc (.cells #[.int .i64 c.op, .string c.name, .string c.text, .int .i64 c.val.kind, .int .i64 c.val.int_, .int .i64 c.val.to_, .string c.val.text, .slice Ai ni ci, .int .i64 c.num, .slice Ak nk ck, .slice As ns cs, .string g, .int .i64 m] 30) := ⟨_, rfl⟩
  have hbwb : Below w.heap.size w wb := by rw [hwb]; exact (Below.refl _ _).alloc (Nat.le_refl _) _
  have kwb : Blk wb w.heap.size 30 #[.int .i64 c.op, .string c.name, .string c.text, .int .i64 c.val.kind, .int .i64 c.val.int_, .int .i64 c.val.to_, .string c.val.text, .slice Ai ni ci, .int .i64 c.num, .slice Ak nk ck, .slice As ns cs, .string g, .int .i64 m] := by rw [hwb]; exact Blk.new _ _ _
  have x0 := kwb.cell 0
  have x1 := kwb.cell 1
  have x2 := kwb.cell 2
  have x3 := kwb.cell 3
  have x4 := kwb.cell 4
  have x5 := kwb.cell 5
  have x6 := kwb.cell 6
  have x7 := kwb.cell 7
  have x8 := kwb.cell 8
  have x9 := kwb.cell 9
  have x10 := kwb.cell 10
  have x11 := kwb.cell 11
  have x12 := kwb.cell 12
  have HBwb := Lib.hid hbwb
  have HKwb := Lib.hid kwb
  have HEwb := Lib.hid hwb
  clear hwb hbwb kwb
  go_enter Tryz.func6, Tryz.ntmps6
  go_upto_region 1 with fail
  rw [← HEwb.out]
  go_wp2_with fail
  refine (HC.out _ HBwb.out).mono ?_
  rintro e w1 ⟨rfl, hb⟩
  have HB1 : Hid (Below w.heap.size w w1) := HBwb.out.trans (hb.mono HBwb.out.size)
  have HK1 := Lib.hid (HKwb.out.below hb HKwb.out.lt)
  clear hb x0 x1 x2 x3 x4 x5 x6 x7 x8 x9 x10 x11 x12
  by_cases h0 : ce = 0
  case neg =>
    have e1 : (ce != 0) = true := by simpa using h0
    have HE : Hid (V = ce) := by show _ = _; rw [HQ.out, if_pos h0]
    clear h0
    go_wp2_with fail
    go_ret
    exact ⟨by rw [HE.out]; rfl, HB1.out⟩
  subst h0
  have y0 := HK1.out.cell 0
  have y1 := HK1.out.cell 1
  have y2 := HK1.out.cell 2
  have y3 := HK1.out.cell 3
  have y4 := HK1.out.cell 4
  have y5 := HK1.out.cell 5
  have y6 := HK1.out.cell 6
  have y7 := HK1.out.cell 7
  have y8 := HK1.out.cell 8
  have y9 := HK1.out.cell 9
  have y10 := HK1.out.cell 10
  have y11 := HK1.out.cell 11
  have y12 := HK1.out.cell 12
  have HQ2 : Hid (V = qrE l g m) := by show _ = _; rw [HQ.out, if_neg (fun h => h rfl)]
  obtain ⟨q, hq⟩ : ∃ q, decide ((5 : Int) < (ns : Int)) = q := ⟨_, rfl⟩
  cases q
  case true =>
    have HE : Hid (V = 4) := by show _ = _; rw [HQ2.out, qrE, if_pos (by have := of_decide_eq_true hq; have := HN.out.1; omega)]
    go_wp2_with fail
    go_ret
    exact ⟨by rw [HE.out]; rfl, HB1.out⟩
  have HQ3 : Hid (V = if srE [] l ≠ 0 then srE [] l else if g.toList ≠ [] ∧ nmErr g ≠ 0 then nmErr g else if m < 0 ∨ 2000 < m then 2 else 0) := by show _ = _; rw [HQ2.out, qrE, if_neg (by have := of_decide_eq_false hq; have := HN.out.1; omega)]
  have hn5 : ns ≤ 5 := by have := of_decide_eq_false hq; omega
  go_wp2_with fail
  clear y0 y1 y2 y3 y4 y5 y6 y7 y8 y9 y10 y11 y12 hq
  go_loopg [23] ns (fun gg s20 wr => ∃ j : Nat, j + gg = ns ∧ s20 = .int .i64 (j : Int) ∧ Hid (srE [] l = srE (l.take j) (l.drop j)) ∧ Hid (Below w1.heap.size w1 wr))
  case atStart => exact ⟨0, by omega, rfl, rfl, Below.refl _ _⟩
  case round =>
    obtain ⟨j, hjg, rfl, hsr, hbel⟩ := hrel
    obtain ⟨W1, rfl⟩ : ∃ W1, W1 = wr := ⟨_, rfl⟩
    have HBW : Hid (Below w.heap.size w W1) := HB1.out.trans (hbel.out.mono HB1.out.size)
    have HKW := Lib.hid (HK1.out.below hbel.out HK1.out.lt)
    by_cases hj : j < ns
    · obtain ⟨⟨s, dn⟩, hx⟩ : ∃ x, l[j]? = some x := ⟨_, List.getElem?_eq_getElem (by have := HN.out.1; omega)⟩
      have hb1 : B ≤ W1.heap.size := Nat.le_trans hB HBW.out.size
      have hsw := HS.out.below (HBW.out.mono hB)
      obtain ⟨b, off, rfl, hbb, e0, e1⟩ := hsw.at_ hx
      dsimp only at e0 e1
      obtain ⟨wa, hwa⟩ : ∃ wa, wa = W1.alloc (.cells #[.string s, .bool dn] 58) := ⟨_, rfl⟩
      have hal : Below W1.heap.size W1 wa := by rw [hwa]; exact (Below.refl _ _).alloc (Nat.le_refl _) _
      have q9 : Blk wa W1.heap.size 58 #[.string s, .bool dn] := by rw [hwa]; exact Blk.new _ _ _
      have HKA := Lib.hid (HKW.out.below hal HKW.out.lt)
      have z10 := HKA.out.cell 10
      have m0 := q9.cell 0
      have m1 := q9.cell 1
      have HWA := Lib.hid hwa
      have HKX := Lib.hid q9
      have HAL := Lib.hid hal
      have HBA : Hid (Below w1.heap.size w1 wa) := hbel.out.trans (hal.mono hbel.out.size)
      have HST := Lib.hid ((hsw.below (hal.mono hb1)).take (k := j) (by omega))
      have HSR := Lib.hid (hsr.out.trans (srE_at hx))
      have HIB := Lib.hid (sortError_any s wa)
      have j0 : (0 : Int) ≤ (j : Int) := by omega
      have j1 : (j : Int) < (ns : Int) := by omega
      have j2 : (j : Int) ≤ (cs : Int) := by omega
      dsimp only at HSR
      obtain ⟨q1, hq1⟩ : ∃ q, isByL s = q := ⟨_, rfl⟩
      have HSE : Hid (sortE s = if q1 then 0 else 3) := by show _ = _; rw [← hq1]; rfl
      obtain ⟨q2, hq2⟩ : ∃ q, ((l.take j).any fun y => y.1.toList == s.toList) = q := ⟨_, rfl⟩
      rw [HSE.out] at HIB
      have HXA := Lib.hid hq2
      rw [hq1, hq2] at HSR
      clear hx hbb hwa hal q9 hq1 hq2 hsw hsr
      go_upto_region 9 with fail
      rw [← HWA.out]
      clear e0 e1
      go_wp2_with fail
      refine HIB.out.mono ?_
      rintro e w2 ⟨rfl, rfl⟩
      obtain ⟨wa, rfl⟩ : ∃ wa, wa = w2 := ⟨_, rfl⟩
      cases q1
      · have HE : Hid (V = 3) := by show _ = _; rw [HQ3.out, HSR.out, if_pos rfl]; rfl
        go_wp2_with fail
        go_ret
        exact ⟨by rw [HE.out]; rfl, HB1.out.trans (HBA.out.mono HB1.out.size)⟩
      go_wp2_with fail
      have hjn : j ≤ ns := by omega
      clear z10
      go_loopg [39] j (fun gg s39 wr => ∃ k : Nat, k + gg = j ∧ s39 = .int .i64 (k : Int) ∧ Hid ((((l.take j).take k).any fun y => y.1.toList == s.toList) = false) ∧ Hid (Below wa.heap.size wa wr))
      case atStart => exact ⟨0, by omega, rfl, rfl, Below.refl _ _⟩
      case round =>
        obtain ⟨k, hkg, rfl, hno, hbi⟩ := hrel
        obtain ⟨W2, rfl⟩ : ∃ W2, W2 = wr := ⟨_, rfl⟩
        have HBI : Hid (Below w1.heap.size w1 W2) := HBA.out.trans (hbi.out.mono HBA.out.size)
        have hlj : (l.take j).length = j := by rw [List.length_take]; have := HN.out.1; omega
        by_cases hk : k < j
        · obtain ⟨⟨t, tn⟩, hy⟩ : ∃ x, (l.take j)[k]? = some x := ⟨_, List.getElem?_eq_getElem (by omega)⟩
          obtain ⟨b', off', hA, hbb, e0, e1⟩ := (HST.out.below (hbi.out.mono (Nat.le_trans hb1 HAL.out.size))).at_ hy
          injection hA with hA
          injection hA with h1 h2
          subst h1 h2
          dsimp only at e0 e1
          obtain ⟨wo, hwo⟩ : ∃ wo, wo = W2.alloc (.cells #[.string t, .bool tn] 58) := ⟨_, rfl⟩
          have hao : Below W2.heap.size W2 wo := by rw [hwo]; exact (Below.refl _ _).alloc (Nat.le_refl _) _
          have q8 : Blk wo W2.heap.size 58 #[.string t, .bool tn] := by rw [hwo]; exact Blk.new _ _ _
          have q7 := (HKX.out.below hbi.out HKX.out.lt).below hao (HKX.out.below hbi.out HKX.out.lt).lt
          have n0 := q8.cell 0
          have n2 := q7.cell 0
          have HWO := Lib.hid hwo
          have HBO : Hid (Below wa.heap.size wa wo) := hbi.out.trans (hao.mono hbi.out.size)
          have i0 : (0 : Int) ≤ (k : Int) := by omega
          have i1 : (k : Int) < (j : Int) := by omega
          have hyt := any_step hno.out hy
          dsimp only at hyt
          obtain ⟨q3, hq3⟩ : ∃ q, (t.toList == s.toList) = q := ⟨_, rfl⟩
          rw [hq3] at hyt
          have HYT := Lib.hid hyt
          clear hbb hwo hao q8 q7 hy hyt hlj
          go_upto_region 15 with fail
          rw [← HWO.out]
          clear e0 e1
          cases q3
          · go_wp2_with fail
            go_roundg (j - (k + 1))
            case measure => omega
            case rel => exact ⟨k + 1, by omega, by go_num, HYT.out.1 (by trivial), HBO⟩
          · have e6 : q2 = true := by rw [← HXA.out]; exact HYT.out.2 (by trivial)
            have HE : Hid (V = 6) := by show _ = _; rw [HQ3.out, HSR.out, if_neg (show ¬ (true = false) by decide), if_pos e6]; rfl
            clear e6
            go_wp2_with fail
            go_ret
            exact ⟨by rw [HE.out]; rfl, HB1.out.trans ((HBA.out.trans (HBO.out.mono HBA.out.size)).mono HB1.out.size)⟩
        · obtain rfl : j = k := by omega
          have ht : (l.take j).take j = l.take j := List.take_of_length_le (by rw [hlj]; exact Nat.le_refl _)
          have e6 : q2 = false := by rw [← HXA.out, ← hno.out, ht]
          have HS2 : Hid (srE [] l = srE (l.take (j + 1)) (l.drop (j + 1))) := by show _ = _; rw [HSR.out, if_neg (show ¬ (true = false) by decide), if_neg (by rw [e6]; decide)]
          clear e6 hlj ht
          go_wp2_with fail
          go_roundg (ns - (j + 1))
          case measure => omega
          case rel => exact ⟨j + 1, by omega, by go_num, HS2, HBI⟩
    · obtain rfl : ns = j := by omega
      have HQ4 : Hid (V = if g.toList ≠ [] ∧ nmErr g ≠ 0 then nmErr g else if m < 0 ∨ 2000 < m then 2 else 0) := by show _ = _; rw [HQ3.out, hsr.out, srE_end (by rw [← HN.out.1]; exact Nat.le_refl _), if_neg (fun h => h rfl)]
      have z11 := HKW.out.cell 11
      have z12 := HKW.out.cell 12
      obtain ⟨ne, hne⟩ : ∃ x, nmErr g = x := ⟨_, rfl⟩
      have HNM := Lib.hid fun W => checkName_any g W
      rw [hne] at HQ4
      simp only [hne] at HNM
      clear hsr hne
      have HIR := Lib.hid fun W => inRange_any m 0 2000 W
      go_wp2_with fail
      refine (HNM.out _).mono ?_
      rintro e w2 ⟨rfl, rfl⟩
      by_cases h1 : g.toList = []
      · have e1 : (g.toList != []) = false := by rw [h1]; rfl
        have e2 : g.toList.isEmpty = true := by rw [h1]; rfl
        have HQ5 : Hid (V = if m < 0 ∨ 2000 < m then 2 else 0) := by show _ = _; rw [HQ4.out, if_neg (fun h => h.1 h1)]
        clear h1
        obtain ⟨q3, hq3⟩ : ∃ q, decide (0 ≤ m ∧ m ≤ 2000) = q := ⟨_, rfl⟩
        have HE : Hid (V = if q3 then 0 else 2) := by
          show _ = _
          rw [HQ5.out, ← hq3]
          by_cases h2 : 0 ≤ m ∧ m ≤ 2000
          · rw [if_neg (by omega), decide_eq_true h2, if_pos rfl]
          · rw [if_pos (by omega), decide_eq_false h2, if_neg (show ¬ (false = true) by decide)]
        go_wp2_with fail
        refine (HIR.out _).mono ?_
        rintro e w3 ⟨rfl, rfl⟩
        rw [hq3]
        clear hq3
        cases q3
        · go_wp2_with fail
          go_ret
          exact ⟨by rw [HE.out]; rfl, HBW.out⟩
        · go_wp2_with fail
          go_ret
          exact ⟨by rw [HE.out]; rfl, HBW.out⟩
      · have e1 : (g.toList != []) = true := by simpa using h1
        have e2 : g.toList.isEmpty = false := by simpa using h1
        by_cases h4 : ne = 0
        · have HQ5 : Hid (V = if m < 0 ∨ 2000 < m then 2 else 0) := by show _ = _; rw [HQ4.out, if_neg (fun h => h.2 h4)]
          clear h1
          subst h4
          obtain ⟨q3, hq3⟩ : ∃ q, decide (0 ≤ m ∧ m ≤ 2000) = q := ⟨_, rfl⟩
          have HE : Hid (V = if q3 then 0 else 2) := by
            show _ = _
            rw [HQ5.out, ← hq3]
            by_cases h2 : 0 ≤ m ∧ m ≤ 2000
            · rw [if_neg (by omega), decide_eq_true h2, if_pos rfl]
            · rw [if_pos (by omega), decide_eq_false h2, if_neg (show ¬ (false = true) by decide)]
          go_wp2_with fail
          refine (HIR.out _).mono ?_
          rintro e w3 ⟨rfl, rfl⟩
          rw [hq3]
          clear hq3
          cases q3
          · go_wp2_with fail
            go_ret
            exact ⟨by rw [HE.out]; rfl, HBW.out⟩
          · go_wp2_with fail
            go_ret
            exact ⟨by rw [HE.out]; rfl, HBW.out⟩
        · have e4 : (ne != 0) = true := by simpa using h4
          have HE : Hid (V = ne) := by show _ = _; rw [HQ4.out, if_pos ⟨h1, h4⟩]
          clear h1 h4
          go_wp2_with fail
          go_ret
          exact ⟨by rw [HE.out]; rfl, HBW.out⟩
end Go.Proofs.YtnlonleljbbgoaaGreatDoor
namespace Go.Proofs.YtnlonleljbbgoaaGreatDoor
open Go.RowKit

/-- the line of a sort -/
def soT (x : ByteArray × Bool) : ByteArray := ⟨#[115, 111, 114, 116, 32]⟩ ++ x.1 ++ ⟨#[32]⟩ ++ (if x.2 = true then ⟨#[100, 111, 119, 110]⟩ else ⟨#[117, 112]⟩) ++ ⟨#[10]⟩
/-- the lines of sorts behind a text -/
def soTs : ByteArray → List (ByteArray × Bool) → ByteArray
  | a, [] => a
  | a, x :: r => soTs (a ++ soT x) r
theorem soTs_snoc : ∀ (p : List (ByteArray × Bool)) (a : ByteArray) (x : ByteArray × Bool), soTs a (p ++ [x]) = soTs a p ++ soT x
  | [], _, _ => rfl
  | y :: p, a, x => soTs_snoc p (a ++ soT y) x
theorem soTs_take {l : List (ByteArray × Bool)} {k : Nat} {x : ByteArray × Bool} (h : l[k]? = some x) (a : ByteArray) : soTs a (l.take (k + 1)) = soTs a (l.take k) ++ soT x := by
  obtain ⟨hl, rfl⟩ := List.getElem?_eq_some_iff.1 h
  rw [List.take_succ_eq_append_getElem hl, soTs_snoc]
theorem soT_size (x : ByteArray × Bool) (h : x.1.size ≤ 20) : (soT x).size ≤ 31 := by
  obtain ⟨s, b⟩ := x
  have h1 : (⟨#[115, 111, 114, 116, 32]⟩ : ByteArray).size = 5 := rfl
  have h2 : (⟨#[32]⟩ : ByteArray).size = 1 := rfl
  have h3 : (⟨#[10]⟩ : ByteArray).size = 1 := rfl
  have h4 : (⟨#[100, 111, 119, 110]⟩ : ByteArray).size = 4 := rfl
  have h5 : (⟨#[117, 112]⟩ : ByteArray).size = 2 := rfl
  unfold soT
  dsimp only at h ⊢
  cases b
  · rw [if_neg (by decide)]; simp only [ByteArray.size_append]; omega
  · rw [if_pos rfl]; simp only [ByteArray.size_append]; omega
theorem soTs_size : ∀ (l : List (ByteArray × Bool)) (a : ByteArray), (∀ x ∈ l, x.1.size ≤ 20) → (soTs a l).size ≤ a.size + 31 * l.length
  | [], _, _ => by rw [soTs]; exact Nat.le_add_right _ _
  | x :: r, a, h => by
    have h1 := soTs_size r (a ++ soT x) fun y hy => h y (List.mem_cons_of_mem _ hy)
    have h2 := soT_size x (h x List.mem_cons_self)
    rw [soTs, List.length_cons]
    rw [ByteArray.size_append] at h1
    omega
theorem soT_up (s : ByteArray) : ⟨#[115, 111, 114, 116, 32]⟩ ++ s ++ ⟨#[32, 117, 112, 10]⟩ = soT (s, false) := by
  unfold soT
  rw [if_neg (show ¬ (false = true) by decide), show (⟨#[32, 117, 112, 10]⟩ : ByteArray) = ⟨#[32]⟩ ++ ⟨#[117, 112]⟩ ++ ⟨#[10]⟩ from rfl]
  simp only [ByteArray.append_assoc]
theorem soT_down (s : ByteArray) : ⟨#[115, 111, 114, 116, 32]⟩ ++ s ++ ⟨#[32, 100, 111, 119, 110, 10]⟩ = soT (s, true) := by
  unfold soT
  rw [if_pos rfl, show (⟨#[32, 100, 111, 119, 110, 10]⟩ : ByteArray) = ⟨#[32]⟩ ++ ⟨#[100, 111, 119, 110]⟩ ++ ⟨#[10]⟩ from rfl]
  simp only [ByteArray.append_assoc]
/-- the text of the condition and of the sorts -/
noncomputable def quA (c : Cd) (l : List (ByteArray × Bool)) : ByteArray := soTs (⟨#[119, 104, 101, 114, 101, 32]⟩ ++ cdT c ++ ⟨#[10]⟩) l
/-- with the group's line -/
noncomputable def quB (c : Cd) (l : List (ByteArray × Bool)) (g : ByteArray) : ByteArray := if g.toList = [] then quA c l else quA c l ++ (⟨#[103, 114, 111, 117, 112, 32]⟩ ++ g ++ ⟨#[10]⟩)
/-- the text of a question -/
noncomputable def quT (c : Cd) (l : List (ByteArray × Bool)) (g : ByteArray) (m : Int) : ByteArray := if m = 0 then quB c l g else quB c l g ++ (⟨#[109, 111, 115, 116, 32]⟩ ++ wd m ++ ⟨#[10]⟩)
/-- what a right question holds -/
structure QuOk (c : Cd) (l : List (ByteArray × Bool)) (g : ByteArray) (m : Int) : Prop where
  c1 : viE c = 0
  c2 : cdN c ≤ 60
  l1 : l.length ≤ 5
  l2 : ∀ x ∈ l, x.1.size ≤ 20
  g1 : g.size ≤ 20
  m1 : 0 ≤ m
  m2 : m ≤ 2000
theorem nmErr_size {s : ByteArray} (h : nmErr s = 0) : s.size ≤ 20 := by
  have h1 : nmOk s = true := by
    by_cases h2 : nmOk s = true
    · exact h2
    · rw [nmErr, if_neg h2] at h; exact absurd h (by decide)
  simp only [nmOk, Bool.and_eq_true, decide_eq_true_eq] at h1
  exact h1.1.1.2
theorem isByL_size {s : ByteArray} (h : isByL s = true) : s.size ≤ 20 := by
  simp only [isByL, Bool.or_eq_true, decide_eq_true_eq] at h
  rcases h with ((h | h) | h) | h
  · rw [h]; exact (by decide : 3 ≤ 20)
  · rw [h]; exact (by decide : 5 ≤ 20)
  · rw [h]; exact (by decide : 6 ≤ 20)
  · exact nmErr_size h
theorem srE_names : ∀ (l p : List (ByteArray × Bool)), srE p l = 0 → ∀ x ∈ l, x.1.size ≤ 20
  | [], _, _, _, hx => by cases hx
  | y :: r, p, h, x, hx => by
    rw [srE] at h
    by_cases h1 : isByL y.1 = false
    · rw [if_pos h1] at h; exact absurd h (by decide)
    · rw [if_neg h1] at h
      by_cases h2 : (p.any fun z => z.1.toList == y.1.toList) = true
      · rw [if_pos h2] at h; exact absurd h (by decide)
      · rw [if_neg h2] at h
        rcases List.mem_cons.1 hx with rfl | hx
        · exact isByL_size (by simpa using h1)
        · exact srE_names r _ h x hx
theorem toList_nil {s : ByteArray} (h : s.toList = []) : s.size = 0 := by
  rw [ByteArray.toList_eq] at h
  have h1 : s.data.toList.length = 0 := by rw [h]; rfl
  rwa [Array.length_toList] at h1
theorem quE_ok {c : Cd} {l : List (ByteArray × Bool)} {g : ByteArray} {m : Int} (h : quE c l g m = 0) : QuOk c l g m := by
  unfold quE at h
  by_cases h0 : cdErr c = 0
  · rw [if_neg (fun h => h h0)] at h
    unfold qrE at h
    by_cases h1 : 5 < l.length
    · rw [if_pos h1] at h; exact absurd h (by decide)
    · rw [if_neg h1] at h
      by_cases h2 : srE [] l = 0
      · rw [if_neg (fun h => h h2)] at h
        by_cases h3 : g.toList ≠ [] ∧ nmErr g ≠ 0
        · rw [if_pos h3] at h; exact absurd h h3.2
        · rw [if_neg h3] at h
          by_cases h4 : m < 0 ∨ 2000 < m
          · rw [if_pos h4] at h; exact absurd h (by decide)
          · refine ⟨(cdErr_ok h0).1, (cdErr_ok h0).2, by omega, srE_names l [] h2, ?_, by omega, by omega⟩
            by_cases h5 : g.toList = []
            · have := toList_nil h5; omega
            · exact nmErr_size (Classical.byContradiction fun h6 => h3 ⟨h5, h6⟩)
      · rw [if_pos h2] at h; exact absurd h h2
  · rw [if_pos h0] at h; exact absurd h h0
end Go.Proofs.YtnlonleljbbgoaaGreatDoor
