/-
  DERIVED. The walk of ask.QuestionText. Conditions: sizes; the table of powers of ten is laid.
  By an AI agent.
-/
import Derived.Test.YtnlonleljbbgoaaGreatDoorKf14
import Derived.Test.YtnlonleljbbgoaaGreatDoorKf07
import Derived.Test.YtnlonleljbbgoaaGreatDoorKf13
namespace Go.Proofs.YtnlonleljbbgoaaGreatDoor
open Go.RowKit

/-- the error of a question's text -/
noncomputable def qtE (c : Cd) (l : List (ByteArray × Bool)) (g : ByteArray) (m : Int) : Int := if quE c l g m ≠ 0 then quE c l g m else if 400000 < (quT c l g m).size then 4 else 0
noncomputable def qtT (c : Cd) (l : List (ByteArray × Bool)) (g : ByteArray) (m : Int) : ByteArray := if qtE c l g m = 0 then quT c l g m else ⟨#[]⟩
set_option maxHeartbeats 8000000 in
set_option maxRecDepth 100000 in
/-- ask.QuestionText -/
theorem questionText_any (d : Nat) (c : Cd) (Ai : Option Addr) (ni ci : Nat) (Ak : Option Addr) (nk ck : Nat) (l : List (ByteArray × Bool)) (As : Option Addr) (ns cs : Nat) (g : ByteArray) (m : Int) (B : Nat) (w : World) (hB : B ≤ w.heap.size) (hc : RCd w B d (.slice Ai ni ci) (.slice Ak nk ck) c) (hcb : cdB c ≤ 1048576) (hs : RSr w B (.slice As ns cs) l) (hP : Pow w) :
    Calls Tryz.prog 7 #[.agg #[.int .i64 c.op, .string c.name, .string c.text, .int .i64 c.val.kind, .int .i64 c.val.int_, .int .i64 c.val.to_, .string c.val.text, .slice Ai ni ci, .int .i64 c.num, .slice Ak nk ck, .slice As ns cs, .string g, .int .i64 m]] w fun e w' => e = .returned (.tuple #[.string (qtT c l g m), .int .i64 (qtE c l g m)]) ∧ Below w.heap.size w w' := by
  have HCQ := Lib.hid fun W (hW : Below w.heap.size w W) => checkQuestion_any d c Ai ni ci Ak nk ck l As ns cs g m B W (Nat.le_trans hB hW.size) (hc.below (hW.mono hB)) hcb (hs.below (hW.mono hB))
  have HOKE : Hid (quE c l g m = 0 → QuOk c l g m) := quE_ok
  have HTE : Hid (qtE c l g m = if quE c l g m ≠ 0 then quE c l g m else if 400000 < (quT c l g m).size then 4 else 0) := rfl
  have HTS : Hid (qtT c l g m = if qtE c l g m = 0 then quT c l g m else ⟨#[]⟩) := rfl
  obtain ⟨qe, hqe⟩ : ∃ q, quE c l g m = q := ⟨_, rfl⟩
  rw [hqe] at HCQ HOKE HTE
  clear hqe
  obtain ⟨RE, hRE⟩ : ∃ q, qtE c l g m = q := ⟨_, rfl⟩
  obtain ⟨RT, hRT⟩ : ∃ q, qtT c l g m = q := ⟨_, rfl⟩
  rw [hRE] at HTE HTS ⊢
  rw [hRT] at HTS ⊢
  clear hRE hRT
  by_cases h0 : qe = 0
  case neg =>
    have e1 : (qe != 0) = true := by simpa using h0
    have HE : Hid (RE = qe ∧ RT = ⟨#[]⟩) := by
      have h1 : RE = qe := by rw [HTE.out, if_pos h0]
      exact ⟨h1, by rw [HTS.out, h1, if_neg h0]⟩
    clear h0 hc hs hP
    obtain ⟨wb, hwb⟩ : ∃ wb, wb = w.alloc (.cells #[.int .i64 c.op, .string c.name, .string c.text, .int .i64 c.val.kind, .int .i64 c.val.int_, .int .i64 c.val.to_, .string c.val.text, .slice Ai ni ci, .int .i64 c.num, .slice Ak nk ck, .slice As ns cs, .string g, .int .i64 m] 30) := ⟨_, rfl⟩
    have hbwb : Below w.heap.size w wb := by rw [hwb]; exact (Below.refl _ _).alloc (Nat.le_refl _) _
    have kwb : Blk wb w.heap.size 30 #[.int .i64 c.op, .string c.name, .string c.text, .int .i64 c.val.kind, .int .i64 c.val.int_, .int .i64 c.val.to_, .string c.val.text, .slice Ai ni ci, .int .i64 c.num, .slice Ak nk ck, .slice As ns cs, .string g, .int .i64 m] := by rw [hwb]; exact Blk.new _ _ _
    have x0 := kwb.cell 0
    have x1 := kwb.cell 1
    have x2 := kwb.cell 2
    have x3 := kwb.cell 3
    have x4 := kwb.cell 4
    have x5 := kwb.cell 5
    have x6 := kwb.cell 6
    have x7 := kwb.cell 7
    have x8 := kwb.cell 8
    have x9 := kwb.cell 9
    have x10 := kwb.cell 10
    have x11 := kwb.cell 11
    have x12 := kwb.cell 12
    have HBwb := Lib.hid hbwb
    have HKwb := Lib.hid kwb
    have HEwb := Lib.hid hwb
    clear hwb hbwb kwb
    go_enter Tryz.func7, Tryz.ntmps7
    go_upto_region 1 with fail
    rw [← HEwb.out]
    go_wp2_with fail
    refine (HCQ.out _ HBwb.out).mono ?_
    rintro e w1 ⟨rfl, hb⟩
    have HB1 : Hid (Below w.heap.size w w1) := HBwb.out.trans (hb.mono HBwb.out.size)
    clear hb x0 x1 x2 x3 x4 x5 x6 x7 x8 x9 x10 x11 x12
    go_wp2_with fail
    go_ret2
    exact ⟨by rw [HE.out.1, HE.out.2]; rfl, HB1.out⟩
  subst h0
  have hok := HOKE.out rfl
  have HC := Lib.hid fun W (hW : Below w.heap.size w W) => writtenC_any d c Ai ni ci Ak nk ck B W (Nat.le_trans hB hW.size) (hc.below (hW.mono hB)) hok.c1 hok.c2 (hP.below hW)
  have h60 := hok.c2
  unfold ACd at HC
  dsimp only at HC
  have HN := Lib.hid hs.len
  have HS := Lib.hid hs
  have hnb : ns * 24 ≤ 140737488351232 := hs.len.2.2
  have hnc : ns ≤ cs := hs.len.2.1
  have hn5 : ns ≤ 5 := by have := hs.len.1; have := hok.l1; omega
  have HOK := Lib.hid hok
  have HTQ : Hid (quT c l g m = if m = 0 then quB c l g else quB c l g ++ (⟨#[109, 111, 115, 116, 32]⟩ ++ wd m ++ ⟨#[10]⟩)) := rfl
  have HTB : Hid (quB c l g = if g.toList = [] then quA c l else quA c l ++ (⟨#[103, 114, 111, 117, 112, 32]⟩ ++ g ++ ⟨#[10]⟩)) := rfl
  have HTA : Hid (quA c l = soTs (⟨#[119, 104, 101, 114, 101, 32]⟩ ++ cdT c ++ ⟨#[10]⟩) l) := rfl
  obtain ⟨K, hK⟩ : ∃ K, cdT c = K := ⟨_, rfl⟩
  rw [hK] at HC HTA
  have HTL := Lib.hid fun W (hW : Below w.heap.size w W) => itoaN_any m (by have := hok.m1; omega) (by have := hok.m2; omega) W (hP.below hW)
  have hms : (wd m).size ≤ 21 := wd_size21 (by have := hok.m1; have := hok.m2; omega)
  have hgs := hok.g1
  obtain ⟨M, hM⟩ : ∃ M, wd m = M := ⟨_, rfl⟩
  rw [hM] at HTL HTQ hms
  clear hc hs hok hP hK hM
  obtain ⟨wb, hwb⟩ : ∃ wb, wb = w.alloc (.cells #[.int .i64 c.op, .string c.name, .string c.text, .int .i64 c.val.kind, .int .i64 c.val.int_, .int .i64 c.val.to_, .string c.val.text, .slice Ai ni ci, .int .i64 c.num, .slice Ak nk ck, .slice As ns cs, .string g, .int .i64 m] 30) := ⟨_, rfl⟩
  have hbwb : Below w.heap.size w wb := by rw [hwb]; exact (Below.refl _ _).alloc (Nat.le_refl _) _
  have kwb : Blk wb w.heap.size 30 #[.int .i64 c.op, .string c.name, .string c.text, .int .i64 c.val.kind, .int .i64 c.val.int_, .int .i64 c.val.to_, .string c.val.text, .slice Ai ni ci, .int .i64 c.num, .slice Ak nk ck, .slice As ns cs, .string g, .int .i64 m] := by rw [hwb]; exact Blk.new _ _ _
  have x0 := kwb.cell 0
  have x1 := kwb.cell 1
  have x2 := kwb.cell 2
  have x3 := kwb.cell 3
  have x4 := kwb.cell 4
  have x5 := kwb.cell 5
  have x6 := kwb.cell 6
  have x7 := kwb.cell 7
  have x8 := kwb.cell 8
  have x9 := kwb.cell 9
  have x10 := kwb.cell 10
  have x11 := kwb.cell 11
  have x12 := kwb.cell 12
  have HBwb := Lib.hid hbwb
  have HKwb := Lib.hid kwb
  have HEwb := Lib.hid hwb
  clear hwb hbwb kwb
  go_enter Tryz.func7, Tryz.ntmps7
  go_upto_region 1 with fail
  rw [← HEwb.out]
  go_wp2_with fail
  refine (HCQ.out _ HBwb.out).mono ?_
  rintro e w0 ⟨rfl, hb⟩
  have HB0 : Hid (Below w.heap.size w w0) := HBwb.out.trans (hb.mono HBwb.out.size)
  have HK0 := Lib.hid (HKwb.out.below hb HKwb.out.lt)
  clear hb x0 x1 x2 x3 x4 x5 x6 x7 x8 x9 x10 x11 x12
  have v0 := HK0.out.cell 0
  have v1 := HK0.out.cell 1
  have v2 := HK0.out.cell 2
  have v3 := HK0.out.cell 3
  have v4 := HK0.out.cell 4
  have v5 := HK0.out.cell 5
  have v6 := HK0.out.cell 6
  have v7 := HK0.out.cell 7
  have v8 := HK0.out.cell 8
  have v9 := HK0.out.cell 9
  have v10 := HK0.out.cell 10
  have v11 := HK0.out.cell 11
  have v12 := HK0.out.cell 12
  go_wp2_with fail
  refine (HC.out _ HB0.out).mono ?_
  rintro e w1 ⟨rfl, hKs, hb⟩
  have HB1 : Hid (Below w.heap.size w w1) := HB0.out.trans (hb.mono HB0.out.size)
  have HK1 := Lib.hid (HK0.out.below hb HK0.out.lt)
  clear hb v0 v1 v2 v3 v4 v5 v6 v7 v8 v9 v10 v11 v12
  have hks : K.size ≤ 12000000 := Nat.le_trans hKs (by omega)
  clear hKs
  have y0 := HK1.out.cell 0
  have y1 := HK1.out.cell 1
  have y2 := HK1.out.cell 2
  have y3 := HK1.out.cell 3
  have y4 := HK1.out.cell 4
  have y5 := HK1.out.cell 5
  have y6 := HK1.out.cell 6
  have y7 := HK1.out.cell 7
  have y8 := HK1.out.cell 8
  have y9 := HK1.out.cell 9
  have y10 := HK1.out.cell 10
  have y11 := HK1.out.cell 11
  have y12 := HK1.out.cell 12
  have ha0 : ∀ W, (Op.stringOp .add ⟨#[119, 104, 101, 114, 101, 32]⟩ K).run Tryz.prog W = .ok (.string (⟨#[119, 104, 101, 114, 101, 32]⟩ ++ K)) W := fun W => run_string_add_sum W _ _ (by show 6 + K.size ≤ _; omega)
  have ha1 : ∀ W, (Op.stringOp .add (⟨#[119, 104, 101, 114, 101, 32]⟩ ++ K) ⟨#[10]⟩).run Tryz.prog W = .ok (.string (⟨#[119, 104, 101, 114, 101, 32]⟩ ++ K ++ ⟨#[10]⟩)) W := fun W => run_string_add_sum W _ _ (by simp only [ByteArray.size_append]; show 6 + K.size + 1 ≤ _; omega)
  obtain ⟨S0, hS0⟩ : ∃ S0, S0 = ⟨#[119, 104, 101, 114, 101, 32]⟩ ++ K ++ ⟨#[10]⟩ := ⟨_, rfl⟩
  have hs0 : S0.size ≤ 12000007 := by rw [hS0]; simp only [ByteArray.size_append]; show 6 + K.size + 1 ≤ _; omega
  rw [← hS0] at HTA
  go_wp2_with fail
  rw [← hS0]
  clear y0 y1 y2 y3 y4 y5 y6 y7 y8 y9 y10 y11 y12 ha0 ha1 hS0 hks
  go_loopg [5, 22] ns (fun gg s5 s22 wr => ∃ j : Nat, j + gg = ns ∧ s22 = .int .i64 (j : Int) ∧ s5 = .string (soTs S0 (l.take j)) ∧ Hid (Below w1.heap.size w1 wr))
  case atStart => exact ⟨0, by omega, rfl, rfl, Below.refl _ _⟩
  case round =>
    obtain ⟨j, hjg, rfl, rfl, hbel⟩ := hrel
    obtain ⟨W1, rfl⟩ : ∃ W1, W1 = wr := ⟨_, rfl⟩
    have HBW : Hid (Below w.heap.size w W1) := HB1.out.trans (hbel.out.mono HB1.out.size)
    have HKW := Lib.hid (HK1.out.below hbel.out HK1.out.lt)
    have htz : (soTs S0 (l.take j)).size ≤ 12000200 := by
      have h1 := soTs_size (l.take j) S0 fun x hx => HOK.out.l2 x (List.mem_of_mem_take hx)
      have h2 : (l.take j).length ≤ j := by rw [List.length_take]; exact Nat.min_le_left _ _
      omega
    obtain ⟨T, hT⟩ : ∃ T, T = soTs S0 (l.take j) := ⟨_, rfl⟩
    rw [← hT] at htz ⊢
    have HT0 := Lib.hid hT
    clear hT
    by_cases hj : j < ns
    · obtain ⟨⟨s, dn⟩, hx⟩ : ∃ x, l[j]? = some x := ⟨_, List.getElem?_eq_getElem (by have := HN.out.1; omega)⟩
      have hb1 : B ≤ W1.heap.size := Nat.le_trans hB HBW.out.size
      obtain ⟨b, off, rfl, hbb, e0, e1⟩ := (HS.out.below (HBW.out.mono hB)).at_ hx
      have hsz : s.size ≤ 20 := HOK.out.l2 _ (List.mem_of_getElem? hx)
      dsimp only at e0 e1
      obtain ⟨wa, hwa⟩ : ∃ wa, wa = W1.alloc (.cells #[.string s, .bool dn] 58) := ⟨_, rfl⟩
      have hal : Below W1.heap.size W1 wa := by rw [hwa]; exact (Below.refl _ _).alloc (Nat.le_refl _) _
      have q9 : Blk wa W1.heap.size 58 #[.string s, .bool dn] := by rw [hwa]; exact Blk.new _ _ _
      have m0 := q9.cell 0
      have m1 := q9.cell 1
      have HWA := Lib.hid hwa
      have HBA : Hid (Below w1.heap.size w1 wa) := hbel.out.trans (hal.mono hbel.out.size)
      have j0 : (0 : Int) ≤ (j : Int) := by omega
      have j1 : (j : Int) < (ns : Int) := by omega
      have HTT : Hid (soTs S0 (l.take (j + 1)) = T ++ soT (s, dn)) := by show _ = _; rw [soTs_take hx, HT0.out]
      clear hx hbb hwa hal q9
      go_upto_region 8 with fail
      rw [← HWA.out]
      clear e0 e1
      cases dn
      · have ha0 : ∀ W, (Op.stringOp .add (⟨#[115, 111, 114, 116, 32]⟩) (s)).run Tryz.prog W = .ok (.string (⟨#[115, 111, 114, 116, 32]⟩ ++ s)) W := fun W => run_string_add_sum W _ _ (by show 5 + s.size ≤ _; omega)
        have ha1 : ∀ W, (Op.stringOp .add (⟨#[115, 111, 114, 116, 32]⟩ ++ s) (⟨#[32]⟩)).run Tryz.prog W = .ok (.string (⟨#[115, 111, 114, 116, 32]⟩ ++ s ++ ⟨#[32]⟩)) W := fun W => run_string_add_sum W _ _ (by simp only [ByteArray.size_append]; show 5 + s.size + 1 ≤ _; omega)
        have ha2 : ∀ W, (Op.stringOp .add (⟨#[115, 111, 114, 116, 32]⟩ ++ s ++ ⟨#[32]⟩) (⟨#[117, 112]⟩)).run Tryz.prog W = .ok (.string (⟨#[115, 111, 114, 116, 32]⟩ ++ s ++ ⟨#[32]⟩ ++ ⟨#[117, 112]⟩)) W := fun W => run_string_add_sum W _ _ (by simp only [ByteArray.size_append]; show 5 + s.size + 1 + 2 ≤ _; omega)
        have ha3 : ∀ W, (Op.stringOp .add (⟨#[115, 111, 114, 116, 32]⟩ ++ s ++ ⟨#[32]⟩ ++ ⟨#[117, 112]⟩) (⟨#[10]⟩)).run Tryz.prog W = .ok (.string (⟨#[115, 111, 114, 116, 32]⟩ ++ s ++ ⟨#[32]⟩ ++ ⟨#[117, 112]⟩ ++ ⟨#[10]⟩)) W := fun W => run_string_add_sum W _ _ (by simp only [ByteArray.size_append]; show 5 + s.size + 1 + 2 + 1 ≤ _; omega)
        have ha4 : ∀ W, (Op.stringOp .add (T) (⟨#[115, 111, 114, 116, 32]⟩ ++ s ++ ⟨#[32]⟩ ++ ⟨#[117, 112]⟩ ++ ⟨#[10]⟩)).run Tryz.prog W = .ok (.string (T ++ (⟨#[115, 111, 114, 116, 32]⟩ ++ s ++ ⟨#[32]⟩ ++ ⟨#[117, 112]⟩ ++ ⟨#[10]⟩))) W := fun W => run_string_add_sum W _ _ (by simp only [ByteArray.size_append]; show T.size + (5 + s.size + 1 + 2 + 1) ≤ _; omega)
        have HS2 : Hid (T ++ (⟨#[115, 111, 114, 116, 32]⟩ ++ s ++ ⟨#[32]⟩ ++ ⟨#[117, 112]⟩ ++ ⟨#[10]⟩) = soTs S0 (l.take (j + 1))) := by show _ = _; rw [HTT.out]; rfl
        go_wp2_with fail
        go_roundg (ns - (j + 1))
        case measure => omega
        case rel => exact ⟨j + 1, by omega, by go_num, by rw [HS2.out], HBA⟩
      · have ha0 : ∀ W, (Op.stringOp .add (⟨#[115, 111, 114, 116, 32]⟩) (s)).run Tryz.prog W = .ok (.string (⟨#[115, 111, 114, 116, 32]⟩ ++ s)) W := fun W => run_string_add_sum W _ _ (by show 5 + s.size ≤ _; omega)
        have ha1 : ∀ W, (Op.stringOp .add (⟨#[115, 111, 114, 116, 32]⟩ ++ s) (⟨#[32]⟩)).run Tryz.prog W = .ok (.string (⟨#[115, 111, 114, 116, 32]⟩ ++ s ++ ⟨#[32]⟩)) W := fun W => run_string_add_sum W _ _ (by simp only [ByteArray.size_append]; show 5 + s.size + 1 ≤ _; omega)
        have ha2 : ∀ W, (Op.stringOp .add (⟨#[115, 111, 114, 116, 32]⟩ ++ s ++ ⟨#[32]⟩) (⟨#[100, 111, 119, 110]⟩)).run Tryz.prog W = .ok (.string (⟨#[115, 111, 114, 116, 32]⟩ ++ s ++ ⟨#[32]⟩ ++ ⟨#[100, 111, 119, 110]⟩)) W := fun W => run_string_add_sum W _ _ (by simp only [ByteArray.size_append]; show 5 + s.size + 1 + 4 ≤ _; omega)
        have ha3 : ∀ W, (Op.stringOp .add (⟨#[115, 111, 114, 116, 32]⟩ ++ s ++ ⟨#[32]⟩ ++ ⟨#[100, 111, 119, 110]⟩) (⟨#[10]⟩)).run Tryz.prog W = .ok (.string (⟨#[115, 111, 114, 116, 32]⟩ ++ s ++ ⟨#[32]⟩ ++ ⟨#[100, 111, 119, 110]⟩ ++ ⟨#[10]⟩)) W := fun W => run_string_add_sum W _ _ (by simp only [ByteArray.size_append]; show 5 + s.size + 1 + 4 + 1 ≤ _; omega)
        have ha4 : ∀ W, (Op.stringOp .add (T) (⟨#[115, 111, 114, 116, 32]⟩ ++ s ++ ⟨#[32]⟩ ++ ⟨#[100, 111, 119, 110]⟩ ++ ⟨#[10]⟩)).run Tryz.prog W = .ok (.string (T ++ (⟨#[115, 111, 114, 116, 32]⟩ ++ s ++ ⟨#[32]⟩ ++ ⟨#[100, 111, 119, 110]⟩ ++ ⟨#[10]⟩))) W := fun W => run_string_add_sum W _ _ (by simp only [ByteArray.size_append]; show T.size + (5 + s.size + 1 + 4 + 1) ≤ _; omega)
        have HS2 : Hid (T ++ (⟨#[115, 111, 114, 116, 32]⟩ ++ s ++ ⟨#[32]⟩ ++ ⟨#[100, 111, 119, 110]⟩ ++ ⟨#[10]⟩) = soTs S0 (l.take (j + 1))) := by show _ = _; rw [HTT.out]; rfl
        go_wp2_with fail
        go_roundg (ns - (j + 1))
        case measure => omega
        case rel => exact ⟨j + 1, by omega, by go_num, by rw [HS2.out], HBA⟩
    · obtain rfl : ns = j := by omega
      have ht : l.take ns = l := List.take_of_length_le (by rw [← HN.out.1]; exact Nat.le_refl _)
      have HA : Hid (quA c l = T) := by show _ = _; rw [HTA.out, HT0.out, ht]
      have z11 := HKW.out.cell 11
      have z12 := HKW.out.cell 12
      clear ht
      by_cases h1 : g.toList = []
      · have e1 : (g.toList != []) = false := by rw [h1]; rfl
        have e2 : g.toList.isEmpty = true := by rw [h1]; rfl
        have HB : Hid (quB c l g = T) := by show _ = _; rw [HTB.out, if_pos h1, HA.out]
        clear h1
        by_cases hm0 : m = 0
        · have HE : Hid (quT c l g m = T) := by show _ = _; rw [HTQ.out, if_pos hm0, HB.out]
          have e3 : (m != 0) = false := by simpa using hm0
          clear hm0
          go_upto_region 17 with fail
          obtain ⟨U, hU⟩ : ∃ U, U = T := ⟨_, rfl⟩
          rw [← hU]
          rw [← hU] at HE
          clear hU
          obtain ⟨q, hq⟩ : ∃ q, decide ((400000 : Int) < (U.size : Int)) = q := ⟨_, rfl⟩
          cases q
          · have h9 : RE = 0 := by rw [HTE.out, if_neg (fun h => h rfl), HE.out, if_neg (by have := of_decide_eq_false hq; omega)]
            have HR : Hid (RE = 0 ∧ RT = U) := ⟨h9, by rw [HTS.out, h9, if_pos rfl, HE.out]⟩
            clear h9
            go_wp2_with fail
            go_ret2
            exact ⟨by rw [HR.out.1, HR.out.2]; rfl, HBW.out⟩
          · have h9 : RE = 4 := by rw [HTE.out, if_neg (fun h => h rfl), HE.out, if_pos (by have := of_decide_eq_true hq; omega)]
            have HR : Hid (RE = 4 ∧ RT = ⟨#[]⟩) := ⟨h9, by rw [HTS.out, h9, if_neg (by decide)]⟩
            clear h9
            go_wp2_with fail
            go_ret2
            exact ⟨by rw [HR.out.1, HR.out.2]; rfl, HBW.out⟩
        · have HE : Hid (quT c l g m = T ++ (⟨#[109, 111, 115, 116, 32]⟩ ++ M ++ ⟨#[10]⟩)) := by show _ = _; rw [HTQ.out, if_neg hm0, HB.out]
          have e3 : (m != 0) = true := by simpa using hm0
          clear hm0
          have hc0 : ∀ W, (Op.stringOp .add ⟨#[109, 111, 115, 116, 32]⟩ M).run Tryz.prog W = .ok (.string (⟨#[109, 111, 115, 116, 32]⟩ ++ M)) W := fun W => run_string_add_sum W _ _ (by show 5 + M.size ≤ _; omega)
          have hc1 : ∀ W, (Op.stringOp .add (⟨#[109, 111, 115, 116, 32]⟩ ++ M) ⟨#[10]⟩).run Tryz.prog W = .ok (.string (⟨#[109, 111, 115, 116, 32]⟩ ++ M ++ ⟨#[10]⟩)) W := fun W => run_string_add_sum W _ _ (by simp only [ByteArray.size_append]; show 5 + M.size + 1 ≤ _; omega)
          have hc2 : ∀ W, (Op.stringOp .add (T) (⟨#[109, 111, 115, 116, 32]⟩ ++ M ++ ⟨#[10]⟩)).run Tryz.prog W = .ok (.string (T ++ (⟨#[109, 111, 115, 116, 32]⟩ ++ M ++ ⟨#[10]⟩))) W := fun W => run_string_add_sum W _ _ (by simp only [ByteArray.size_append]; show T.size + (5 + M.size + 1) ≤ _; omega)
          go_wp2_with fail
          refine (HTL.out _ HBW.out).mono ?_
          rintro e w2 ⟨rfl, hb⟩
          have HB2 : Hid (Below w.heap.size w w2) := HBW.out.trans (hb.mono HBW.out.size)
          clear hb
          go_upto_region 17 with fail
          obtain ⟨U, hU⟩ : ∃ U, U = T ++ (⟨#[109, 111, 115, 116, 32]⟩ ++ M ++ ⟨#[10]⟩) := ⟨_, rfl⟩
          rw [← hU]
          rw [← hU] at HE
          clear hU
          obtain ⟨q, hq⟩ : ∃ q, decide ((400000 : Int) < (U.size : Int)) = q := ⟨_, rfl⟩
          cases q
          · have h9 : RE = 0 := by rw [HTE.out, if_neg (fun h => h rfl), HE.out, if_neg (by have := of_decide_eq_false hq; omega)]
            have HR : Hid (RE = 0 ∧ RT = U) := ⟨h9, by rw [HTS.out, h9, if_pos rfl, HE.out]⟩
            clear h9
            go_wp2_with fail
            go_ret2
            exact ⟨by rw [HR.out.1, HR.out.2]; rfl, HB2.out⟩
          · have h9 : RE = 4 := by rw [HTE.out, if_neg (fun h => h rfl), HE.out, if_pos (by have := of_decide_eq_true hq; omega)]
            have HR : Hid (RE = 4 ∧ RT = ⟨#[]⟩) := ⟨h9, by rw [HTS.out, h9, if_neg (by decide)]⟩
            clear h9
            go_wp2_with fail
            go_ret2
            exact ⟨by rw [HR.out.1, HR.out.2]; rfl, HB2.out⟩
      · have e1 : (g.toList != []) = true := by simpa using h1
        have e2 : g.toList.isEmpty = false := by simpa using h1
        have HB : Hid (quB c l g = T ++ (⟨#[103, 114, 111, 117, 112, 32]⟩ ++ g ++ ⟨#[10]⟩)) := by show _ = _; rw [HTB.out, if_neg h1, HA.out]
        clear h1
        have hb0 : ∀ W, (Op.stringOp .add ⟨#[103, 114, 111, 117, 112, 32]⟩ g).run Tryz.prog W = .ok (.string (⟨#[103, 114, 111, 117, 112, 32]⟩ ++ g)) W := fun W => run_string_add_sum W _ _ (by show 6 + g.size ≤ _; omega)
        have hb1 : ∀ W, (Op.stringOp .add (⟨#[103, 114, 111, 117, 112, 32]⟩ ++ g) ⟨#[10]⟩).run Tryz.prog W = .ok (.string (⟨#[103, 114, 111, 117, 112, 32]⟩ ++ g ++ ⟨#[10]⟩)) W := fun W => run_string_add_sum W _ _ (by simp only [ByteArray.size_append]; show 6 + g.size + 1 ≤ _; omega)
        have hb2 : ∀ W, (Op.stringOp .add T (⟨#[103, 114, 111, 117, 112, 32]⟩ ++ g ++ ⟨#[10]⟩)).run Tryz.prog W = .ok (.string (T ++ (⟨#[103, 114, 111, 117, 112, 32]⟩ ++ g ++ ⟨#[10]⟩))) W := fun W => run_string_add_sum W _ _ (by simp only [ByteArray.size_append]; show T.size + (6 + g.size + 1) ≤ _; omega)
        by_cases hm0 : m = 0
        · have HE : Hid (quT c l g m = T ++ (⟨#[103, 114, 111, 117, 112, 32]⟩ ++ g ++ ⟨#[10]⟩)) := by show _ = _; rw [HTQ.out, if_pos hm0, HB.out]
          have e3 : (m != 0) = false := by simpa using hm0
          clear hm0
          go_upto_region 17 with fail
          obtain ⟨U, hU⟩ : ∃ U, U = T ++ (⟨#[103, 114, 111, 117, 112, 32]⟩ ++ g ++ ⟨#[10]⟩) := ⟨_, rfl⟩
          rw [← hU]
          rw [← hU] at HE
          clear hU
          obtain ⟨q, hq⟩ : ∃ q, decide ((400000 : Int) < (U.size : Int)) = q := ⟨_, rfl⟩
          cases q
          · have h9 : RE = 0 := by rw [HTE.out, if_neg (fun h => h rfl), HE.out, if_neg (by have := of_decide_eq_false hq; omega)]
            have HR : Hid (RE = 0 ∧ RT = U) := ⟨h9, by rw [HTS.out, h9, if_pos rfl, HE.out]⟩
            clear h9
            go_wp2_with fail
            go_ret2
            exact ⟨by rw [HR.out.1, HR.out.2]; rfl, HBW.out⟩
          · have h9 : RE = 4 := by rw [HTE.out, if_neg (fun h => h rfl), HE.out, if_pos (by have := of_decide_eq_true hq; omega)]
            have HR : Hid (RE = 4 ∧ RT = ⟨#[]⟩) := ⟨h9, by rw [HTS.out, h9, if_neg (by decide)]⟩
            clear h9
            go_wp2_with fail
            go_ret2
            exact ⟨by rw [HR.out.1, HR.out.2]; rfl, HBW.out⟩
        · have HE : Hid (quT c l g m = T ++ (⟨#[103, 114, 111, 117, 112, 32]⟩ ++ g ++ ⟨#[10]⟩) ++ (⟨#[109, 111, 115, 116, 32]⟩ ++ M ++ ⟨#[10]⟩)) := by show _ = _; rw [HTQ.out, if_neg hm0, HB.out]
          have e3 : (m != 0) = true := by simpa using hm0
          clear hm0
          have hc0 : ∀ W, (Op.stringOp .add ⟨#[109, 111, 115, 116, 32]⟩ M).run Tryz.prog W = .ok (.string (⟨#[109, 111, 115, 116, 32]⟩ ++ M)) W := fun W => run_string_add_sum W _ _ (by show 5 + M.size ≤ _; omega)
          have hc1 : ∀ W, (Op.stringOp .add (⟨#[109, 111, 115, 116, 32]⟩ ++ M) ⟨#[10]⟩).run Tryz.prog W = .ok (.string (⟨#[109, 111, 115, 116, 32]⟩ ++ M ++ ⟨#[10]⟩)) W := fun W => run_string_add_sum W _ _ (by simp only [ByteArray.size_append]; show 5 + M.size + 1 ≤ _; omega)
          have hc2 : ∀ W, (Op.stringOp .add (T ++ (⟨#[103, 114, 111, 117, 112, 32]⟩ ++ g ++ ⟨#[10]⟩)) (⟨#[109, 111, 115, 116, 32]⟩ ++ M ++ ⟨#[10]⟩)).run Tryz.prog W = .ok (.string (T ++ (⟨#[103, 114, 111, 117, 112, 32]⟩ ++ g ++ ⟨#[10]⟩) ++ (⟨#[109, 111, 115, 116, 32]⟩ ++ M ++ ⟨#[10]⟩))) W := fun W => run_string_add_sum W _ _ (by simp only [ByteArray.size_append]; show T.size + (6 + g.size + 1) + (5 + M.size + 1) ≤ _; omega)
          go_wp2_with fail
          refine (HTL.out _ HBW.out).mono ?_
          rintro e w2 ⟨rfl, hb⟩
          have HB2 : Hid (Below w.heap.size w w2) := HBW.out.trans (hb.mono HBW.out.size)
          clear hb
          go_upto_region 17 with fail
          obtain ⟨U, hU⟩ : ∃ U, U = T ++ (⟨#[103, 114, 111, 117, 112, 32]⟩ ++ g ++ ⟨#[10]⟩) ++ (⟨#[109, 111, 115, 116, 32]⟩ ++ M ++ ⟨#[10]⟩) := ⟨_, rfl⟩
          rw [← hU]
          rw [← hU] at HE
          clear hU
          obtain ⟨q, hq⟩ : ∃ q, decide ((400000 : Int) < (U.size : Int)) = q := ⟨_, rfl⟩
          cases q
          · have h9 : RE = 0 := by rw [HTE.out, if_neg (fun h => h rfl), HE.out, if_neg (by have := of_decide_eq_false hq; omega)]
            have HR : Hid (RE = 0 ∧ RT = U) := ⟨h9, by rw [HTS.out, h9, if_pos rfl, HE.out]⟩
            clear h9
            go_wp2_with fail
            go_ret2
            exact ⟨by rw [HR.out.1, HR.out.2]; rfl, HB2.out⟩
          · have h9 : RE = 4 := by rw [HTE.out, if_neg (fun h => h rfl), HE.out, if_pos (by have := of_decide_eq_true hq; omega)]
            have HR : Hid (RE = 4 ∧ RT = ⟨#[]⟩) := ⟨h9, by rw [HTS.out, h9, if_neg (by decide)]⟩
            clear h9
            go_wp2_with fail
            go_ret2
            exact ⟨by rw [HR.out.1, HR.out.2]; rfl, HB2.out⟩
end Go.Proofs.YtnlonleljbbgoaaGreatDoor
