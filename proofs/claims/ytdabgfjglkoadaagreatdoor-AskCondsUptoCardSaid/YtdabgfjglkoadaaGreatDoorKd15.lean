/-
  DERIVED. The walk of ask.small: a condition's nodes counted. Conditions: sizes.
  strings.Join over a row of the call's own. Conditions: sizes.
  By an AI agent.
-/
import Derived.Test.YtdabgfjglkoadaaGreatDoorKd07
import Derived.StillTailTactics
import Derived.Deep.LoopGhost
import Derived.Deep.DeepCutAuto
import Derived.Test.YtdabgfjglkoadaaGreatDoorKd03
import Derived.Test.YtdabgfjglkoadaaGreatDoorKd11
namespace Go.Proofs.YtdabgfjglkoadaaGreatDoor
open Go.RowKit

theorem gr_tr {w w1 w2 : World} {r : Option Nat} (h : w.grownBy w1 r) (k : w1.grownBy w2 r) : w.grownBy w2 r :=
  ⟨k.os.trans h.os, k.tape.trans h.tape, k.output.trans h.output, Nat.le_trans h.size k.size, fun i hi hn => (k.block i (Nat.lt_of_lt_of_le hi h.size) hn).trans (h.block i hi hn)⟩
theorem gr_below0 {w w1 : World} (h : Below w.heap.size w w1) (r : Option Nat) : w.grownBy w1 r := ⟨h.os, h.tape, h.output, h.size, fun i hi _ => h.block i hi⟩
theorem gr_belowP {B g : Nat} {w w' : World} (hg : w.grownBy w' (some g)) (hB : B ≤ g) (hw : B ≤ w.heap.size) : Below B w w' := (Below.refl B w).grown hg hw (fun k hk => by injection hk with hk; omega)
theorem gr_set {w : World} {P i : Nat} (u : Value) : w.grownBy (w.setCell ⟨P, i, none⟩ u) (some P) := ⟨rfl, rfl, rfl, by simp [World.setCell], fun k _ hne => Below.heap_setCell w ⟨P, i, none⟩ _ k (fun e => hne (by rw [e]))⟩
/-- what counting leaves -/
def SmP (c : Cd) (lev n P : Nat) (w : World) (e : Ending) (w' : World) : Prop :=
  w.grownBy w' (some P) ∧ (n + cdN c ≤ 60 ∧ e = .returned (.tuple #[.bool true, .bool (decide (40 < lev + cdD c - 1))]) ∧ Blk w' P 3 #[.int .i64 ((n + cdN c : Nat) : Int)] ∨ 60 < n + cdN c ∧ e = .returned (.tuple #[.bool false, .bool false]))
set_option maxHeartbeats 8000000 in
set_option maxRecDepth 100000 in
/-- ask.small -/
theorem small_any : ∀ (d : Nat) (c : Cd) (Ai : Option Addr) (ni ci : Nat) (Ak : Option Addr) (nk ck : Nat) (lev n P B : Nat) (w : World), RCd w B d (.slice Ai ni ci) (.slice Ak nk ck) c → B ≤ P → Blk w P 3 #[.int .i64 (n : Int)] → n ≤ 60 → lev ≤ n + 1 →
    Calls Tryz.prog 17 #[ACd (c, .slice Ai ni ci, .slice Ak nk ck), .int .i64 (lev : Int), .pointer (some ⟨P, 0, none⟩)] w (SmP c lev n P w) := by
  intro d
  induction d using Nat.strongRecOn with
  | _ d ih =>
  intro c Ai ni ci Ak nk ck lev n P B w hc hBP hP hn60 hlev
  have HIH := Lib.hid ih
  have hPl := hP.lt
  obtain ⟨wb, hwb⟩ : ∃ wb, wb = w.alloc (.cells #[.int .i64 c.op, .string c.name, .string c.text, .int .i64 c.val.kind, .int .i64 c.val.int_, .int .i64 c.val.to_, .string c.val.text, .slice Ai ni ci, .int .i64 c.num, .slice Ak nk ck] 27) := ⟨_, rfl⟩
  have hbb : Below w.heap.size w wb := by rw [hwb]; exact (Below.refl _ _).alloc (Nat.le_refl _) _
  have kb : Blk wb w.heap.size 27 #[.int .i64 c.op, .string c.name, .string c.text, .int .i64 c.val.kind, .int .i64 c.val.int_, .int .i64 c.val.to_, .string c.val.text, .slice Ai ni ci, .int .i64 c.num, .slice Ak nk ck] := by rw [hwb]; exact Blk.new _ _ _
  have pb := hP.below hbb hPl
  have x0 : wb.cell? ⟨P, 0, none⟩ = some (.int .i64 (n : Int)) := pb.cell 0
  have x1 : wb.frozen? ⟨P, 0, none⟩ = false := pb.frozen 0
  obtain ⟨m, hm⟩ : ∃ m : Nat, m = n + 1 := ⟨_, rfl⟩
  obtain ⟨w1, hw1⟩ : ∃ w1, w1 = wb.setCell ⟨P, 0, none⟩ (.int .i64 (m : Int)) := ⟨_, rfl⟩
  have p1 : Blk w1 P 3 #[.int .i64 (m : Int)] := by rw [hw1]; exact pb.set_ 0 _
  have g1 : w.grownBy w1 (some P) := gr_tr (gr_below0 hbb _) (by rw [hw1]; exact gr_set _)
  have k1 : Blk w1 w.heap.size 27 #[.int .i64 c.op, .string c.name, .string c.text, .int .i64 c.val.kind, .int .i64 c.val.int_, .int .i64 c.val.to_, .string c.val.text, .slice Ai ni ci, .int .i64 c.num, .slice Ak nk ck] := by
    have g : wb.grownBy w1 (some P) := by rw [hw1]; exact gr_set _
    exact kb.grown g (fun e => by injection e with e; omega)
  have y0 : w1.cell? ⟨P, 0, none⟩ = some (.int .i64 (m : Int)) := p1.cell 0
  have y5 : w1.cell? ⟨w.heap.size, 9, none⟩ = some (.slice Ak nk ck) := k1.cell 9
  have hN := cdN_eq c
  have hD := cdD_eq c
  obtain ⟨hkl, hk136⟩ := hc.2.len
  have iw : IntKind.i64.wrap ((n : Int) + 1) = (m : Int) := by rw [IntWalk.i64_in _ (by omega)]; omega
  have HC := Lib.hid hc
  have HKL := Lib.hid hkl
  have HN := Lib.hid hN
  have HD := Lib.hid hD
  have HG1 := Lib.hid g1
  have HP1 := Lib.hid p1
  have HM := Lib.hid hm
  have HWB := Lib.hid hwb
  have HW1 := Lib.hid hw1
  have HBP := Lib.hid hBP
  have c60a : n = 60 → decide ((60 : Int) < (m : Int)) = true := fun h => decide_eq_true (by omega)
  have c60b : n ≠ 60 → decide ((60 : Int) < (m : Int)) = false := fun h => decide_eq_false (by omega)
  have HA := Lib.hid c60a
  have HBB := Lib.hid c60b
  clear hc hN hD hkl hm c60a c60b g1 p1 hwb hw1 hbb kb pb k1 ih hP
  unfold ACd
  dsimp only
  by_cases hn : n = 60
  · have HB60 : Hid (60 < n + cdN c) := by show _ < _; have := cdN_pos c; omega
    have c60 := HA.out hn
    clear hn
    go_enter Tryz.func17, Tryz.ntmps17
    go_upto_region 1 with fail
    rw [← HWB.out]
    go_upto_region 2 with fail
    rw [← HW1.out]
    go_wp2_with fail
    go_ret2
    exact ⟨HG1.out, .inr ⟨HB60.out, rfl⟩⟩
  have c60 := HBB.out hn
  obtain ⟨q0, hq0⟩ : ∃ q, decide ((40 : Int) < (lev : Int)) = q := ⟨_, rfl⟩
  have HQ0 : Hid (decide (40 < lev + cdDs (c.kids.take 0)) = q0) := by
    show _ = _
    rw [← hq0, List.take_zero, cdDs]
    simp only [decide_eq_decide]
    omega
  go_enter Tryz.func17, Tryz.ntmps17
  go_upto_region 1 with fail
  rw [← HWB.out]
  go_upto_region 2 with fail
  rw [← HW1.out]
  go_wp2_with fail
  clear x0 x1 y0 y5 hq0
  go_loopg [7, 26] nk (fun gg s7 s26 wr => ∃ (j : Nat) (q : Bool), j + gg = nk ∧ s26 = .int .i64 (j : Int) ∧ s7 = .bool q ∧ Hid (decide (40 < lev + cdDs (c.kids.take j)) = q) ∧ Hid (w.grownBy wr (some P)) ∧ Hid (m + cdNs (c.kids.take j) ≤ 60) ∧ Hid (Blk wr P 3 #[.int .i64 ((m + cdNs (c.kids.take j) : Nat) : Int)]))
  case atStart => exact ⟨0, q0, by omega, rfl, rfl, HQ0, HG1, by show m + cdNs (c.kids.take 0) ≤ 60; have hm := HM.out; rw [List.take_zero, cdNs]; omega, by rw [List.take_zero, cdNs]; exact HP1⟩
  case round =>
    obtain ⟨j, q, hjg, rfl, rfl, hq, hgr, hle, hblk⟩ := hrel
    obtain ⟨W1, rfl⟩ : ∃ W1, W1 = wr := ⟨_, rfl⟩
    by_cases hj : j < nk
    · obtain ⟨x, hx⟩ : ∃ x, c.kids[j]? = some x := ⟨_, List.getElem?_eq_getElem (by have := HKL.out; omega)⟩
      have hbel : Below B w W1 := gr_belowP hgr.out HBP.out (by have := HBP.out; omega)
      obtain ⟨d', b, off, Bi, mi, di, Bk, mk, dk, hdd, rfl, hbb, hcl, hrx⟩ := (HC.out.2.below hbel).at_ hx
      have e0 : W1.cell? ⟨b, off + j * 10, none⟩ = some (.int .i64 x.op) := hcl 0 _ rfl
      have e1 : W1.cell? ⟨b, off + j * 10 + 1, none⟩ = some (.string x.name) := hcl 1 _ rfl
      have e2 : W1.cell? ⟨b, off + j * 10 + 2, none⟩ = some (.string x.text) := hcl 2 _ rfl
      have e3 : W1.cell? ⟨b, off + j * 10 + 3, none⟩ = some (.int .i64 x.val.kind) := hcl 3 _ rfl
      have e4 : W1.cell? ⟨b, off + j * 10 + 4, none⟩ = some (.int .i64 x.val.int_) := hcl 4 _ rfl
      have e5 : W1.cell? ⟨b, off + j * 10 + 5, none⟩ = some (.int .i64 x.val.to_) := hcl 5 _ rfl
      have e6 : W1.cell? ⟨b, off + j * 10 + 6, none⟩ = some (.string x.val.text) := hcl 6 _ rfl
      have e7 : W1.cell? ⟨b, off + j * 10 + 7, none⟩ = some (.slice Bi mi di) := hcl 7 _ rfl
      have e8 : W1.cell? ⟨b, off + j * 10 + 8, none⟩ = some (.int .i64 x.num) := hcl 8 _ rfl
      have e9 : W1.cell? ⟨b, off + j * 10 + 9, none⟩ = some (.slice Bk mk dk) := hcl 9 _ rfl
      obtain ⟨wa, hwa⟩ : ∃ wa, wa = W1.alloc (.cells #[.int .i64 x.op, .string x.name, .string x.text, .int .i64 x.val.kind, .int .i64 x.val.int_, .int .i64 x.val.to_, .string x.val.text, .slice Bi mi di, .int .i64 x.num, .slice Bk mk dk] 27) := ⟨_, rfl⟩
      have hal : Below W1.heap.size W1 wa := by rw [hwa]; exact (Below.refl _ _).alloc (Nat.le_refl _) _
      have q9 : Blk wa W1.heap.size 27 #[.int .i64 x.op, .string x.name, .string x.text, .int .i64 x.val.kind, .int .i64 x.val.int_, .int .i64 x.val.to_, .string x.val.text, .slice Bi mi di, .int .i64 x.num, .slice Bk mk dk] := by rw [hwa]; exact Blk.new _ _ _
      have m0 := q9.cell 0
      have m1 := q9.cell 1
      have m2 := q9.cell 2
      have m3 := q9.cell 3
      have m4 := q9.cell 4
      have m5 := q9.cell 5
      have m6 := q9.cell 6
      have m7 := q9.cell 7
      have m8 := q9.cell 8
      have m9 := q9.cell 9
      have hPa : Blk wa P 3 #[.int .i64 ((m + cdNs (c.kids.take j) : Nat) : Int)] := hblk.out.below hal hblk.out.lt
      have hB1 : B ≤ W1.heap.size := Nat.le_trans (Nat.le_trans HBP.out (Nat.le_of_lt hPl)) hgr.out.size
      obtain ⟨l1, hl1⟩ : ∃ l1 : Nat, l1 = lev + 1 := ⟨_, rfl⟩
      have HCX := Lib.hid (HIH.out d' (by omega) x Bi mi di Bk mk dk l1 (m + cdNs (c.kids.take j)) P B wa (hrx.below (hal.mono hB1)) HBP.out hPa hle.out (by have := HM.out; omega))
      unfold ACd at HCX
      dsimp only at HCX
      have HTN := Lib.hid (cdNs_take hx)
      have HTD := Lib.hid (cdDs_take hx)
      have HGA : Hid (w.grownBy wa (some P)) := gr_tr hgr.out (gr_below0 hal _)
      have HWA := Lib.hid hwa
      have iwl : IntKind.i64.wrap ((lev : Int) + 1) = (l1 : Int) := by rw [IntWalk.i64_in _ (by omega)]; omega
      have HL1 := Lib.hid hl1
      have j0 : (0 : Int) ≤ (j : Int) := by omega
      have j1 : (j : Int) < (nk : Int) := by omega
      have HLE := cdNs_le c.kids (j + 1)
      have HLE2 := Lib.hid HLE
      clear hx hbel hbb hcl hrx hwa hal q9 hPa hgr hblk HLE hl1
      go_upto_region 8 with fail
      rw [← HWA.out]
      clear e0 e1 e2 e3 e4 e5 e6 e7 e8 e9
      go_wp2_with fail
      refine HCX.out.mono ?_
      rintro e w2 ⟨hg2, hw2⟩
      have HG2 : Hid (w.grownBy w2 (some P)) := gr_tr HGA.out hg2
      clear hg2 m0 m1 m2 m3 m4 m5 m6 m7 m8 m9
      rcases hw2 with ⟨hs, rfl, hb2⟩ | ⟨hs, rfl⟩
      · obtain ⟨q2, hq2⟩ : ∃ q2, decide (40 < l1 + cdD x - 1) = q2 := ⟨_, rfl⟩
        have HQN : Hid (decide (40 < lev + cdDs (c.kids.take (j + 1))) = (q || q2)) := by
          show _ = _
          have hl1 := HL1.out
          rw [HTD.out, ← hq.out, ← hq2, Bool.eq_iff_iff, decide_eq_true_iff, Bool.or_eq_true, decide_eq_true_iff, decide_eq_true_iff]
          omega
        rw [hq2]
        have HS : Hid (m + cdNs (c.kids.take (j + 1)) ≤ 60) := by show _ ≤ _; rw [HTN.out]; omega
        have HB2 : Hid (Blk w2 P 3 #[.int .i64 ((m + cdNs (c.kids.take (j + 1)) : Nat) : Int)]) := by
          show Blk _ _ _ _
          rw [HTN.out, show m + (cdNs (c.kids.take j) + cdN x) = m + cdNs (c.kids.take j) + cdN x by omega]
          exact hb2
        clear hs hb2 hq2
        cases q
        · go_wp2_with fail
          go_roundg (nk - (j + 1))
          case measure => omega
          case rel => exact ⟨j + 1, _, by omega, by go_num, rfl, HQN, HG2, HS, HB2⟩
        · go_wp2_with fail
          go_roundg (nk - (j + 1))
          case measure => omega
          case rel => exact ⟨j + 1, _, by omega, by go_num, rfl, HQN, HG2, HS, HB2⟩
      · have HS : Hid (60 < n + cdN c) := by
          show _ < _
          rw [HN.out]
          have := HLE2.out
          have hm := HM.out
          rw [HTN.out] at this
          omega
        clear hs
        go_wp2_with fail
        go_ret2
        exact ⟨HG2.out, .inr ⟨HS.out, rfl⟩⟩
    · obtain rfl : nk = j := by omega
      have ht : c.kids.take nk = c.kids := List.take_of_length_le (by rw [← HKL.out]; exact Nat.le_refl _)
      rw [ht] at hq hle hblk
      have HF : Hid (n + cdN c = m + cdNs c.kids) := by show _ = _; rw [HN.out, HM.out]; omega
      have HDF : Hid (decide (40 < lev + cdD c - 1) = q) := by
        show _ = _
        rw [← hq.out, HD.out]
        simp only [decide_eq_decide]
        omega
      clear ht
      go_wp2_with fail
      go_ret2
      refine ⟨hgr.out, .inl ⟨by rw [HF.out]; exact hle.out, by rw [HDF.out]; rfl, by rw [HF.out]; exact hblk.out⟩⟩
end Go.Proofs.YtdabgfjglkoadaaGreatDoor
namespace Go.Proofs.YtdabgfjglkoadaaGreatDoor
open Go.RowKit

def joinB (xs : List ByteArray) (sep : ByteArray) : ByteArray := ⟨(Lib.join (xs.map (·.data.toList)) sep.data.toList).toArray⟩
theorem joinB_size (xs : List ByteArray) (sep : ByteArray) : (joinB xs sep).size = (Lib.join (xs.map (·.data.toList)) sep.data.toList).length := by
  show (Lib.join _ _).toArray.size = _
  simp
theorem joinB_nil (sep : ByteArray) : joinB [] sep = ⟨#[]⟩ := rfl
theorem joinB_one (x sep : ByteArray) : joinB [x] sep = x := by
  unfold joinB
  rw [List.map_cons, List.map_nil, Lib.join_one]
theorem joinB_cons (x y : ByteArray) (r : List ByteArray) (sep : ByteArray) : joinB (x :: y :: r) sep = x ++ sep ++ joinB (y :: r) sep := by
  apply ByteArray.ext
  unfold joinB
  simp only [List.map_cons]
  rw [Lib.join_cons, Lib.join_cons]
  simp [Lib.joinTail]
theorem joinB_le (sep : ByteArray) (k : Nat) : ∀ (xs : List ByteArray), (∀ x ∈ xs, x.size ≤ k) → (joinB xs sep).size ≤ xs.length * (k + sep.size)
  | [], _ => by rw [joinB_nil]; exact Nat.zero_le _
  | [x], h => by
    rw [joinB_one, List.length_singleton]
    have := h x (by simp)
    omega
  | x :: y :: r, h => by
    have ih := joinB_le sep k (y :: r) (fun z hz => h z (by simp [hz]))
    have hx := h x (by simp)
    rw [joinB_cons, ByteArray.size_append, ByteArray.size_append, List.length_cons, Nat.succ_mul]
    omega
theorem str_one (s : ByteArray) : ∀ u ∈ [Value.string s], u.oneCell' = true := fun u hu => by rw [List.mem_singleton.1 hu]; rfl
theorem take_str {α : Type} (f : α → ByteArray) {xs : List α} {k : Nat} {x : α} (h : xs[k]? = some x) : (((xs.take (k + 1)).map f).map Value.string) = ((xs.take k).map f).map .string ++ [.string (f x)] := by
  rw [List.take_add_one, h]
  simp
theorem join_own (xs : List ByteArray) (sep : ByteArray) (w : World) (base n : Nat) (v : Value) (h : w.ownsRow base 9 1 v n (xs.map .string)) (hn : n = xs.length) (hb : n ≤ 4294967280) (hs : (joinB xs sep).size ≤ 4294967280) :
    Calls Tryz.prog 21 #[v, .string sep] w fun e w' => e = .returned (.string (joinB xs sep)) ∧ Below w.heap.size w w' := by
  have hr := own_reads h
  obtain ⟨h1, h2⟩ := h
  have h0 : ∀ A c, n = 0 → Calls Tryz.prog 21 #[.slice A n c, .string sep] w fun e w' => e = .returned (.string (joinB xs sep)) ∧ Below w.heap.size w w' := by
    intro A c h0
    obtain rfl : xs = [] := List.eq_nil_of_length_eq_zero (by omega)
    rw [h0]
    refine (Tryz.strings_Join_none A c sep w).mono ?_
    rintro e w' ⟨rfl, rfl⟩
    exact ⟨rfl, Below.refl _ _⟩
  rcases h2 with ⟨rfl, rfl⟩ | ⟨g, cap, cur, rfl, hg, hh, hnc, _⟩
  · exact h0 none 0 rfl
  · rcases Nat.eq_zero_or_pos n with h3 | h3
    · exact h0 _ _ h3
    · obtain ⟨A, c, e, hrd⟩ := hr
      injection e with e1 e2 e3
      subst e1
      obtain ⟨b, off, e4, hbb, hc⟩ := hrd.plain h3 (by decide)
      injection e4 with e4
      rw [e4]
      have h := Tryz.strings_Join b off cap xs sep w (fun j x hx => hc j (.string x) (by rw [List.getElem?_map, hx]; rfl)) hbb (by omega) (by omega) (by rw [← joinB_size]; omega)
      rw [← hn] at h
      exact h
end Go.Proofs.YtdabgfjglkoadaaGreatDoor
