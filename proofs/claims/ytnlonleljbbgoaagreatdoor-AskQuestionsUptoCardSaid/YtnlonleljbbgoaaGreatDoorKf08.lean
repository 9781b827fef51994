/-
  DERIVED. A target, a tag: the walks of ask.isTarget and ask.isTag. Conditions: sizes.
  No value, the form of a node: the walks of ask.isZero, ask.checkForm. Conditions: sizes.
  The walk of the reference's SortError. Conditions: none.
  By an AI agent.
-/
import Derived.Test.YtnlonleljbbgoaaGreatDoorKf02
import Derived.Test.YtnlonleljbbgoaaGreatDoorKf01
import Derived.Test.YtnlonleljbbgoaaGreatDoorKe07
namespace Go.Proofs.YtnlonleljbbgoaaGreatDoor
open Go.RowKit

set_option maxHeartbeats 2000000 in
set_option maxRecDepth 100000 in
/-- text.LinkText of a target alone -/
theorem linkAlone_any (t : ByteArray) (w : World) (ht : t.size ≤ 1048576) :
    Calls Tryz.prog 159 #[.string t, .string ⟨#[]⟩] w fun e w' => (∃ s, e = .returned (.tuple #[.string s, .int .i64 (if isTgt t then 0 else 3)])) ∧ Below w.heap.size w w' := by
  cases h1 : isTgt t
  · go_enter Tryz.func159, Tryz.ntmps159
    go_wp2_with fail
    refine (isTarget_any t _ (by omega)).mono ?_
    rintro e w1 ⟨rfl, rfl⟩
    rw [h1]
    go_wp2_with fail
    go_ret2
    exact ⟨⟨_, rfl⟩, Below.refl _ _⟩
  · have hAs : Asc ⟨#[91, 93]⟩ := by
      intro i h
      have : i < 2 := h
      match i, this with
      | 0, _ => exact (by decide : (91 : UInt8).toNat < 128)
      | 1, _ => exact (by decide : (93 : UInt8).toNat < 128)
    have HCA := Lib.hid fun W => containsAnyU_asc ⟨#[91, 93]⟩ hAs (by decide) (by decide) ⟨#[]⟩ W (by decide)
    have hu : upto (isAny (⟨#[91, 93]⟩ : ByteArray).data.toList) ⟨#[]⟩ 0 = 0 := upto_out (Nat.le_refl _)
    simp only [hu] at HCA
    clear hu hAs
    go_enter Tryz.func159, Tryz.ntmps159
    go_wp2_with fail
    refine (isTarget_any t _ (by omega)).mono ?_
    rintro e w1 ⟨rfl, rfl⟩
    rw [h1]
    go_wp2_with fail
    refine (HCA.out _).mono ?_
    rintro e w1 ⟨rfl, hb⟩
    rw [show decide (0 < (⟨#[]⟩ : ByteArray).size) = false from rfl]
    have HB := Lib.hid hb
    clear hb
    go_wp2_with fail
    go_ret2
    exact ⟨⟨_, rfl⟩, HB.out⟩
set_option maxHeartbeats 2000000 in
set_option maxRecDepth 100000 in
/-- ask.isTarget -/
theorem askTarget_any (t : ByteArray) (w : World) (ht : t.size ≤ 1048576) :
    Calls Tryz.prog 116 #[.string t] w fun e w' => e = .returned (.bool (isTgt t)) ∧ Below w.heap.size w w' := by
  have HL := Lib.hid (linkAlone_any t w ht)
  obtain ⟨q, hq⟩ : ∃ q, isTgt t = q := ⟨_, rfl⟩
  rw [hq] at HL ⊢
  clear hq
  cases q
  · go_enter Tryz.func116, Tryz.ntmps116
    go_wp2_with fail
    refine HL.out.mono ?_
    rintro e w1 ⟨⟨s, rfl⟩, hb⟩
    have HB := Lib.hid hb
    clear hb
    rw [if_neg (by decide)]
    go_wp2_with fail
    go_ret
    exact ⟨rfl, HB.out⟩
  · go_enter Tryz.func116, Tryz.ntmps116
    go_wp2_with fail
    refine HL.out.mono ?_
    rintro e w1 ⟨⟨s, rfl⟩, hb⟩
    have HB := Lib.hid hb
    clear hb
    rw [if_pos trivial]
    go_wp2_with fail
    go_ret
    exact ⟨rfl, HB.out⟩
theorem tagFull_iff (s : ByteArray) : tagFull s = true ↔ textsK 6 (spans (hS s)) = [.string s] := ⟨tag_of_full, full_of_tag⟩
theorem textsK_str (k : Int) : ∀ (l : List Sp), ∀ u ∈ textsK k l, ∃ s, u = .string s := by
  intro l u hu
  unfold textsK at hu
  obtain ⟨x, _, hv⟩ := List.mem_flatMap.1 hu
  split at hv
  · exact ⟨x.text, by simpa using hv⟩
  · cases hv
set_option maxHeartbeats 2000000 in
set_option maxRecDepth 100000 in
/-- ask.isTag -/
theorem askTag_any (s : ByteArray) (w : World) (hs : s.size < 1048576) :
    Calls Tryz.prog 117 #[.string s] w fun e w' => e = .returned (.bool (tagFull s)) ∧ Below w.heap.size w w' := by
  have HT := Lib.hid (tags_any (hS s) w (by rw [hS_size]; omega))
  have hadd : ∀ W, (Op.stringOp .add (⟨#[35]⟩ : ByteArray) s).run Tryz.prog W = .ok (.string (hS s)) W := fun W => run_string_add_sum W _ _ (by show 1 + s.size ≤ _; omega)
  obtain ⟨T, hT⟩ : ∃ T, T = textsK 6 (spans (hS s)) := ⟨_, rfl⟩
  have HQ : Hid (tagFull s = true ↔ T = [.string s]) := by show _ ↔ _; rw [hT]; exact tagFull_iff s
  have HST := Lib.hid (textsK_str 6 (spans (hS s)))
  rw [← hT] at HT HST
  clear hT
  go_enter Tryz.func117, Tryz.ntmps117
  go_wp2_with fail
  refine HT.out.mono ?_
  rintro e w1 ⟨v, rfl, hown, hb⟩
  have HB := Lib.hid hb
  have HRD := Lib.hid (own_reads hown)
  clear hb hown
  obtain ⟨A, c, rfl, hr⟩ := HRD.out
  match T, HQ, HST, hr with
  | [], HQ, _, _ =>
    have HQ2 : Hid (tagFull s = false) := Bool.eq_false_iff.2 fun h => by have := HQ.out.1 h; cases this
    clear HQ
    go_wp2_with fail
    go_ret
    exact ⟨by rw [HQ2.out]; rfl, HB.out⟩
  | [u], HQ, HST, hr =>
    obtain ⟨t, rfl⟩ := HST.out u (by simp)
    obtain ⟨b, off, rfl, _, hc⟩ := hr.plain (by simp) (by omega)
    have c0 : w1.cell? ⟨b, off, none⟩ = some (.string t) := by simpa using hc 0 _ rfl
    have HQ2 : Hid (tagFull s = (t.toList == s.toList)) := by
      show _ = _
      rw [← dec_toList, Bool.eq_iff_iff, HQ.out, decide_eq_true_iff]
      simp
    have HR := Lib.hid hr
    clear hr hc HQ HST
    go_wp2_with fail
    go_ret
    exact ⟨by rw [HQ2.out]; rfl, HB.out⟩
  | u1 :: u2 :: r, HQ, _, _ =>
    have e1 : (((u1 :: u2 :: r).length : Int) == 1) = false := by
      rw [beq_eq_false_iff_ne, List.length_cons, List.length_cons]
      omega
    have HQ2 : Hid (tagFull s = false) := Bool.eq_false_iff.2 fun h => by have := HQ.out.1 h; cases this
    clear HQ
    obtain ⟨N, hN⟩ : ∃ N, N = (u1 :: u2 :: r).length := ⟨_, rfl⟩
    rw [← hN] at e1 ⊢
    clear hN
    go_wp2_with fail
    go_ret
    exact ⟨by rw [HQ2.out]; rfl, HB.out⟩
end Go.Proofs.YtnlonleljbbgoaaGreatDoor
namespace Go.Proofs.YtnlonleljbbgoaaGreatDoor
open Go.RowKit

set_option maxHeartbeats 4000000 in
set_option maxRecDepth 100000 in
/-- ask.isZero -/
theorem isZero_any (v : Vl) (Ai : Option Addr) (ni ci : Nat) (w : World) (hn : ni = v.items.length) :
    Calls Tryz.prog 157 #[AV (v, .slice Ai ni ci)] w fun e w' => e = .returned (.bool (zeroB v)) ∧ Below w.heap.size w w' := by
  obtain ⟨q1, h1⟩ : ∃ q, (v.kind == 0) = q := ⟨_, rfl⟩
  obtain ⟨q2, h2⟩ : ∃ q, (v.int_ == 0) = q := ⟨_, rfl⟩
  obtain ⟨q3, h3⟩ : ∃ q, (v.to_ == 0) = q := ⟨_, rfl⟩
  obtain ⟨q4, h4⟩ : ∃ q, (v.text.toList == []) = q := ⟨_, rfl⟩
  obtain ⟨q5, h5⟩ : ∃ q, ((ni : Int) == 0) = q := ⟨_, rfl⟩
  have hem : v.text.toList.isEmpty = q4 := by rw [← h4]; cases v.text.toList <;> rfl
  have HZ : Hid (zeroB v = (q1 && q2 && q3 && q4 && q5)) := by
    show _ = _
    unfold zeroB
    rw [h1, h2, h3, h4, ← h5, hn]
    cases v.items with
    | nil => simp
    | cons a l => simp; omega
  clear hn
  have HB := Lib.hid ((Below.refl w.heap.size w).alloc (Nat.le_refl _) (.cells #[.int .i64 v.kind, .int .i64 v.int_, .int .i64 v.to_, .string v.text, .slice Ai ni ci] 24))
  unfold AV
  dsimp only
  go_enter Tryz.func157, Tryz.ntmps157
  cases q1
  · go_wp2_with fail
    go_ret
    exact ⟨by rw [HZ.out]; simp, HB.out⟩
  cases q2
  · go_wp2_with fail
    go_ret
    exact ⟨by rw [HZ.out]; simp, HB.out⟩
  cases q3
  · go_wp2_with fail
    go_ret
    exact ⟨by rw [HZ.out]; simp, HB.out⟩
  cases q4
  · go_wp2_with fail
    go_ret
    exact ⟨by rw [HZ.out]; simp, HB.out⟩
  cases q5
  · go_wp2_with fail
    go_ret
    exact ⟨by rw [HZ.out]; simp, HB.out⟩
  go_wp2_with fail
  go_ret
  exact ⟨by rw [HZ.out]; rfl, HB.out⟩
set_option maxHeartbeats 16000000 in
set_option maxRecDepth 100000 in
/-- ask.checkForm -/
theorem checkForm_any (c : Cd) (Ai : Option Addr) (ni ci : Nat) (Ak : Option Addr) (nk ck : Nat) (w : World) (hni : ni = c.val.items.length) (hnk : nk = c.kids.length) :
    Calls Tryz.prog 114 #[ACd (c, .slice Ai ni ci, .slice Ak nk ck)] w fun e w' => e = .returned (.int .i64 (fmE c)) ∧ Below w.heap.size w w' := by
  have HIZ := Lib.hid fun W => isZero_any c.val Ai ni ci W hni
  unfold AV at HIZ
  dsimp only at HIZ
  obtain ⟨z1, hz1⟩ : ∃ q, decide (c.op < 1) = q := ⟨_, rfl⟩
  obtain ⟨z2, hz2⟩ : ∃ q, decide (17 < c.op) = q := ⟨_, rfl⟩
  obtain ⟨qN, hqN⟩ : ∃ q, uN c.op = q := ⟨_, rfl⟩
  obtain ⟨qT, hqT⟩ : ∃ q, uT c.op = q := ⟨_, rfl⟩
  obtain ⟨qV, hqV⟩ : ∃ q, uV c.op = q := ⟨_, rfl⟩
  obtain ⟨qM, hqM⟩ : ∃ q, uM c.op = q := ⟨_, rfl⟩
  obtain ⟨kk, hkk⟩ : ∃ q, uK c.op = q := ⟨_, rfl⟩
  obtain ⟨b1, hb1⟩ : ∃ q, (c.name.toList != []) = q := ⟨_, rfl⟩
  obtain ⟨b2, hb2⟩ : ∃ q, (c.text.toList != []) = q := ⟨_, rfl⟩
  obtain ⟨b3, hb3⟩ : ∃ q, zeroB c.val = q := ⟨_, rfl⟩
  obtain ⟨b4, hb4⟩ : ∃ q, (c.num != 0) = q := ⟨_, rfl⟩
  obtain ⟨q5, hq5⟩ : ∃ q, decide (0 ≤ kk) = q := ⟨_, rfl⟩
  obtain ⟨b5, hb5⟩ : ∃ q, ((nk : Int) != kk) = q := ⟨_, rfl⟩
  have hm1 : c.name.toList.isEmpty = !b1 := by rw [← hb1]; cases c.name.toList <;> rfl
  have hm2 : c.text.toList.isEmpty = !b2 := by rw [← hb2]; cases c.text.toList <;> rfl
  have HF : Hid (fmE c = if (z1 || z2) = true then 10 else if (!qN && b1 || !qT && b2 || !qV && !b3 || !qM && b4 || q5 && b5) = true then 1 else 0) := by
    show _ = _
    unfold fmE formB
    rw [hqN, hqT, hqV, hqM, hkk, hb1, hb2, hb3, hb4, hq5, ← hnk, hb5]
    by_cases h1 : c.op < 1
    · rw [if_pos (.inl h1), ← hz1, decide_eq_true h1, if_pos (by rfl)]
    · by_cases h2 : 17 < c.op
      · rw [if_pos (.inr h2), ← hz2, decide_eq_true h2, if_pos (by simp)]
      · rw [if_neg (by omega), ← hz1, ← hz2, decide_eq_false h1, decide_eq_false h2, if_neg (show ¬ ((false || false) = true) by decide)]
  have HU := Lib.hid (uses_any c.op w)
  have HUS := Lib.hid fun W => uses_any c.op W
  rw [hb3] at HIZ
  simp only [hqN, hqT, hqV, hqM, hkk] at HUS
  clear hni hnk HU hqN hqT hqV hqM hkk hb3
  unfold ACd
  dsimp only
  obtain ⟨wb, hwb⟩ : ∃ wb, wb = w.alloc (.cells #[.int .i64 c.op, .string c.name, .string c.text, .int .i64 c.val.kind, .int .i64 c.val.int_, .int .i64 c.val.to_, .string c.val.text, .slice Ai ni ci, .int .i64 c.num, .slice Ak nk ck] 27) := ⟨_, rfl⟩
  have hbwb : Below w.heap.size w wb := by rw [hwb]; exact (Below.refl _ _).alloc (Nat.le_refl _) _
  have kwb : Blk wb w.heap.size 27 #[.int .i64 c.op, .string c.name, .string c.text, .int .i64 c.val.kind, .int .i64 c.val.int_, .int .i64 c.val.to_, .string c.val.text, .slice Ai ni ci, .int .i64 c.num, .slice Ak nk ck] := by rw [hwb]; exact Blk.new _ _ _
  have x0 := kwb.cell 0
  have x1 := kwb.cell 1
  have x2 := kwb.cell 2
  have x3 := kwb.cell 3
  have x4 := kwb.cell 4
  have x5 := kwb.cell 5
  have x6 := kwb.cell 6
  have x7 := kwb.cell 7
  have x8 := kwb.cell 8
  have x9 := kwb.cell 9
  have HBwb := Lib.hid hbwb
  have HKwb := Lib.hid kwb
  have HEwb := Lib.hid hwb
  clear hwb hbwb kwb
  go_enter Tryz.func114, Tryz.ntmps114
  go_upto_region 1 with fail
  rw [← HEwb.out]
  cases z1
  case true =>
    go_wp2_with fail
    go_ret
    exact ⟨by rw [HF.out]; simp, HBwb.out⟩
  cases z2
  case true =>
    go_wp2_with fail
    go_ret
    exact ⟨by rw [HF.out]; simp, HBwb.out⟩
  go_wp2_with fail
  refine (HUS.out wb).mono ?_
  rintro e w1 ⟨rfl, rfl⟩
  go_upto_region 4 with fail
  cases qN
  · cases b1
    · cases qT
      · cases b2
        · cases qV
          · go_wp2_with fail
            refine (HIZ.out _).mono ?_
            rintro e w2 ⟨rfl, hb⟩
            have HB2 : Hid (Below w.heap.size w w2) := HBwb.out.trans (hb.mono HBwb.out.size)
            have HK2 := Lib.hid (HKwb.out.below hb HKwb.out.lt)
            have y8 := HK2.out.cell 8
            have y9 := HK2.out.cell 9
            clear hb
            cases b3
            · go_wp2_with fail
              go_ret
              exact ⟨by rw [HF.out]; simp, HB2.out⟩
            cases qM
            · cases b4
              · cases q5
                · go_wp2_with fail
                  go_ret
                  exact ⟨by rw [HF.out]; simp, HB2.out⟩
                cases b5
                · go_wp2_with fail
                  go_ret
                  exact ⟨by rw [HF.out]; simp, HB2.out⟩
                go_wp2_with fail
                go_ret
                exact ⟨by rw [HF.out]; simp, HB2.out⟩
              · go_wp2_with fail
                go_ret
                exact ⟨by rw [HF.out]; simp, HB2.out⟩
            cases q5
            · go_wp2_with fail
              go_ret
              exact ⟨by rw [HF.out]; simp, HB2.out⟩
            cases b5
            · go_wp2_with fail
              go_ret
              exact ⟨by rw [HF.out]; simp, HB2.out⟩
            go_wp2_with fail
            go_ret
            exact ⟨by rw [HF.out]; simp, HB2.out⟩
          cases qM
          · cases b4
            · cases q5
              · go_wp2_with fail
                go_ret
                exact ⟨by rw [HF.out]; simp, HBwb.out⟩
              cases b5
              · go_wp2_with fail
                go_ret
                exact ⟨by rw [HF.out]; simp, HBwb.out⟩
              go_wp2_with fail
              go_ret
              exact ⟨by rw [HF.out]; simp, HBwb.out⟩
            · go_wp2_with fail
              go_ret
              exact ⟨by rw [HF.out]; simp, HBwb.out⟩
          cases q5
          · go_wp2_with fail
            go_ret
            exact ⟨by rw [HF.out]; simp, HBwb.out⟩
          cases b5
          · go_wp2_with fail
            go_ret
            exact ⟨by rw [HF.out]; simp, HBwb.out⟩
          go_wp2_with fail
          go_ret
          exact ⟨by rw [HF.out]; simp, HBwb.out⟩
        · go_wp2_with fail
          go_ret
          exact ⟨by rw [HF.out]; simp, HBwb.out⟩
      cases qV
      · go_wp2_with fail
        refine (HIZ.out _).mono ?_
        rintro e w2 ⟨rfl, hb⟩
        have HB2 : Hid (Below w.heap.size w w2) := HBwb.out.trans (hb.mono HBwb.out.size)
        have HK2 := Lib.hid (HKwb.out.below hb HKwb.out.lt)
        have y8 := HK2.out.cell 8
        have y9 := HK2.out.cell 9
        clear hb
        cases b3
        · go_wp2_with fail
          go_ret
          exact ⟨by rw [HF.out]; simp, HB2.out⟩
        cases qM
        · cases b4
          · cases q5
            · go_wp2_with fail
              go_ret
              exact ⟨by rw [HF.out]; simp, HB2.out⟩
            cases b5
            · go_wp2_with fail
              go_ret
              exact ⟨by rw [HF.out]; simp, HB2.out⟩
            go_wp2_with fail
            go_ret
            exact ⟨by rw [HF.out]; simp, HB2.out⟩
          · go_wp2_with fail
            go_ret
            exact ⟨by rw [HF.out]; simp, HB2.out⟩
        cases q5
        · go_wp2_with fail
          go_ret
          exact ⟨by rw [HF.out]; simp, HB2.out⟩
        cases b5
        · go_wp2_with fail
          go_ret
          exact ⟨by rw [HF.out]; simp, HB2.out⟩
        go_wp2_with fail
        go_ret
        exact ⟨by rw [HF.out]; simp, HB2.out⟩
      cases qM
      · cases b4
        · cases q5
          · go_wp2_with fail
            go_ret
            exact ⟨by rw [HF.out]; simp, HBwb.out⟩
          cases b5
          · go_wp2_with fail
            go_ret
            exact ⟨by rw [HF.out]; simp, HBwb.out⟩
          go_wp2_with fail
          go_ret
          exact ⟨by rw [HF.out]; simp, HBwb.out⟩
        · go_wp2_with fail
          go_ret
          exact ⟨by rw [HF.out]; simp, HBwb.out⟩
      cases q5
      · go_wp2_with fail
        go_ret
        exact ⟨by rw [HF.out]; simp, HBwb.out⟩
      cases b5
      · go_wp2_with fail
        go_ret
        exact ⟨by rw [HF.out]; simp, HBwb.out⟩
      go_wp2_with fail
      go_ret
      exact ⟨by rw [HF.out]; simp, HBwb.out⟩
    · go_wp2_with fail
      go_ret
      exact ⟨by rw [HF.out]; simp, HBwb.out⟩
  cases qT
  · cases b2
    · cases qV
      · go_wp2_with fail
        refine (HIZ.out _).mono ?_
        rintro e w2 ⟨rfl, hb⟩
        have HB2 : Hid (Below w.heap.size w w2) := HBwb.out.trans (hb.mono HBwb.out.size)
        have HK2 := Lib.hid (HKwb.out.below hb HKwb.out.lt)
        have y8 := HK2.out.cell 8
        have y9 := HK2.out.cell 9
        clear hb
        cases b3
        · go_wp2_with fail
          go_ret
          exact ⟨by rw [HF.out]; simp, HB2.out⟩
        cases qM
        · cases b4
          · cases q5
            · go_wp2_with fail
              go_ret
              exact ⟨by rw [HF.out]; simp, HB2.out⟩
            cases b5
            · go_wp2_with fail
              go_ret
              exact ⟨by rw [HF.out]; simp, HB2.out⟩
            go_wp2_with fail
            go_ret
            exact ⟨by rw [HF.out]; simp, HB2.out⟩
          · go_wp2_with fail
            go_ret
            exact ⟨by rw [HF.out]; simp, HB2.out⟩
        cases q5
        · go_wp2_with fail
          go_ret
          exact ⟨by rw [HF.out]; simp, HB2.out⟩
        cases b5
        · go_wp2_with fail
          go_ret
          exact ⟨by rw [HF.out]; simp, HB2.out⟩
        go_wp2_with fail
        go_ret
        exact ⟨by rw [HF.out]; simp, HB2.out⟩
      cases qM
      · cases b4
        · cases q5
          · go_wp2_with fail
            go_ret
            exact ⟨by rw [HF.out]; simp, HBwb.out⟩
          cases b5
          · go_wp2_with fail
            go_ret
            exact ⟨by rw [HF.out]; simp, HBwb.out⟩
          go_wp2_with fail
          go_ret
          exact ⟨by rw [HF.out]; simp, HBwb.out⟩
        · go_wp2_with fail
          go_ret
          exact ⟨by rw [HF.out]; simp, HBwb.out⟩
      cases q5
      · go_wp2_with fail
        go_ret
        exact ⟨by rw [HF.out]; simp, HBwb.out⟩
      cases b5
      · go_wp2_with fail
        go_ret
        exact ⟨by rw [HF.out]; simp, HBwb.out⟩
      go_wp2_with fail
      go_ret
      exact ⟨by rw [HF.out]; simp, HBwb.out⟩
    · go_wp2_with fail
      go_ret
      exact ⟨by rw [HF.out]; simp, HBwb.out⟩
  cases qV
  · go_wp2_with fail
    refine (HIZ.out _).mono ?_
    rintro e w2 ⟨rfl, hb⟩
    have HB2 : Hid (Below w.heap.size w w2) := HBwb.out.trans (hb.mono HBwb.out.size)
    have HK2 := Lib.hid (HKwb.out.below hb HKwb.out.lt)
    have y8 := HK2.out.cell 8
    have y9 := HK2.out.cell 9
    clear hb
    cases b3
    · go_wp2_with fail
      go_ret
      exact ⟨by rw [HF.out]; simp, HB2.out⟩
    cases qM
    · cases b4
      · cases q5
        · go_wp2_with fail
          go_ret
          exact ⟨by rw [HF.out]; simp, HB2.out⟩
        cases b5
        · go_wp2_with fail
          go_ret
          exact ⟨by rw [HF.out]; simp, HB2.out⟩
        go_wp2_with fail
        go_ret
        exact ⟨by rw [HF.out]; simp, HB2.out⟩
      · go_wp2_with fail
        go_ret
        exact ⟨by rw [HF.out]; simp, HB2.out⟩
    cases q5
    · go_wp2_with fail
      go_ret
      exact ⟨by rw [HF.out]; simp, HB2.out⟩
    cases b5
    · go_wp2_with fail
      go_ret
      exact ⟨by rw [HF.out]; simp, HB2.out⟩
    go_wp2_with fail
    go_ret
    exact ⟨by rw [HF.out]; simp, HB2.out⟩
  cases qM
  · cases b4
    · cases q5
      · go_wp2_with fail
        go_ret
        exact ⟨by rw [HF.out]; simp, HBwb.out⟩
      cases b5
      · go_wp2_with fail
        go_ret
        exact ⟨by rw [HF.out]; simp, HBwb.out⟩
      go_wp2_with fail
      go_ret
      exact ⟨by rw [HF.out]; simp, HBwb.out⟩
    · go_wp2_with fail
      go_ret
      exact ⟨by rw [HF.out]; simp, HBwb.out⟩
  cases q5
  · go_wp2_with fail
    go_ret
    exact ⟨by rw [HF.out]; simp, HBwb.out⟩
  cases b5
  · go_wp2_with fail
    go_ret
    exact ⟨by rw [HF.out]; simp, HBwb.out⟩
  go_wp2_with fail
  go_ret
  exact ⟨by rw [HF.out]; simp, HBwb.out⟩
end Go.Proofs.YtnlonleljbbgoaaGreatDoor
namespace Go.Proofs.YtnlonleljbbgoaaGreatDoor
open Go.RowKit

/-- the error of what is sorted by -/
def sortE (s : ByteArray) : Int := if isByL s then 0 else 3
set_option maxHeartbeats 1000000 in
set_option maxRecDepth 100000 in
/-- the reference's SortError -/
theorem sortError_any (s : ByteArray) (w : World) :
    Calls Tryz.prog 22 #[.string s] w fun e w' => e = .returned (.int .i64 (sortE s)) ∧ w' = w := by
  obtain ⟨q1, h1⟩ : ∃ q, (s.toList == [64, 105, 100]) = q := ⟨_, rfl⟩
  obtain ⟨q2, h2⟩ : ∃ q, (s.toList == [64, 116, 101, 120, 116]) = q := ⟨_, rfl⟩
  obtain ⟨q3, h3⟩ : ∃ q, (s.toList == [64, 100, 101, 112, 116, 104]) = q := ⟨_, rfl⟩
  obtain ⟨er, her⟩ : ∃ er, nmErr s = er := ⟨_, rfl⟩
  have HE : Hid (isByL s = (q1 || q2 || q3 || decide (er = 0))) := by
    show isByL s = _
    rw [← h1, ← h2, ← h3, ← her, isByL, dec_toList, dec_toList, dec_toList, idS_list, textS_list, depthS_list]
  have HC := Lib.hid (checkName_any s w)
  rw [her] at HC
  have HF : Hid (sortE s = if (q1 || q2 || q3 || decide (er = 0)) then 0 else 3) := by show sortE s = _; rw [sortE, HE.out]
  clear her
  go_enter Tryz.func22, Tryz.ntmps22
  cases q1
  · cases q2
    · cases q3
      · go_wp2_with fail
        refine HC.out.mono ?_
        rintro e w1 ⟨rfl, hb⟩
        have HB := Lib.hid hb
        clear hb
        by_cases h0 : er = 0
        · subst h0
          go_wp2_with fail
          go_ret
          exact ⟨by rw [HF.out]; rfl, HB.out⟩
        · have hq : (er == 0) = false := by simpa using h0
          have HZ : Hid (decide (er = 0) = false) := decide_eq_false h0
          clear h0
          go_wp2_with fail
          go_ret
          exact ⟨by rw [HF.out, HZ.out]; rfl, HB.out⟩
      · go_wp2_with fail
        go_ret
        exact ⟨by rw [HF.out]; rfl, rfl⟩
    · go_wp2_with fail
      go_ret
      exact ⟨by rw [HF.out]; rfl, rfl⟩
  · go_wp2_with fail
    go_ret
    exact ⟨by rw [HF.out]; rfl, rfl⟩
end Go.Proofs.YtnlonleljbbgoaaGreatDoor
