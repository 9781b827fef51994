/-
  DERIVED. Plain law: a right value, as it is written, is read as itself. Conditions: none.
  By an AI agent.
-/
import Derived.Test.YtbdcimakdiegnaaGreatDoorVa15
namespace Go.Proofs.YtbdcimakdiegnaaGreatDoor
open cal

theorem dForm_at {x : List UInt8} (h : dForm x = true) : (x.getD 4 0 == 45) = true ∧ (x.take 4).all isDg = true := by
  unfold dForm at h
  simp only [Bool.and_eq_true, List.all_append] at h
  exact ⟨h.1.1.2, h.2.1.1⟩
theorem dateB_no {t : List UInt8} (h : (t.getD 4 0 == 45) = false ∨ (t.take 4).all isDg = false) : dateB t = false := by
  cases e : dateB t
  · rfl
  · unfold dateB at e
    rw [Bool.and_eq_true] at e
    obtain ⟨h1, h2⟩ := dForm_at e.2
    rw [List.take_take, show min 4 10 = 4 from rfl] at h2
    have h3 : (t.take 10).getD 4 0 = t.getD 4 0 := by
      simp only [List.getD_eq_getElem?_getD, List.getElem?_take]
      rfl
    rw [h3] at h1
    rcases h with h | h
    · rw [h] at h1; cases h1
    · rw [h] at h2; cases h2
theorem stop_head {r : List UInt8} (h : StopR r) : r = [] ∨ ∃ c x, r = c :: x ∧ isDg c = false ∧ (c == 45) = false := by
  rcases h with rfl | ⟨x, rfl | rfl⟩
  · exact .inl rfl
  · exact .inr ⟨44, x, rfl, rfl, rfl⟩
  · exact .inr ⟨93, x, rfl, rfl, rfl⟩
/-- a number is no date -/
theorem num_nodate {l r : List UInt8} (h : l.all isDg = true) (h0 : l ≠ []) (hr : StopR r) : dateB (l ++ r) = false := by
  rcases stop_head hr with rfl | ⟨q, x, rfl, hq, hq'⟩
  · rw [List.append_nil]
    apply dateB_no
    rcases Nat.lt_or_ge 4 l.length with h1 | h1
    · left
      rw [List.getD_eq_getElem?_getD, List.getElem?_eq_getElem h1, Option.getD_some]
      have h2 := List.all_eq_true.1 h _ (List.getElem_mem h1)
      cases e : l[4] == 45
      · rfl
      · rw [beq_iff_eq] at e
        rw [e] at h2; cases h2
    · left
      rw [List.getD_eq_getElem?_getD, List.getElem?_eq_none h1]
      rfl
  · apply dateB_no
    match l, h, h0 with
    | [a], _, _ => right; simp [hq]
    | [a, b], _, _ => right; simp [hq]
    | [a, b, c], _, _ => right; simp [hq]
    | [a, b, c, d], _, _ => left; simpa using hq'
    | a :: b :: c :: d :: e :: l, h, _ =>
      left
      simp only [List.all_cons, Bool.and_eq_true] at h
      have h2 := h.2.2.2.2.1
      show (e == 45) = false
      cases ee : e == 45
      · rfl
      · rw [beq_iff_eq] at ee
        rw [ee] at h2; cases h2
theorem rdOne_num {c : UInt8} (x : List UInt8) (h : isDg c = true ∨ c = 45) : rdOne (c :: x) = if dateB (c :: x) = true then rdDays (c :: x) else if loneM (c :: x) = true then some (vI 0 0 0, x, false) else rdNum (c :: x) := by
  have n1 : (121 == c) = false := by
    rcases h with h | rfl
    · exact dg_ne h _ (by decide)
    · rfl
  have n2 : (110 == c) = false := by
    rcases h with h | rfl
    · exact dg_ne h _ (by decide)
    · rfl
  have n3 : (34 == c) = false := by
    rcases h with h | rfl
    · exact dg_ne h _ (by decide)
    · rfl
  unfold rdOne
  rw [pre_cons, pre_cons, pre_cons, n1, n2, n3]
  rfl
theorem rdOne_itoa {i : Int} (h : i.natAbs ≤ 1000000000) {r : List UInt8} (hr : StopR r) : rdOne (Lib.itoa i ++ r) = some (vI 2 i 0, r, false) := by
  have hn := rdNum_itoa h hr
  obtain ⟨c, x, hc, h1, h2⟩ := dd_cons i.natAbs
  rcases itoa_two i with ⟨_, e⟩ | ⟨_, e⟩
  · rw [e] at hn ⊢
    rw [List.cons_append] at hn ⊢
    rw [rdOne_num _ (.inr rfl), if_neg, if_neg, hn]
    · unfold loneM
      rw [hc]
      show ¬ ((pre [45] (45 :: (c :: x ++ r)) && !isDg c) = true)
      rw [h1]
      simp
    · rw [dateB_no (.inr (by simp [show isDg 45 = false from rfl]))]
      decide
  · rw [e] at hn ⊢
    have hd := num_nodate (dd_dg i.natAbs) (dd_ne _) hr
    rw [hc] at hn hd ⊢
    rw [List.cons_append] at hn hd ⊢
    rw [rdOne_num _ (.inl h1), hd, hn]
    unfold loneM
    rw [pre_cons, dg_ne h1 45 (by decide)]
    rfl
theorem rdOne_none {r : List UInt8} (hr : StopR r) : rdOne (45 :: r) = some (vI 0 0 0, r, false) := by
  rw [rdOne_num _ (.inr rfl), if_neg, if_pos]
  · unfold loneM
    rw [pre_cons, pre_nil]
    rcases stop_head hr with rfl | ⟨c, x, rfl, h1, _⟩
    · rfl
    · show (true && !isDg c) = true
      rw [h1]; rfl
  · rw [dateB_no (.inr (by simp [show isDg 45 = false from rfl]))]
    decide
theorem rdOne_date {d : Int} (h : 0 ≤ d) (h' : d ≤ 100000) {r : List UInt8} (hr : StopR r) : rdOne (datL d ++ r) = some (vI 4 d 0, r, false) := by
  obtain ⟨h1, _, _, _, c, x, h5, h6⟩ := dat_at h h' r
  have h7 := rdDays_date h h' hr
  rw [h5] at h1 h7 ⊢
  rw [rdOne_num _ (.inl h6), if_pos h1, h7]
theorem rdOne_span {d e : Int} (h : 0 ≤ d) (h' : d ≤ 100000) (g : 0 ≤ e) (g' : e ≤ 100000) (r : List UInt8) : rdOne (datL d ++ (46 :: 46 :: (datL e ++ r))) = some (vI 5 d e, r, false) := by
  obtain ⟨h1, _, _, _, c, x, h5, h6⟩ := dat_at h h' (46 :: 46 :: (datL e ++ r))
  have h7 := rdDays_span h h' g g' r
  rw [h5] at h1 h7 ⊢
  rw [rdOne_num _ (.inl h6), if_pos h1, h7]
theorem index_pair (r : List UInt8) : ∀ x : List UInt8, (∀ b ∈ x, b ≠ 93) → Lib.index (x ++ 93 :: 93 :: r) [93, 93] = x.length
  | [], _ => rfl
  | b :: x, h => by
    have ih := index_pair r x (fun c hc => h c (by simp [hc]))
    rw [List.cons_append]
    unfold Lib.index
    rw [if_neg, ih, if_neg]
    · rw [List.length_cons]; omega
    · simp
    · have : ((93 : UInt8) == b) = false := by
        have := h b (by simp)
        cases e : (93 : UInt8) == b
        · rfl
        · rw [beq_iff_eq] at e
          exact absurd e.symm this
      simp [List.isPrefixOf, this]
theorem rdLink_at {s : List UInt8} (h : ∀ b ∈ s, b ≠ 93) (r : List UInt8) : rdLink (91 :: 91 :: (s ++ 93 :: 93 :: r)) = some (vT 6 s, r, false) := by
  have e := index_pair r (91 :: 91 :: s) (by
    intro b hb
    rcases List.mem_cons.1 hb with rfl | hb
    · decide
    rcases List.mem_cons.1 hb with rfl | hb
    · decide
    exact h b hb)
  rw [show (91 :: 91 :: s) ++ 93 :: 93 :: r = 91 :: 91 :: (s ++ 93 :: 93 :: r) from rfl] at e
  unfold rdLink
  rw [e, if_neg (by simp only [List.length_cons]; omega)]
  rw [show (((91 :: 91 :: s).length : Nat) : Int).toNat = s.length + 2 from by simp only [List.length_cons]; omega]
  congr 2
  · show vT 6 ((s ++ 93 :: 93 :: r).take s.length) = _
    rw [List.take_append_of_le_length (Nat.le_refl _), List.take_length]
  · show ((s ++ 93 :: 93 :: r).drop (s.length + 2), false) = _
    rw [← List.drop_drop, List.drop_append_of_le_length (Nat.le_refl _), List.drop_length]
    rfl

/-! ### a right value -/
noncomputable def tx (v : Vl) : List UInt8 := (wrV v).data.toList
theorem ba_empty {s : ByteArray} (h : s.toList.isEmpty = true) : s = ⟨#[]⟩ := by
  rw [Lib.toList_data, List.isEmpty_iff] at h
  obtain ⟨⟨l⟩⟩ := s
  have : l = [] := h
  rw [this]
theorem ba_list (s : ByteArray) : (⟨s.data.toList.toArray⟩ : ByteArray) = s := rfl
theorem len_zero {l : List Vl} (h : ((l.length : Int) == 0) = true) : l = [] := by
  rw [beq_iff_eq] at h
  exact List.length_eq_zero_iff.1 (by omega)
/-- the forms of a right value -/
theorem right_forms {v : Vl} (h : vErr v = 0) :
    (v = vI 0 0 0) ∨ (∃ i, v = vI 1 i 0 ∧ 0 ≤ i ∧ i ≤ 1) ∨ (∃ i : Int, v = vI 2 i 0 ∧ i.natAbs ≤ 1000000000) ∨ (∃ s, v = .mk 3 0 0 s []) ∨ (∃ i, v = vI 4 i 0 ∧ 0 ≤ i ∧ i ≤ 100000)
    ∨ (∃ i t, v = vI 5 i t ∧ (0 ≤ i ∧ i ≤ 100000) ∧ (0 ≤ t ∧ t ≤ 100000)) ∨ (∃ s, v = .mk 6 0 0 s [] ∧ lkBad s = false) ∨ (∃ l, v = .mk 7 0 0 ⟨#[]⟩ l ∧ itErr l = 0 ∧ l.length ≤ 20) := by
  obtain ⟨⟨hk0, hk7⟩, hnu, ht, hl, hit⟩ := vErr_zero h
  have hu : ufB v = true := by
    rw [vErr_eq] at h
    cases h1 : ufB v
    · rw [h1, if_neg (by unfold outI; rw [decide_eq_false (by omega)]; decide), if_pos rfl] at h
      cases h
    · rfl
  have htt : ttErr (v.kind == 6) v.text = 0 := by
    rw [vErr_eq, if_neg (by unfold outI; rw [decide_eq_false (by omega)]; decide), if_neg (by rw [hu]; decide), if_neg (fun e => e hnu)] at h
    by_cases h2 : ttErr (v.kind == 6) v.text = 0
    · exact h2
    · rw [if_pos h2] at h; exact absurd h h2
  obtain ⟨n1, n2, n4, n5⟩ := nuErr_zero hnu
  obtain ⟨k, i, t, s, l⟩ := v
  dsimp only [Vl.kind, Vl.int_, Vl.to_, Vl.text, Vl.items] at *
  unfold ufB hasI hasT at hu
  dsimp only [Vl.kind, Vl.int_, Vl.to_, Vl.text, Vl.items] at hu
  simp only [Bool.and_eq_true] at hu
  obtain ⟨⟨⟨u1, u2⟩, u3⟩, u4⟩ := hu
  rcases (show k = 0 ∨ k = 1 ∨ k = 2 ∨ k = 3 ∨ k = 4 ∨ k = 5 ∨ k = 6 ∨ k = 7 by omega) with rfl | rfl | rfl | rfl | rfl | rfl | rfl | rfl
  · left
    obtain rfl : i = 0 := by simpa using u1
    obtain rfl : t = 0 := by simpa using u2
    obtain rfl := ba_empty (by simpa using u3)
    obtain rfl := len_zero (l := l) (by simpa using u4)
    rfl
  · right; left
    obtain rfl : t = 0 := by simpa using u2
    obtain rfl := ba_empty (by simpa using u3)
    obtain rfl := len_zero (l := l) (by simpa using u4)
    exact ⟨i, rfl, n1 rfl⟩
  · right; right; left
    obtain rfl : t = 0 := by simpa using u2
    obtain rfl := ba_empty (by simpa using u3)
    obtain rfl := len_zero (l := l) (by simpa using u4)
    exact ⟨i, rfl, n2 rfl⟩
  · right; right; right; left
    obtain rfl : i = 0 := by simpa using u1
    obtain rfl : t = 0 := by simpa using u2
    obtain rfl := len_zero (l := l) (by simpa using u4)
    exact ⟨s, rfl⟩
  · right; right; right; right; left
    obtain rfl : t = 0 := by simpa using u2
    obtain rfl := ba_empty (by simpa using u3)
    obtain rfl := len_zero (l := l) (by simpa using u4)
    exact ⟨i, rfl, n4 rfl⟩
  · right; right; right; right; right; left
    obtain rfl := ba_empty (by simpa using u3)
    obtain rfl := len_zero (l := l) (by simpa using u4)
    exact ⟨i, t, rfl, n5 rfl⟩
  · right; right; right; right; right; right; left
    obtain rfl : i = 0 := by simpa using u1
    obtain rfl : t = 0 := by simpa using u2
    obtain rfl := len_zero (l := l) (by simpa using u4)
    refine ⟨s, rfl, ?_⟩
    unfold ttErr at htt
    by_cases q1 : 2000 < s.size
    · rw [if_pos q1] at htt; cases htt
    rw [if_neg q1] at htt
    by_cases q2 : ((6 : Int) == 6) = true ∧ 100 < s.size
    · rw [if_pos q2] at htt; cases htt
    rw [if_neg q2] at htt
    cases q3 : ctl s
    · rw [q3, if_neg (by decide)] at htt
      cases q4 : lkBad s
      · rfl
      · rw [q4] at htt; exact absurd htt (by decide)
    · rw [q3, if_pos rfl] at htt; cases htt
  · right; right; right; right; right; right; right
    obtain rfl : i = 0 := by simpa using u1
    obtain rfl : t = 0 := by simpa using u2
    obtain rfl := ba_empty (by simpa using u3)
    exact ⟨l, rfl, hit, hl⟩
theorem any_neg {cs : List UInt8} : ∀ {l : List UInt8}, Lib.indexAny l cs < 0 → ∀ b ∈ l, cs.contains b = false
  | [], _, b, hb => by cases hb
  | c :: l, h, b, hb => by
    have hge := Lib.indexAny_ge cs l
    rw [Lib.indexAny] at h
    cases hc : cs.contains c
    · rw [hc, if_neg (by decide)] at h
      rcases List.mem_cons.1 hb with rfl | hb
      · exact hc
      · refine any_neg ?_ b hb
        by_cases e : Lib.indexAny l cs = -1
        · omega
        · rw [if_neg (by simpa using e)] at h
          omega
    · rw [hc, if_pos rfl] at h
      cases h
theorem lk_none {s : ByteArray} (h : lkBad s = false) : (∀ b ∈ s.data.toList, b ≠ 91 ∧ b ≠ 93) ∧ s.data.toList ≠ [] := by
  unfold lkBad at h
  simp only [Bool.or_eq_false_iff] at h
  obtain ⟨⟨⟨h1, _⟩, _⟩, h4⟩ := h
  refine ⟨?_, ?_⟩
  · have h5 : Lib.indexAny s.data.toList lkS.data.toList < 0 := by
      unfold lkAny at h4
      have := of_decide_eq_false h4
      omega
    intro b hb
    have h6 := any_neg h5 b hb
    constructor
    · rintro rfl; cases h6
    · rintro rfl; cases h6
  · intro e
    rw [Lib.toList_data, e] at h1
    cases h1
theorem tx_one {v : Vl} (h : vErr v = 0) (h7 : v.kind ≠ 7) (h6 : v.kind ≠ 6) {r : List UInt8} (hr : StopR r) : rdOne (tx v ++ r) = some (v, r, false) ∧ ∃ c x, tx v = c :: x ∧ c ≠ 91 ∧ c ≠ 93 := by
  rcases right_forms h with rfl | ⟨i, rfl, h0, h1⟩ | ⟨i, rfl, h0⟩ | ⟨s, rfl⟩ | ⟨i, rfl, h0, h1⟩ | ⟨i, t, rfl, ⟨h0, h1⟩, g0, g1⟩ | ⟨s, rfl, h0⟩ | ⟨l, rfl, h0⟩
  · exact ⟨rdOne_none hr, 45, [], rfl, by decide, by decide⟩
  · rcases (show i = 0 ∨ i = 1 by omega) with rfl | rfl
    · exact ⟨rfl, 110, _, rfl, by decide, by decide⟩
    · exact ⟨rfl, 121, _, rfl, by decide, by decide⟩
  · refine ⟨rdOne_itoa h0 hr, ?_⟩
    show ∃ c x, Lib.itoa i = c :: x ∧ _
    obtain ⟨c, x, hc, h1, h2⟩ := dd_cons i.natAbs
    rcases itoa_two i with ⟨_, e⟩ | ⟨_, e⟩
    · exact ⟨45, _, e, by decide, by decide⟩
    · rw [hc] at e
      refine ⟨c, x, e, ?_, ?_⟩
      · rintro rfl; cases h1
      · rintro rfl; cases h1
  · refine ⟨?_, 34, _, rfl, by decide, by decide⟩
    show rdOne (34 :: (escL s.data.toList ++ [34] ++ r)) = _
    have e := rdQuo_esc r s.data.toList
    rw [List.append_assoc]
    show rdOne (34 :: (escL s.data.toList ++ 34 :: r)) = _
    unfold rdOne
    rw [pre_cons, pre_cons, pre_cons, pre_nil]
    show ((rdQuo (escL s.data.toList ++ 34 :: r)).map fun p => (vT 3 p.1, p.2, false)) = _
    rw [e]
    rfl
  · refine ⟨rdOne_date h0 h1 hr, ?_⟩
    obtain ⟨_, _, _, _, c, x, h5, h6⟩ := dat_at h0 h1 []
    refine ⟨c, x, by rw [← h5, List.append_nil]; rfl, ?_, ?_⟩
    · rintro rfl; cases h6
    · rintro rfl; cases h6
  · refine ⟨?_, ?_⟩
    · have e := rdOne_span h0 h1 g0 g1 r
      have e2 : tx (vI 5 i t) ++ r = datL i ++ (46 :: 46 :: (datL t ++ r)) := by
        show (dtS i ++ ⟨#[46, 46]⟩ ++ dtS t : ByteArray).data.toList ++ r = _
        simp [dtS]
      rw [e2, e]
    · obtain ⟨_, _, _, _, c, x, h5, h6⟩ := dat_at h0 h1 (46 :: 46 :: datL t)
      have e2 : tx (vI 5 i t) = datL i ++ (46 :: 46 :: datL t) := by
        show (dtS i ++ ⟨#[46, 46]⟩ ++ dtS t : ByteArray).data.toList = _
        simp [dtS]
      refine ⟨c, x, by rw [e2, h5], ?_, ?_⟩
      · rintro rfl; cases h6
      · rintro rfl; cases h6
  · exact absurd rfl h6
  · exact absurd rfl h7
theorem tx_link {s : ByteArray} : tx (.mk 6 0 0 s []) = 91 :: 91 :: (s.data.toList ++ [93, 93]) := by
  show ((⟨#[91, 91]⟩ : ByteArray) ++ s ++ ⟨#[93, 93]⟩).data.toList = _
  simp
theorem tx_item {v : Vl} (h : vErr v = 0) (h7 : v.kind ≠ 7) {r : List UInt8} (hr : StopR r) : rdItem (tx v ++ r) = some (v, r, false) ∧ ((∃ c x, tx v = c :: x ∧ c ≠ 91 ∧ c ≠ 93) ∨ ∃ x, tx v = 91 :: 91 :: x) := by
  by_cases h6 : v.kind = 6
  · rcases right_forms h with rfl | ⟨i, rfl, h0, h1⟩ | ⟨i, rfl, h0⟩ | ⟨s, rfl⟩ | ⟨i, rfl, h0, h1⟩ | ⟨i, t, rfl, ⟨h0, h1⟩, g0, g1⟩ | ⟨s, rfl, h0⟩ | ⟨l, rfl, h0⟩
    · cases h6
    · cases h6
    · cases h6
    · cases h6
    · cases h6
    · cases h6
    · refine ⟨?_, .inr ⟨_, tx_link⟩⟩
      have e2 : tx (.mk 6 0 0 s []) ++ r = 91 :: 91 :: (s.data.toList ++ 93 :: 93 :: r) := by rw [tx_link]; simp
      obtain ⟨hs, _⟩ := lk_none h0
      have e := rdLink_at (s := s.data.toList) (fun b hb => (hs b hb).2) r
      rw [e2]
      unfold rdItem
      rw [if_pos (by simp [pre_cons, pre_nil]), e]
      rfl
    · cases h6
  · obtain ⟨e, c, x, hc, n1, n2⟩ := tx_one h h7 h6 hr
    refine ⟨?_, .inl ⟨c, x, hc, n1, n2⟩⟩
    rw [hc] at e ⊢
    rw [List.cons_append] at e ⊢
    have hb : ((91 : UInt8) == c) = false := by
      cases ee : (91 : UInt8) == c
      · rfl
      · rw [beq_iff_eq] at ee; exact absurd ee.symm n1
    unfold rdItem
    rw [pre_cons, pre_cons, hb, if_neg (by simp), if_neg (by simp), e]
theorem rdItems_wr (r : List UInt8) : ∀ (l : List Vl) (n : Nat), l ≠ [] → l.length ≤ n → itErr l = 0 → rdItems n (Lib.join (l.map tx) [44, 32] ++ 93 :: r) = some (l, r, false)
  | [], _, h, _, _ => absurd rfl h
  | [v], n, _, hn, hi => by
    obtain ⟨n, rfl⟩ : ∃ k, n = k + 1 := ⟨n - 1, by simp at hn; omega⟩
    obtain ⟨hv, h7, _⟩ := itErr_mem hi v (by simp)
    obtain ⟨e, _⟩ := tx_item hv h7 (r := 93 :: r) (.inr ⟨r, .inr rfl⟩)
    rw [List.map_cons, List.map_nil, Lib.join_one, rdItems, e]
    show (if pre [93] (93 :: r) = true then _ else _) = _
    rw [if_pos (by simp [pre_cons, pre_nil])]
    rfl
  | v :: y :: l, n, _, hn, hi => by
    obtain ⟨n, rfl⟩ : ∃ k, n = k + 1 := ⟨n - 1, by simp at hn; omega⟩
    obtain ⟨hv, h7, _⟩ := itErr_mem hi v (by simp)
    have hi2 : itErr (y :: l) = 0 := by
      obtain ⟨_, h7, h0⟩ := itErr_mem hi v (by simp)
      rw [itErr, if_neg (by simpa using h0), if_neg (by simpa using h7), if_neg (fun e => e hv)] at hi
      exact hi
    have ih := rdItems_wr r (y :: l) n (by simp) (by simp at hn ⊢; omega) hi2
    have hj : Lib.join ((v :: y :: l).map tx) [44, 32] = tx v ++ 44 :: 32 :: Lib.join ((y :: l).map tx) [44, 32] := by
      simp only [List.map_cons]
      rw [Lib.join_cons, Lib.join_cons]
      simp [Lib.joinTail]
    obtain ⟨e, _⟩ := tx_item hv h7 (r := 44 :: 32 :: (Lib.join ((y :: l).map tx) [44, 32] ++ 93 :: r)) (.inr ⟨_, .inl rfl⟩)
    rw [hj, List.append_assoc, List.cons_append, List.cons_append, rdItems, e]
    show (if pre [93] (44 :: 32 :: _) = true then _ else if pre [44, 32] (44 :: 32 :: _) = true then _ else _) = _
    rw [if_neg (by simp [pre_cons]), if_pos (by simp [pre_cons, pre_nil])]
    show ((rdItems n (Lib.join ((y :: l).map tx) [44, 32] ++ 93 :: r)).map fun p => (v :: p.1, p.2.1, false || p.2.2)) = _
    rw [ih]
    rfl
theorem tx_pos {v : Vl} (h : vErr v = 0) (h7 : v.kind ≠ 7) : 0 < (tx v).length := by
  obtain ⟨_, ⟨c, x, hc, _⟩ | ⟨x, hc⟩⟩ := tx_item h h7 (r := []) (.inl rfl)
  · rw [hc]; simp
  · rw [hc]; simp
theorem join_len : ∀ (l : List Vl), itErr l = 0 → l.length ≤ (Lib.join (l.map tx) [44, 32]).length
  | [], _ => by simp
  | [v], h => by
    obtain ⟨hv, h7, _⟩ := itErr_mem h v (by simp)
    have := tx_pos hv h7
    rw [List.map_cons, List.map_nil, Lib.join_one]
    exact this
  | v :: y :: l, h => by
    obtain ⟨hv, h7, h0⟩ := itErr_mem h v (by simp)
    have hi2 : itErr (y :: l) = 0 := by
      rw [itErr, if_neg (by simpa using h0), if_neg (by simpa using h7), if_neg (fun e => e hv)] at h
      exact h
    have ih := join_len (y :: l) hi2
    have hj : Lib.join ((v :: y :: l).map tx) [44, 32] = tx v ++ 44 :: 32 :: Lib.join ((y :: l).map tx) [44, 32] := by
      simp only [List.map_cons]
      rw [Lib.join_cons, Lib.join_cons]
      simp [Lib.joinTail]
    rw [hj]
    simp only [List.length_append, List.length_cons] at ih ⊢
    omega
/-- what is written is read -/
theorem rdVal_wr {v : Vl} (h : vErr v = 0) {r : List UInt8} (hr : StopR r) : rdVal (tx v ++ r) = some (v, r, false) := by
  by_cases h7 : v.kind = 7
  · rcases right_forms h with rfl | ⟨i, rfl, h0, h1⟩ | ⟨i, rfl, h0⟩ | ⟨s, rfl⟩ | ⟨i, rfl, h0, h1⟩ | ⟨i, t, rfl, ⟨h0, h1⟩, g0, g1⟩ | ⟨s, rfl, h0⟩ | ⟨l, rfl, hi, _⟩
    · cases h7
    · cases h7
    · cases h7
    · cases h7
    · cases h7
    · cases h7
    · cases h7
    · have e0 : tx (.mk 7 0 0 ⟨#[]⟩ l) ++ r = 91 :: (Lib.join (l.map tx) [44, 32] ++ 93 :: r) := by
        show (wrV _).data.toList ++ r = _
        rw [wrV_eq]
        show ((⟨#[91]⟩ : ByteArray) ++ joinB (l.map wrV) ⟨#[44, 32]⟩ ++ ⟨#[93]⟩).data.toList ++ r = _
        unfold joinB
        simp only [List.map_map]
        rw [show ((fun x : ByteArray => x.data.toList) ∘ wrV) = tx from rfl]
        simp
      rw [e0]
      rcases l with _ | ⟨y, l⟩
      · rfl
      · have hi' := rdItems_wr r (y :: l) ((Lib.join ((y :: l).map tx) [44, 32] ++ 93 :: r).length + 1) (by simp) (by have := join_len _ hi; rw [List.length_append]; omega) hi
        obtain ⟨hv, h7', _⟩ := itErr_mem hi y (by simp)
        obtain ⟨_, hx⟩ := tx_item hv h7' (r := []) (.inl rfl)
        have hj : ∃ z, Lib.join ((y :: l).map tx) [44, 32] ++ 93 :: r = tx y ++ z ∧ z ≠ [] := by
          rw [List.map_cons, Lib.join_cons, List.append_assoc]
          exact ⟨_, rfl, by simp⟩
        obtain ⟨z, hz, hz0⟩ := hj
        rw [hz] at hi' ⊢
        have hk : (pre [91, 91] (91 :: (tx y ++ z)) && !pre [91, 91, 91] (91 :: (tx y ++ z))) = false ∧ pre [93] (tx y ++ z) = false := by
          rcases hx with ⟨c, x, hc, n1, n2⟩ | ⟨x, hc⟩
          · have b1 : ((91 : UInt8) == c) = false := by
              cases ee : (91 : UInt8) == c
              · rfl
              · rw [beq_iff_eq] at ee; exact absurd ee.symm n1
            have b2 : ((93 : UInt8) == c) = false := by
              cases ee : (93 : UInt8) == c
              · rfl
              · rw [beq_iff_eq] at ee; exact absurd ee.symm n2
            rw [hc, List.cons_append]
            simp only [pre_cons, b1, b2]
            exact ⟨rfl, rfl⟩
          · rw [hc]
            exact ⟨rfl, rfl⟩
        unfold rdVal
        rw [if_pos (by simp [pre_cons, pre_nil]), if_neg (by rw [hk.1]; decide)]
        show rdList (tx y ++ z) = _
        unfold rdList
        rw [if_neg (by rw [hk.2]; decide), hi']
        rfl
  · by_cases h6 : v.kind = 6
    · rcases right_forms h with rfl | ⟨i, rfl, h0, h1⟩ | ⟨i, rfl, h0⟩ | ⟨s, rfl⟩ | ⟨i, rfl, h0, h1⟩ | ⟨i, t, rfl, ⟨h0, h1⟩, g0, g1⟩ | ⟨s, rfl, h0⟩ | ⟨l, rfl, h0⟩
      · cases h6
      · cases h6
      · cases h6
      · cases h6
      · cases h6
      · cases h6
      · obtain ⟨hs, hne⟩ := lk_none h0
        have e := rdLink_at (s := s.data.toList) (fun b hb => (hs b hb).2) r
        have e2 : tx (.mk 6 0 0 s []) ++ r = 91 :: 91 :: (s.data.toList ++ 93 :: 93 :: r) := by rw [tx_link]; simp
        rw [e2]
        rcases hq : s.data.toList with _ | ⟨c, x⟩
        · exact absurd hq hne
        · have hc := (hs c (by rw [hq]; simp)).1
          have b1 : ((91 : UInt8) == c) = false := by
            cases ee : (91 : UInt8) == c
            · rfl
            · rw [beq_iff_eq] at ee; exact absurd ee.symm hc
          rw [hq] at e
          unfold rdVal
          rw [if_pos (by simp [pre_cons, pre_nil]), if_pos (by simp [pre_cons, pre_nil, b1]), e]
          show some (Vl.mk 6 0 0 ⟨(c :: x).toArray⟩ [], r, false) = _
          rw [← hq, ba_list]
      · cases h6
    · obtain ⟨e, c, x, hc, n1, _⟩ := tx_one h h7 h6 hr
      rw [hc] at e ⊢
      rw [List.cons_append] at e ⊢
      have hb : ((91 : UInt8) == c) = false := by
        cases ee : (91 : UInt8) == c
        · rfl
        · rw [beq_iff_eq] at ee; exact absurd ee.symm n1
      unfold rdVal
      rw [pre_cons, hb, if_neg (by simp), e]
theorem rdAll_wr {v : Vl} (h : vErr v = 0) : rdAll (tx v) = (v, 0) := by
  have e := rdVal_wr h (r := []) (.inl rfl)
  rw [List.append_nil] at e
  unfold rdAll
  rw [e]
  rfl
theorem rdV_wr {v : Vl} (h : vErr v = 0) : rdV (tx v) = if 400000 < (tx v).length then (vI 0 0 0, 4) else (v, 0) := by
  unfold rdV
  rw [rdAll_wr h]
  by_cases hz : 400000 < (tx v).length
  · rw [if_pos hz, if_pos hz]
  · rw [if_neg hz, if_neg hz, if_neg (by simp), if_neg (fun e => e h)]
end Go.Proofs.YtbdcimakdiegnaaGreatDoor
