/-
  DERIVED. Plain law: what the reference makes of tokens is what the code makes. Conditions: none.
  The walk of florref1.SpansOf. Conditions: the text's size.
  By an AI agent.
-/
import Derived.Test.YtemngidkfgcigaaGreatDoorKa36
import Derived.Test.YtemngidkfgcigaaGreatDoorKa25
import Derived.Test.YtemngidkfgcigaaGreatDoorKa28
import Derived.Deep.DeepCutAuto
namespace Go.Proofs.YtemngidkfgcigaaGreatDoor
open Go.RowKit

/-- a span of the strengthened tokens -/
def stK (l : List Sp) (k : Nat) (x : Sp) : Sp := { x with kind := strK l (cnt l l.length / 2 * 2) k x.kind, strong := strF l (cnt l l.length / 2 * 2) k }
theorem stK_at {l : List Sp} {k : Nat} {x : Sp} (h : l[k]? = some x) : (strong l)[k]? = some (stK l k x) := strong_at h
theorem toks_bold (s : ByteArray) : ∀ x ∈ toks s 0, x.kind = 7 → x.text = s.extract x.frm x.to_ := by
  intro x hx hk
  have key : ∀ n a, ∀ x ∈ toksN s n a, x.kind = 7 → x.text = s.extract x.frm x.to_ := by
    intro n
    induction n with
    | zero => intro a x hx; cases hx
    | succ n ih =>
      intro a x hx hk
      simp only [toksN] at hx
      split at hx
      · rcases List.mem_cons.1 hx with rfl | hx
        · rcases tokA_cases s a with h | h | h | h | h | h | h
          · have := tokE_kind h; omega
          · have := tokC_kind h; omega
          · have := (tokL_inv h).kd; omega
          · have := tokR_kind h; omega
          · have := tokT_kind h; omega
          · generalize tokA s a = y at h
            unfold tokB at h
            split at h
            · rename_i c
              injection h with h
              subst h
              have i1 := bt_in (s := s) (i := a + 1) (by omega)
              apply ba_ext
              rw [ext_list2, show a + 2 - a = 2 by omega, drop_bt (by omega), drop_bt i1]
              have c0 := c.1
              have c1 := c.2
              rw [bt_at (by omega)] at c0
              rw [bt_at i1] at c1
              have d0 : s[a] = 42 := UInt8.toNat_inj.1 (by show _ = 42; omega)
              have d1 : s[a + 1] = 42 := UInt8.toNat_inj.1 (by show _ = 42; omega)
              rw [d0, d1]; rfl
            · cases h
          · rw [h] at hk; exact absurd (show (1 : Int) = 7 from hk) (by decide)
        · exact ih _ _ hx hk
      · cases hx
  exact key _ 0 x hx hk
theorem strK_cases (l : List Sp) (P k : Nat) (x : Sp) (h : l[k]? = some x) : strK l P k x.kind = (if x.kind = 7 ∧ P < cnt l (k + 1) then 1 else x.kind) := by
  unfold strK
  rw [bold_at h]
  by_cases c : x.kind = 7 ∧ P < cnt l (k + 1)
  · rw [if_pos c, if_pos (by simp [c.1, c.2])]
  · rw [if_neg c, if_neg]
    simp only [Bool.and_eq_true, beq_iff_eq, decide_eq_true_eq]
    exact c
/-- the text of a filled token is that of the filled span -/
theorem fill_stK {s : ByteArray} {k : Nat} {x : Sp} (h : (toks s 0)[k]? = some x) : fillT s (stK (toks s 0) k x) = { fillT s x with kind := (stK (toks s 0) k x).kind, strong := (stK (toks s 0) k x).strong } := by
  have hm := List.mem_of_getElem? h
  have hk : (stK (toks s 0) k x).kind = _ := strK_cases _ _ k x h
  unfold fillT
  by_cases e : x.kind = 1
  · have : (stK (toks s 0) k x).kind = 1 := by rw [hk, if_neg (by omega)]; exact e
    rw [if_pos this, if_pos e, this]
    rfl
  · rw [if_neg e]
    by_cases c : x.kind = 7 ∧ cnt (toks s 0) (toks s 0).length / 2 * 2 < cnt (toks s 0) (k + 1)
    · have h1 : (stK (toks s 0) k x).kind = 1 := by rw [hk, if_pos c]
      rw [if_pos h1]
      have := toks_bold s x hm c.1
      rw [show s.extract (stK (toks s 0) k x).frm (stK (toks s 0) k x).to_ = x.text from this.symm]
      rfl
    · have h1 : ¬ (stK (toks s 0) k x).kind = 1 := by rw [hk, if_neg c]; exact e
      rw [if_neg h1]
      rfl
/-- two plain spans side by side, filled -/
theorem fill_join {s : ByteArray} {y x : Sp} (h1 : y.kind = 1) (h2 : x.kind = 1) (hf : y.frm ≤ y.to_) (hc : y.to_ = x.frm) (hx : x.frm ≤ x.to_) : fillT s { y with to_ := x.to_ } = { fillT s y with to_ := x.to_, text := (fillT s y).text ++ (fillT s x).text } := by
  unfold fillT
  rw [if_pos h1, if_pos h2, if_pos (show ({ y with to_ := x.to_ } : Sp).kind = 1 from h1)]
  have : s.extract y.frm x.to_ = s.extract y.frm y.to_ ++ s.extract x.frm x.to_ := by
    apply ba_ext
    rw [ByteArray.data_append, Array.toList_append, ext_list2, ext_list2, ext_list2, hc.symm, show x.to_ - y.frm = (y.to_ - y.frm) + (x.to_ - y.to_) by omega, List.take_add, List.drop_drop, show y.frm + (y.to_ - y.frm) = y.to_ by omega]
  simp only [this]

/-- the second loop's state -/
structure RMerge (s : ByteArray) (L : List Sp) (k m : Nat) (acc : List Sp) : Prop where
  mg : merge acc ((strong L).drop k) = merge [] (strong L)
  m_ : m = cnt L k
  ct : ∃ b, Cont 0 acc b ∧ Cont b ((strong L).drop k) s.size
theorem RMerge.start {s : ByteArray} (hL : Cont 0 (toks s 0) s.size) : RMerge s (toks s 0) 0 0 [] := ⟨rfl, rfl, 0, rfl, strong_cont hL⟩
theorem strong_drop {L : List Sp} {k : Nat} {x : Sp} (h : L[k]? = some x) : (strong L).drop k = stK L k x :: (strong L).drop (k + 1) := by
  have hk := (List.getElem?_eq_some_iff.1 (stK_at h)).1
  rw [List.drop_eq_getElem_cons hk]
  have := stK_at h
  rw [List.getElem?_eq_getElem hk] at this
  injection this with this
  rw [this]
theorem cnt_next {L : List Sp} {k : Nat} {x : Sp} (h : L[k]? = some x) : cnt L (k + 1) = cnt L k + (if x.kind = 7 then 1 else 0) := by
  show cnt L k + _ = _
  rw [bold_at h]
  by_cases c : x.kind = 7
  · rw [if_pos c, if_pos (by simpa using c)]
  · rw [if_neg c, if_neg (by simpa using c)]
theorem RMerge.step {s : ByteArray} {L acc : List Sp} {k m : Nat} {x : Sp} (h : RMerge s L k m acc) (hx : L[k]? = some x) : RMerge s L (k + 1) (cnt L (k + 1)) (mstep acc (stK L k x)) := by
  obtain ⟨b, c1, c2⟩ := h.ct
  have hd := strong_drop hx
  have hm := h.mg
  rw [hd] at hm c2
  exact ⟨hm, rfl, _, mstep_cont c1 c2.1 c2.2.1, c2.2.2⟩
theorem RMerge.pos {s : ByteArray} {L acc : List Sp} {k m : Nat} {x : Sp} (h : RMerge s L k m acc) (hx : L[k]? = some x) : x.frm < x.to_ ∧ x.to_ ≤ s.size ∧ ∀ r y, acc = r ++ [y] → y.to_ = x.frm ∧ y.frm ≤ y.to_ := by
  obtain ⟨b, c1, c2⟩ := h.ct
  rw [strong_drop hx] at c2
  have e : (stK L k x).frm = b := c2.1
  have e1 : b < (stK L k x).to_ := c2.2.1
  have e2 := (cont_le c2.2.2).1
  have e3 : (stK L k x).frm = x.frm := rfl
  have e4 : (stK L k x).to_ = x.to_ := rfl
  refine ⟨by omega, by omega, ?_⟩
  rintro r y rfl
  obtain ⟨d, d1, d2⟩ := cont_split c1
  have d3 : y.to_ = b := d2.2.2
  have d4 := d2.2.1
  have d5 : y.frm = d := d2.1
  omega
theorem stK_kind {L : List Sp} {k : Nat} {x : Sp} (h : L[k]? = some x) : (stK L k x).kind = (if x.kind = 7 ∧ cnt L L.length / 2 * 2 < cnt L (k + 1) then 1 else x.kind) := strK_cases _ _ k x h
theorem stK_strong {L : List Sp} {k : Nat} {x : Sp} (h : L[k]? = some x) : (stK L k x).strong = (decide (cnt L (k + 1) ≤ cnt L L.length / 2 * 2) && (x.kind == 7 || cnt L (k + 1) % 2 == 1)) := by
  show strF _ _ _ = _
  unfold strF
  rw [bold_at h]
/-- the step, filled -/
theorem rm_no {s : ByteArray} {acc : List Sp} {z : Sp} (h : ∀ r y, acc = r ++ [y] → (z.kind == 1 && y.kind == 1 && y.strong == z.strong) = false) : (mstep acc z).map (fillT s) = acc.map (fillT s) ++ [fillT s z] := by
  rw [mstep_no h, List.map_append, List.map_singleton]
theorem rm_yes {s : ByteArray} {r : List Sp} {y z : Sp} (h : (z.kind == 1 && y.kind == 1 && y.strong == z.strong) = true) (hf : y.frm ≤ y.to_) (hc : y.to_ = z.frm) (hx : z.frm ≤ z.to_) :
    (mstep (r ++ [y]) z).map (fillT s) = (((r ++ [y]).map (fillT s)).set r.length { fillT s y with to_ := z.to_ }).set r.length { fillT s y with to_ := z.to_, text := (fillT s y).text ++ (fillT s z).text } := by
  rw [mstep_yes h, List.map_append, List.map_append, List.map_singleton, List.map_singleton]
  simp only [Bool.and_eq_true, beq_iff_eq] at h
  rw [fill_join h.1.2 h.1.1 hf hc hx]
  have : r.length = (r.map (fillT s)).length := by simp
  rw [this, List.set_set, List.set_append_right _ _ (Nat.le_refl _), Nat.sub_self]
  rfl
theorem RMerge.done {s : ByteArray} {m : Nat} {acc : List Sp} (h : RMerge s (toks s 0) (toks s 0).length m acc) : acc.map (fillT s) = spans s := by
  have := h.mg
  rw [List.drop_eq_nil_of_le (by rw [strong_len]; exact Nat.le_refl _)] at this
  unfold spans
  rw [← this]; rfl
theorem zs_of {kx zk : Int} {mm P : Nat} {zs : Bool} (hzk : zk = if kx = 7 ∧ P < mm then 1 else kx) (hzs : zs = (decide (mm ≤ P) && (kx == 7 || mm % 2 == 1))) : zs = (if zk = 7 then true else (mm % 2 == 1 && decide (mm ≤ P))) := by
  by_cases h7 : kx = 7
  · by_cases hP : P < mm
    · rw [if_pos ⟨h7, hP⟩] at hzk
      have h1 : decide (mm ≤ P) = false := by simp; omega
      rw [if_neg (by omega), hzs, h1]; simp
    · rw [if_neg (fun c => hP c.2)] at hzk
      have h1 : decide (mm ≤ P) = true := by simp; omega
      have h2 : (kx == 7) = true := by simpa using h7
      rw [if_pos (by omega), hzs, h1, h2]; rfl
  · rw [if_neg (fun c => h7 c.1)] at hzk
    have h2 : (kx == 7) = false := by simpa using h7
    rw [if_neg (by omega), hzs, h2, Bool.false_or, Bool.and_comm]
end Go.Proofs.YtemngidkfgcigaaGreatDoor
namespace Go.Proofs.YtemngidkfgcigaaGreatDoor
open Go.RowKit

theorem sp_shape (y : Sp) : spV y = .agg #[.int .i64 y.kind, .int .i64 y.frm, .int .i64 y.to_, .string y.text, .string y.show_, .int .i64 y.id, .bool y.strong] := rfl
theorem fillT_kind' (s : ByteArray) (x : Sp) : (fillT s x).kind = x.kind ∧ (fillT s x).to_ = x.to_ ∧ (fillT s x).frm = x.frm ∧ (fillT s x).strong = x.strong := by unfold fillT; split <;> exact ⟨rfl, rfl, rfl, rfl⟩

/-- the first loop's state: l is what stands ahead of place a, n the bold marks in it -/
structure Ahead (s : ByteArray) (a n : Nat) (l : List Sp) : Prop where
  all : l ++ toks s a = toks s 0
  n_ : n = cnt (toks s 0) l.length
theorem Ahead.step {s : ByteArray} {a n : Nat} {l : List Sp} (h : Ahead s a n l) (ha : a < s.size) : Ahead s (tokA s a).to_ (n + (if (tokA s a).kind = 7 then 1 else 0)) (l ++ [tokA s a]) := by
  have hs := toks_step ha
  have hall := h.all
  rw [hs] at hall
  refine ⟨by rw [← hall]; simp, ?_⟩
  have hat : (toks s 0)[l.length]? = some (tokA s a) := by rw [← hall]; simp
  rw [List.length_append, List.length_singleton]
  show _ = cnt (toks s 0) l.length + (if bold (toks s 0) l.length = true then 1 else 0)
  rw [bold_at hat, h.n_]
  by_cases c : (tokA s a).kind = 7
  · rw [if_pos c, if_pos (by simpa using c)]
  · rw [if_neg c, if_neg (by simpa using c)]

set_option maxHeartbeats 4000000 in
set_option maxRecDepth 100000 in
theorem rspans_any (s : ByteArray) (w : World) (hs : s.size ≤ 1048576) :
    Calls Tryz.prog 43 #[.string s] w fun e w' => ∃ v, e = .returned v ∧ w'.ownsRow w.heap.size 79 7 v (spans s).length (flatC (spans s)) ∧ Below w.heap.size w w' := by
  obtain ⟨i0, hi, hz0, hz1, hz2⟩ := info_parts span_info
  go_enter Tryz.func43, Tryz.ntmps43
  go_wp2
  go_loopg [3, 4, 5] s.size (fun g s3 s4 s5 wr => ∃ (a n : Nat) (l : List Sp), a + g = s.size ∧ s5 = .int .i64 a ∧ s4 = .int .i64 n ∧ n ≤ a ∧ l.length ≤ a ∧ Hid (Ahead s a n l) ∧ wr.ownsRow w.heap.size 79 7 s3 l.length (flatC (l.map (fillT s))) ∧ Below w.heap.size w wr)
  case atStart => exact ⟨0, 0, [], by omega, rfl, rfl, Nat.le_refl _, Nat.le_refl _, ⟨rfl, rfl⟩, World.ownsRow_nil _ _ _ _, Below.refl _ _⟩
  case round =>
    obtain ⟨a, n, l, hag, rfl, rfl, hna, hla, HI, hown, hbel⟩ := hrel
    by_cases ha : a < s.size
    · have ia : (a : Int) < (s.size : Int) := by omega
      have in0 : (0 : Int) ≤ (n : Int) := by omega
      have in1 : (n : Int) ≤ 1048576 := by omega
      have hlt := hown.lt
      obtain ⟨x0, x1, x2⟩ := tokA_to ha
      have HX := Lib.hid (HI.out.step ha)
      obtain ⟨y, hy⟩ : ∃ y, y = fillT s (tokA s a) := ⟨_, rfl⟩
      obtain ⟨f1, f2, f3, _⟩ := fillT_kind' s (tokA s a)
      rw [← hy] at f1 f2 f3
      have hr : rtV s a = spV y := by rw [hy]; rfl
      have HY := Lib.hid hy
      have HR := Lib.hid hr
      have F2 := Lib.hid f2
      rw [← f1] at HX
      rw [← f2] at x1 x2 HX
      obtain ⟨T, hT⟩ : ∃ T, T = l ++ [tokA s a] := ⟨_, rfl⟩
      rw [← hT] at HX
      have HT := Lib.hid hT
      clear hy hr hT f1 f2 f3 x0 HI
      go_wp2_with fail
      refine (rtoken_any s a _ (by omega) ha).mono ?_
      rintro e w1 ⟨rfl, hb1⟩
      rw [HR.out, sp_shape]
      have hown1 := own_below hown hb1
      have hsz1 := hb1.size
      have hbelT := hbel.trans (hb1.mono hbel.size)
      have hsz2 := hbel.size
      clear hown hb1
      cases hk : (y.kind == 7)
      · have hk7 : ¬ y.kind = 7 := by simpa using hk
        rw [if_neg hk7, Nat.add_zero] at HX
        clear hk7
        go_wp2_with (at_builtin; refine wpList_append_own_at _ rfl _ _ 76 rfl w.heap.size 79 i0 spZ 7 72 Tryz.underlying76 hi hz0 hz1 hz2 rfl (by decide) _ l.length _ rfl ((hown1.alloc _).alloc _) ⟨w1.heap.size + 1, 0, none⟩ 1 1 (spCells y) rfl rfl (cells_new _ _ (spCells y) _ (by simp)) (sp_oneCell _) (by unfold maxLen; omega) (by omega) (by simp; omega) ?_; intro v2 w2 hown2 hg2 _ _; have c2 := span_kept hg2 (fun g h => (hlt g h).2) hsz1)
        have R := span_step (l := l.map (fillT s)) (Nat.le_refl _) hown2 hg2 hbelT hown1 (fun g h => (hlt g h).1)
        clear hown2 hg2 hown1
        go_roundg (s.size - y.to_)
        case measure => omega
        case rel => exact ⟨y.to_, n, T, by omega, by go_num, by go_num, by omega, by rw [HT.out]; simp; omega, HX, by rw [HT.out, List.map_append, List.map_singleton, ← HY.out]; simpa using R.1, R.2⟩
      · have hk7 : y.kind = 7 := by simpa using hk
        rw [if_pos hk7] at HX
        clear hk7
        go_wp2_with (at_builtin; refine wpList_append_own_at _ rfl _ _ 76 rfl w.heap.size 79 i0 spZ 7 72 Tryz.underlying76 hi hz0 hz1 hz2 rfl (by decide) _ l.length _ rfl ((hown1.alloc _).alloc _) ⟨w1.heap.size + 1, 0, none⟩ 1 1 (spCells y) rfl rfl (cells_new _ _ (spCells y) _ (by simp)) (sp_oneCell _) (by unfold maxLen; omega) (by omega) (by simp; omega) ?_; intro v2 w2 hown2 hg2 _ _; have c2 := span_kept hg2 (fun g h => (hlt g h).2) hsz1)
        have R := span_step (l := l.map (fillT s)) (Nat.le_refl _) hown2 hg2 hbelT hown1 (fun g h => (hlt g h).1)
        clear hown2 hg2 hown1
        go_roundg (s.size - y.to_)
        case measure => omega
        case rel => exact ⟨y.to_, n + 1, T, by omega, by go_num, by go_num, by omega, by rw [HT.out]; simp; omega, HX, by rw [HT.out, List.map_append, List.map_singleton, ← HY.out]; simpa using R.1, R.2⟩
    · obtain rfl : a = s.size := by omega
      have hE : l = toks s 0 := by have := HI.out.all; rwa [toks_end (Nat.le_refl _), List.append_nil] at this
      have hN := HI.out.n_
      have hst : RMerge s (toks s 0) 0 0 [] := RMerge.start (toks_cont s _ 0 rfl (Nat.zero_le _))
      have HDN : Hid (∀ m acc, RMerge s (toks s 0) (toks s 0).length m acc → acc.map (fillT s) = spans s) := fun m acc h => h.done
      rw [← hE] at hN hst HDN
      have hE0 := Lib.hid hE
      obtain ⟨A, c, rfl, hnc, hA⟩ := own_shape hown
      obtain ⟨P, hP⟩ : ∃ P : Nat, P = n / 2 * 2 := ⟨_, rfl⟩
      have hPi : (n : Int) / 2 * 2 = (P : Int) := by omega
      have hPc : P = cnt l l.length / 2 * 2 := by rw [← hN]; exact hP
      have HP := Lib.hid hPi
      have HPC := Lib.hid hPc
      have HST := Lib.hid hst
      obtain ⟨W2, hW2⟩ : ∃ W2 : World, W2 = wr := ⟨_, rfl⟩
      rw [← hW2] at hown hbel
      have hzr := hbel.size
      have hP0 : (P : Int) ≤ 1048576 := by omega
      have in0 : (0 : Int) ≤ (n : Int) := by omega
      have in1 : (n : Int) ≤ 1048576 := by omega
      clear hE hN hst hP hPi hPc HI
      rw [← hW2]
      clear hW2
      go_wp2_with fail
      rw [HP.out]
      go_loopg [8, 9, 36] l.length (fun g s8 s9 s36 wi => ∃ (k m : Nat) (acc : List Sp), k + g = l.length ∧ s36 = .int .i64 k ∧ s8 = .int .i64 m ∧ m ≤ k ∧ acc.length ≤ k ∧ Hid (RMerge s l k m acc) ∧ wi.ownsRow W2.heap.size 79 7 s9 acc.length (flatC (acc.map (fillT s))) ∧ Below W2.heap.size W2 wi)
      case atStart => exact ⟨0, 0, [], by omega, rfl, rfl, Nat.le_refl _, Nat.le_refl _, HST.out, World.ownsRow_nil _ _ _ _, Below.refl _ _⟩
      case round =>
        obtain ⟨k, m, acc, hkg, rfl, rfl, hmk, hak, HR, hown3, hbel3⟩ := hrel
        obtain ⟨A3, cap3, rfl, hac, hA3⟩ := own_shape hown3
        by_cases hkl : k < l.length
        · obtain ⟨g, rfl⟩ := hA (by omega)
          obtain ⟨x, hx⟩ : ∃ x, l[k]? = some x := ⟨_, List.getElem?_eq_getElem hkl⟩
          have hxf : (l.map (fillT s))[k]? = some (fillT s x) := by rw [List.getElem?_map, hx]; rfl
          obtain ⟨c0, c1, c2, c3, c4, c5, c6⟩ := sp_cells (L := l.map (fillT s)) (by rw [List.length_map]; exact hown) hbel3 hxf
          have HRS := Lib.hid (HR.out.step hx)
          have HTX : Hid ((fillT s x).text.size ≤ s.size + 2) := by
            have h8 := (toks_ok s 0 x (List.mem_of_getElem? (by rw [← hE0.out]; exact hx))).1
            show _ ≤ _
            unfold fillT
            split
            · have := ext_le s x.frm x.to_; show (s.extract x.frm x.to_).size ≤ _; omega
            · exact h8
          obtain ⟨p1, p2, p3⟩ := HR.out.pos hx
          have hcn := cnt_next hx
          rw [← HR.out.m_] at hcn
          have hzk := stK_kind hx
          have hzs := stK_strong hx
          rw [← HPC.out] at hzk hzs
          obtain ⟨z, hz⟩ : ∃ z, z = stK l k x := ⟨_, rfl⟩
          rw [← hz] at hzk hzs HRS
          obtain ⟨mm, hmm⟩ : ∃ mm, mm = cnt l (k + 1) := ⟨_, rfl⟩
          rw [← hmm] at hcn hzk hzs HRS
          obtain ⟨xf, hxe⟩ : ∃ xf, xf = fillT s x := ⟨_, rfl⟩
          obtain ⟨e1, e2, e3, e4⟩ := fillT_kind' s x
          rw [← hxe] at c0 c1 c2 c3 c4 c5 c6 e1 e2 e3 HTX
          have hZ : fillT s z = { xf with kind := z.kind, strong := z.strong } := by
            have h9 := fill_stK (s := s) (k := k) (x := x) (by rw [← hE0.out]; exact hx)
            rw [← hE0.out] at h9
            rw [hz, hxe]; exact h9
          have hzto : z.to_ = xf.to_ := by rw [hz, e2]; rfl
          have hzfr : z.frm = x.frm := by rw [hz]; rfl
          rw [← e1] at hcn hzk hzs
          obtain ⟨zk, hzk'⟩ : ∃ zk, zk = z.kind := ⟨_, rfl⟩
          obtain ⟨zs, hzs'⟩ : ∃ zs, zs = z.strong := ⟨_, rfl⟩
          rw [← hzk'] at hzk hZ
          rw [← hzs'] at hzs hZ
          have ik : (k : Int) < (l.length : Int) := by omega
          have ik0 : (0 : Int) ≤ (k : Int) := by omega
          have im0 : (0 : Int) ≤ (m : Int) := by omega
          have im1 : (m : Int) ≤ 1048576 := by omega
          have hwz := hbel3.size
          have HZ := Lib.hid hZ
          have HZK := Lib.hid hzk
          have HZS := Lib.hid hzs
          have HCN := Lib.hid hcn
          have HK := Lib.hid (And.intro hzk' hzs')
          have HXE := Lib.hid hxe
          have HTO := Lib.hid hzto
          have HPOS := Lib.hid (And.intro p1 (And.intro p2 p3))
          have hmm2 : mm ≤ k + 1 := by rw [hcn]; split <;> omega
          have HE2 := Lib.hid e2
          have HFR := Lib.hid hzfr
          clear hx hxf hcn hzk hzs hz hmm hxe e1 e2 e3 e4 hZ hzto hzk' hzs' p1 p2 p3 hzfr
          go_upto_if 42 with (fail)
          go_cut [8] (fun s8 wx => s8 = .int .i64 mm ∧ wx = wr.alloc (.cells #[.int .i64 zk, .int .i64 xf.frm, .int .i64 xf.to_, .string xf.text, .string xf.show_, .int .i64 xf.id, .bool xf.strong] 79))
          case first =>
            cases h7 : (xf.kind == 7)
            · have k7 : ¬ xf.kind = 7 := by simpa using h7
              have z1 := HZK.out
              rw [if_neg (fun c => k7 c.1)] at z1
              have m1 := HCN.out
              rw [if_neg k7, Nat.add_zero] at m1
              subst z1 m1
              clear k7
              go_wp2_with fail
              go_meet
              case rel => exact ⟨rfl, rfl⟩
            · have k7 : xf.kind = 7 := by simpa using h7
              have m1 := HCN.out
              rw [if_pos k7] at m1
              cases hP2 : decide ((P : Int) < (m : Int) + 1)
              · have z1 := HZK.out
                rw [if_neg (fun c => by simp at hP2; omega)] at z1
                subst z1 m1
                clear k7
                go_wp2_with fail
                go_meet
                case rel => exact ⟨by go_num, rfl⟩
              · have z1 := HZK.out
                rw [if_pos ⟨k7, by simp at hP2; omega⟩] at z1
                subst z1 m1
                clear k7
                go_wp2_with fail
                go_meet
                case rel => exact ⟨by go_num, rfl⟩
          case rest =>
            obtain ⟨rfl, rfl⟩ := hcut
            have hzz := zs_of HZK.out HZS.out
            have in0' : (0 : Int) ≤ (mm : Int) := by omega
            have in1' : (mm : Int) ≤ 1048577 := by omega
            go_upto_region 20 with (fail)
            go_cut [8] (fun s8 wx => s8 = .int .i64 mm ∧ wx = wr.alloc (.cells #[.int .i64 zk, .int .i64 xf.frm, .int .i64 xf.to_, .string xf.text, .string xf.show_, .int .i64 xf.id, .bool zs] 79))
            case first =>
              cases z7 : (zk == 7)
              · rw [if_neg (by simpa using z7)] at hzz
                cases par : ((mm : Int) % 2 == 1)
                · have pn : (mm % 2 == 1) = false := by simp at par ⊢; omega
                  rw [pn, Bool.false_and] at hzz
                  subst hzz
                  clear pn
                  go_wp2_with fail
                  go_meet
                  case rel => exact ⟨rfl, rfl⟩
                · have pn : (mm % 2 == 1) = true := by simp at par ⊢; omega
                  rw [pn, Bool.true_and] at hzz
                  clear pn
                  cases le : decide (mm ≤ P)
                  · rw [le] at hzz
                    subst hzz
                    go_wp2_with fail
                    go_meet
                    case rel => exact ⟨rfl, rfl⟩
                  · rw [le] at hzz
                    subst hzz
                    go_wp2_with fail
                    go_meet
                    case rel => exact ⟨rfl, rfl⟩
              · rw [if_pos (by simpa using z7)] at hzz
                subst hzz
                go_wp2_with fail
                go_meet
                case rel => exact ⟨rfl, rfl⟩
            case rest =>
              obtain ⟨rfl, rfl⟩ := hcut
              clear hzz
              have hno : (∀ r y, acc = r ++ [y] → (z.kind == 1 && y.kind == 1 && y.strong == z.strong) = false) → Hid ((mstep acc z).map (fillT s) = acc.map (fillT s) ++ [{ xf with kind := zk, strong := zs }] ∧ (mstep acc z).length = acc.length + 1) := fun h => ⟨by rw [rm_no h, HZ.out], by rw [mstep_no h]; simp⟩
              have HNO := Lib.hid hno
              clear hno
              have hr1 : W2.heap.size ≤ wr.heap.size := hbel3.size

              skip
              rcases acc.eq_nil_or_concat with hr | ⟨r, y, hr⟩
              · have HS := HNO.out (fun r y h => by rw [hr] at h; simp at h)
                have hrl : acc.length = 0 := by rw [hr]; rfl
                have iz : decide ((1 : Int) ≤ (acc.length : Int)) = false := by simp; omega
                clear hr hrl
                go_upto_region 22 with (fail)
                go_quiet (fail)
                have KB := (Blk.new wr 79 #[.int .i64 zk, .int .i64 xf.frm, .int .i64 xf.to_, .string xf.text, .string xf.show_, .int .i64 xf.id, .bool zs]).drewN nq
                have q0 := KB.cell 0
                have q1 := KB.cell 1
                have q2 := KB.cell 2
                have q3 := KB.cell 3
                have q4 := KB.cell 4
                have q5 := KB.cell 5
                have q6 := KB.cell 6
                clear KB
                go_wp2_with (at_builtin; refine wpList_append_own_at _ rfl _ _ 76 rfl W2.heap.size 79 i0 spZ 7 72 Tryz.underlying76 hi hz0 hz1 hz2 rfl (by decide) _ acc.length _ rfl (((hown3.alloc _).drewK nq).alloc _) ⟨wr.heap.size + 1, 0, none⟩ 1 1 (spCells { xf with kind := zk, strong := zs }) rfl rfl (cells_new _ _ (spCells { xf with kind := zk, strong := zs }) _ (by simp)) (sp_oneCell _) (by unfold maxLen; omega) (by omega) (by simp; omega) ?_; intro v4 w4 hown4 hg4 _ _)
                have R := span_step_d (x := { xf with kind := zk, strong := zs }) (Nat.le_refl _) hown4 hg4 hbel3 hown3 (fun g h => (hown3.lt g h).1)
                rw [← HS.out.1] at R
                clear hown4 hg4
                go_roundg (l.length - (k + 1))
                case measure => omega
                case rel => exact ⟨k + 1, mm, mstep acc z, by omega, by go_num, rfl, hmm2, by rw [HS.out.2]; omega, HRS, by rw [HS.out.2]; simpa using R.1, R.2⟩
              · simp only [List.concat_eq_append] at hr
                obtain ⟨g3, rfl⟩ := hA3 (by rw [hr]; simp)
                have hrl : acc.length = r.length + 1 := by rw [hr]; simp
                obtain ⟨yf, hyf⟩ : ∃ yf, yf = fillT s y := ⟨_, rfl⟩
                have hy : (acc.map (fillT s))[r.length]? = some yf := by rw [hr, hyf]; simp
                obtain ⟨u1, u2, u3, u4⟩ := fillT_kind' s y
                rw [← hyf] at u1 u2 u3 u4
                have hlt3 := (hown3.lt g3 rfl).2
                have ia : (0 : Int) ≤ (acc.length : Int) - 1 := by omega
                have iz : decide ((1 : Int) ≤ (acc.length : Int)) = true := by simp; omega
                have ib : (acc.length : Int) - 1 < (acc.length : Int) := by omega
                have it : ((acc.length : Int) - 1).toNat = r.length := by omega
                obtain ⟨d0, d1, d2, d3, d4, d5, d6⟩ := sp_cells (L := acc.map (fillT s)) (by rw [List.length_map]; exact hown3) (Below.refl _ _) hy
                have e0 : ∀ o, (wr.alloc o).cell? ⟨g3, r.length * 7, none⟩ = some (.int .i64 yf.kind) := fun o => (World.cell?_alloc_lt wr o _ hlt3).trans d0
                have e6 : ∀ o, (wr.alloc o).cell? ⟨g3, r.length * 7 + 6, none⟩ = some (.bool yf.strong) := fun o => (World.cell?_alloc_lt wr o _ hlt3).trans d6
                have HHR := Lib.hid hr
                have HU := Lib.hid (And.intro u1 u4)
                cases hk1 : (zk == 1)
                · have HS := HNO.out (fun r y _ => by rw [← HK.out.1, hk1]; rfl)
                  clear hr hrl hy hyf u1 u2 u3 u4 d0 d1 d2 d3 d4 d5 d6
                  go_upto_region 22 with (fail)
                  go_quiet (fail)
                  have KB := (Blk.new wr 79 #[.int .i64 zk, .int .i64 xf.frm, .int .i64 xf.to_, .string xf.text, .string xf.show_, .int .i64 xf.id, .bool zs]).drewN nq
                  have q0 := KB.cell 0
                  have q1 := KB.cell 1
                  have q2 := KB.cell 2
                  have q3 := KB.cell 3
                  have q4 := KB.cell 4
                  have q5 := KB.cell 5
                  have q6 := KB.cell 6
                  clear KB
                  go_wp2_with (at_builtin; refine wpList_append_own_at _ rfl _ _ 76 rfl W2.heap.size 79 i0 spZ 7 72 Tryz.underlying76 hi hz0 hz1 hz2 rfl (by decide) _ acc.length _ rfl (((hown3.alloc _).drewK nq).alloc _) ⟨wr.heap.size + 1, 0, none⟩ 1 1 (spCells { xf with kind := zk, strong := zs }) rfl rfl (cells_new _ _ (spCells { xf with kind := zk, strong := zs }) _ (by simp)) (sp_oneCell _) (by unfold maxLen; omega) (by omega) (by simp; omega) ?_; intro v4 w4 hown4 hg4 _ _)
                  have R := span_step_d (x := { xf with kind := zk, strong := zs }) (Nat.le_refl _) hown4 hg4 hbel3 hown3 (fun g h => (hown3.lt g h).1)
                  rw [← HS.out.1] at R
                  clear hown4 hg4
                  go_roundg (l.length - (k + 1))
                  case measure => omega
                  case rel => exact ⟨k + 1, mm, mstep acc z, by omega, by go_num, rfl, hmm2, by rw [HS.out.2]; omega, HRS, by rw [HS.out.2]; simpa using R.1, R.2⟩
                · cases hyk : (yf.kind == 1)
                  · have HS := HNO.out (fun r' y' h => by rw [HHR.out] at h; obtain ⟨_, h2⟩ := List.append_inj' h rfl; injection h2 with h2; subst h2; rw [← HU.out.1, hyk]; simp)
                    clear hr hrl hy hyf u1 u2 u3 u4 d0 d1 d2 d3 d4 d5 d6
                    go_upto_region 22 with (fail)
                    go_quiet (fail)
                    have KB := (Blk.new wr 79 #[.int .i64 zk, .int .i64 xf.frm, .int .i64 xf.to_, .string xf.text, .string xf.show_, .int .i64 xf.id, .bool zs]).drewN nq
                    have q0 := KB.cell 0
                    have q1 := KB.cell 1
                    have q2 := KB.cell 2
                    have q3 := KB.cell 3
                    have q4 := KB.cell 4
                    have q5 := KB.cell 5
                    have q6 := KB.cell 6
                    clear KB
                    go_wp2_with (at_builtin; refine wpList_append_own_at _ rfl _ _ 76 rfl W2.heap.size 79 i0 spZ 7 72 Tryz.underlying76 hi hz0 hz1 hz2 rfl (by decide) _ acc.length _ rfl (((hown3.alloc _).drewK nq).alloc _) ⟨wr.heap.size + 1, 0, none⟩ 1 1 (spCells { xf with kind := zk, strong := zs }) rfl rfl (cells_new _ _ (spCells { xf with kind := zk, strong := zs }) _ (by simp)) (sp_oneCell _) (by unfold maxLen; omega) (by omega) (by simp; omega) ?_; intro v4 w4 hown4 hg4 _ _)
                    have R := span_step_d (x := { xf with kind := zk, strong := zs }) (Nat.le_refl _) hown4 hg4 hbel3 hown3 (fun g h => (hown3.lt g h).1)
                    rw [← HS.out.1] at R
                    clear hown4 hg4
                    go_roundg (l.length - (k + 1))
                    case measure => omega
                    case rel => exact ⟨k + 1, mm, mstep acc z, by omega, by go_num, rfl, hmm2, by rw [HS.out.2]; omega, HRS, by rw [HS.out.2]; simpa using R.1, R.2⟩
                  · cases hys : (yf.strong == zs)
                    · have HS := HNO.out (fun r' y' h => by rw [HHR.out] at h; obtain ⟨_, h2⟩ := List.append_inj' h rfl; injection h2 with h2; subst h2; rw [← HU.out.2, ← HK.out.2, hys]; simp)
                      clear hr hrl hy hyf u1 u2 u3 u4 d0 d1 d2 d3 d4 d5 d6
                      go_upto_region 22 with (fail)
                      go_quiet (fail)
                      have KB := (Blk.new wr 79 #[.int .i64 zk, .int .i64 xf.frm, .int .i64 xf.to_, .string xf.text, .string xf.show_, .int .i64 xf.id, .bool zs]).drewN nq
                      have q0 := KB.cell 0
                      have q1 := KB.cell 1
                      have q2 := KB.cell 2
                      have q3 := KB.cell 3
                      have q4 := KB.cell 4
                      have q5 := KB.cell 5
                      have q6 := KB.cell 6
                      clear KB
                      go_wp2_with (at_builtin; refine wpList_append_own_at _ rfl _ _ 76 rfl W2.heap.size 79 i0 spZ 7 72 Tryz.underlying76 hi hz0 hz1 hz2 rfl (by decide) _ acc.length _ rfl (((hown3.alloc _).drewK nq).alloc _) ⟨wr.heap.size + 1, 0, none⟩ 1 1 (spCells { xf with kind := zk, strong := zs }) rfl rfl (cells_new _ _ (spCells { xf with kind := zk, strong := zs }) _ (by simp)) (sp_oneCell _) (by unfold maxLen; omega) (by omega) (by simp; omega) ?_; intro v4 w4 hown4 hg4 _ _)
                      have R := span_step_d (x := { xf with kind := zk, strong := zs }) (Nat.le_refl _) hown4 hg4 hbel3 hown3 (fun g h => (hown3.lt g h).1)
                      rw [← HS.out.1] at R
                      clear hown4 hg4
                      go_roundg (l.length - (k + 1))
                      case measure => omega
                      case rel => exact ⟨k + 1, mm, mstep acc z, by omega, by go_num, rfl, hmm2, by rw [HS.out.2]; omega, HRS, by rw [HS.out.2]; simpa using R.1, R.2⟩
                    · have tx : xf.text.size ≤ 1048578 := by have := HTX.out; omega
                      have ty : yf.text.size ≤ 1048578 := by
                        rw [hyf]; unfold fillT; rw [if_pos (by rw [← u1]; simpa using hyk)]
                        have := ext_le s y.frm y.to_; show (s.extract y.frm y.to_).size ≤ _; omega
                      have hj : (z.kind == 1 && y.kind == 1 && y.strong == z.strong) = true := by rw [← HK.out.1, ← HK.out.2, ← HU.out.1, ← HU.out.2, hk1, hyk, hys]; rfl
                      obtain ⟨q1, q2⟩ := HPOS.out.2.2 r y hr
                      have q3 := HPOS.out.1
                      have hmap : (mstep acc z).map (fillT s) = ((acc.map (fillT s)).set r.length { yf with to_ := xf.to_ }).set r.length { yf with to_ := xf.to_, text := yf.text ++ xf.text } := by
                        rw [hr, rm_yes hj q2 (by rw [HFR.out]; exact q1) (by rw [HFR.out, HTO.out, HE2.out]; omega), HTO.out, HZ.out, ← hyf]
                      have hml : (mstep acc z).length = acc.length := by
                        have := congrArg List.length hmap
                        simpa using this
                      have HMP := Lib.hid hmap
                      have HML := Lib.hid hml
                      have HY := Lib.hid hy
                      clear hj q1 q2 q3 hmap hml hr hrl hy hyf u1 u2 u3 u4 d0 d1 d4 d5 d6
                      go_upto_region 22 with (fail)
                      go_quiet (fail)
                      have KB := (Blk.new wr 79 #[.int .i64 zk, .int .i64 xf.frm, .int .i64 xf.to_, .string xf.text, .string xf.show_, .int .i64 xf.id, .bool zs]).drewN nq
                      have q2 := KB.cell 2
                      have q3 := KB.cell 3
                      have hownD := (hown3.alloc (.cells #[.int .i64 zk, .int .i64 xf.frm, .int .i64 xf.to_, .string xf.text, .string xf.show_, .int .i64 xf.id, .bool zs] 79)).drewK nq
                      have hbelD := bdrew (hbel3.alloc (by omega) (.cells #[.int .i64 zk, .int .i64 xf.frm, .int .i64 xf.to_, .string xf.text, .string xf.show_, .int .i64 xf.id, .bool zs] 79)) nq
                      have y2 : ((wr.alloc (.cells #[.int .i64 zk, .int .i64 xf.frm, .int .i64 xf.to_, .string xf.text, .string xf.show_, .int .i64 xf.id, .bool zs] 79)).drewN nq).cell? ⟨g3, r.length * 7 + 2, none⟩ = some (.int .i64 yf.to_) := (World.cell?_alloc_lt wr _ _ hlt3).trans d2
                      have y3 : ((wr.alloc (.cells #[.int .i64 zk, .int .i64 xf.frm, .int .i64 xf.to_, .string xf.text, .string xf.show_, .int .i64 xf.id, .bool zs] 79)).drewN nq).cell? ⟨g3, r.length * 7 + 3, none⟩ = some (.string yf.text) := (World.cell?_alloc_lt wr _ _ hlt3).trans d3
                      have f2 := hownD.frozenAt (r.length * 7 + 2)
                      have R1 := store_sp (i := 2) (y := { yf with to_ := xf.to_ }) (u := .int .i64 xf.to_) hownD hbelD HY.out (by omega) rfl
                      have y3' := (World.cell?_setCell_other _ ⟨g3, r.length * 7 + 2, none⟩ ⟨g3, r.length * 7 + 3, none⟩ (.int .i64 xf.to_) (fun e => by injection e with _ e; omega)).trans y3
                      have q3' := (World.cell?_setCell_other _ ⟨g3, r.length * 7 + 2, none⟩ ⟨wr.heap.size, 3, none⟩ (.int .i64 xf.to_) (fun e => by injection e with e _; omega)).trans q3
                      have f3 := R1.1.frozenAt (r.length * 7 + 3)
                      have R2 := store_sp (i := 3) (x := { yf with to_ := xf.to_ }) (y := { yf with to_ := xf.to_, text := yf.text ++ xf.text }) (u := .string (yf.text ++ xf.text)) R1.1 R1.2 (by rw [List.getElem?_set_self (by have := (List.getElem?_eq_some_iff.1 HY.out).1; exact this)]) (by omega) rfl
                      rw [← HMP.out] at R2
                      have R := Lib.hid R2
                      clear KB e0 e6 hownD hbelD d2 d3 R1 R2 y3 q3
                      go_upto_region 24 with (fail)
                      go_region
                      go_wp2
                      go_roundg (l.length - (k + 1))
                      case measure => omega
                      case rel => exact ⟨k + 1, mm, mstep acc z, by omega, by go_num, rfl, hmm2, by rw [HML.out]; omega, HRS, by rw [HML.out]; exact R.out.1.drew, R.out.2.drew⟩
        · obtain rfl : k = l.length := by omega
          have HF : Hid (acc.map (fillT s) = spans s) := HDN.out m acc HR.out
          have hle : acc.length = (spans s).length := by rw [← HF.out]; simp
          have R : Hid (wr.ownsRow w.heap.size 79 7 (.slice A3 acc.length cap3) (spans s).length (flatC (spans s)) ∧ Below w.heap.size w wr) := ⟨by rw [← hle, ← HF.out]; exact hown3.mono hzr, hbel.trans (hbel3.mono hzr)⟩
          clear hown hown3 hbel hbel3 hle
          go_wp2_with fail
          go_ret
          exact ⟨_, rfl, R.out.1, R.out.2⟩
end Go.Proofs.YtemngidkfgcigaaGreatDoor
