/-
  DERIVED. Plain law: the spans of a text in which a link has been given another target: that link's text turns, of the others the position alone. Conditions: none. By an AI agent.
-/
import Derived.Test.YtcbmddgafkoooaaGreatDoorSpanIs
namespace Go.Proofs.YtcbmddgafkoooaaGreatDoor
open Go.RowKit

theorem bold_congr {l l' : List Sp} (h : l.map (·.kind) = l'.map (·.kind)) (j : Nat) : bold l j = bold l' j := by
  have := congrArg (fun t => t[j]?) h
  simp only [List.getElem?_map] at this
  unfold bold
  cases e : l[j]? with
  | none => cases e' : l'[j]? with
    | none => rfl
    | some y => rw [e, e'] at this; cases this
  | some x => cases e' : l'[j]? with
    | none => rw [e, e'] at this; cases this
    | some y => rw [e, e'] at this; injection this with this; have this : x.kind = y.kind := this; show (x.kind == 7) = (y.kind == 7); rw [this]
theorem cnt_congr {l l' : List Sp} (h : l.map (·.kind) = l'.map (·.kind)) : ∀ j, cnt l j = cnt l' j
  | 0 => rfl
  | j + 1 => by simp only [cnt]; rw [cnt_congr h j, bold_congr h j]
/-- strengthening by given marks -/
def strBy (l0 : List Sp) (j : Nat) (x : Sp) : Sp := { x with kind := strK l0 (cnt l0 l0.length / 2 * 2) j x.kind, strong := strF l0 (cnt l0 l0.length / 2 * 2) j }
theorem strBy_congr {l l' : List Sp} (h : l.map (·.kind) = l'.map (·.kind)) : strBy l = strBy l' := by
  have hl : l.length = l'.length := by have := congrArg List.length h; simpa using this
  funext j x
  unfold strBy strK strF
  rw [bold_congr h, cnt_congr h, cnt_congr h, hl]
theorem strong_eq (l : List Sp) : strong l = l.mapIdx (strBy l) := rfl
theorem mapIdx_map' {α β γ : Type} (f : α → β) (g : Nat → β → γ) : ∀ (l : List α), (l.map f).mapIdx g = l.mapIdx (fun i a => g i (f a)) := by
  intro l
  apply List.ext_getElem?
  intro i
  simp
  rfl
theorem map_mapIdx' {α β γ : Type} (f : Nat → α → β) (g : β → γ) : ∀ (l : List α), (l.mapIdx f).map g = l.mapIdx (fun i a => g (f i a)) := by
  intro l
  apply List.ext_getElem?
  intro i
  simp
  rfl
theorem strong_parts {L1 L2 : List Sp} {x y : Sp} {f : Nat → Nat} (hxy : y.kind = x.kind) :
    ∃ S1 S2, strong (L1 ++ x :: L2) = S1 ++ strBy (L1 ++ x :: L2) L1.length x :: S2 ∧ strong (L1 ++ y :: L2.map (mv f)) = S1 ++ strBy (L1 ++ x :: L2) L1.length y :: S2.map (mv f) ∧
      S1 = L1.mapIdx (strBy (L1 ++ x :: L2)) ∧ S2 = L2.mapIdx (fun i => strBy (L1 ++ x :: L2) (i + 1 + L1.length)) := by
  have hk : (L1 ++ x :: L2).map (·.kind) = (L1 ++ y :: L2.map (mv f)).map (·.kind) := by
    simp only [List.map_append, List.map_cons, List.map_map, hxy]
    rfl
  refine ⟨_, _, ?_, ?_, rfl, rfl⟩
  · rw [strong_eq, List.mapIdx_append, List.mapIdx_cons, Nat.zero_add]
  · rw [strong_eq, ← strBy_congr hk, List.mapIdx_append, List.mapIdx_cons, Nat.zero_add, mapIdx_map', map_mapIdx']
    rfl

theorem merge_append : ∀ {a b acc : List Sp}, merge acc (a ++ b) = merge (merge acc a) b
  | [], b, acc => rfl
  | x :: a, b, acc => by
    show merge (mstep acc x) (a ++ b) = merge (merge (mstep acc x) a) b
    exact merge_append
theorem mstep_wall {r acc : List Sp} {x z : Sp} (hx : x.kind ≠ 1) : mstep (r ++ [x] ++ acc) z = r ++ [x] ++ mstep acc z := by
  unfold mstep
  rcases List.eq_nil_or_concat acc with rfl | ⟨q, y, rfl⟩
  · rw [List.append_nil, List.getLast?_concat]
    have : (z.kind == 1 && x.kind == 1 && x.strong == z.strong) = false := by simp [hx]
    dsimp only
    rw [if_neg (by rw [this]; decide)]
    rfl
  · rw [List.concat_eq_append, ← List.append_assoc, List.getLast?_concat, List.getLast?_concat]
    dsimp only
    split
    · rw [List.dropLast_concat, List.dropLast_concat]; simp
    · simp
theorem merge_wall {r : List Sp} {x : Sp} (hx : x.kind ≠ 1) : ∀ {l acc : List Sp}, merge (r ++ [x] ++ acc) l = r ++ [x] ++ merge acc l
  | [], acc => rfl
  | z :: l, acc => by
    show merge (mstep (r ++ [x] ++ acc) z) l = r ++ [x] ++ merge (mstep acc z) l
    rw [mstep_wall hx]
    exact merge_wall hx
theorem mstep_map {f : Nat → Nat} {acc : List Sp} {z : Sp} : mstep (acc.map (mv f)) (mv f z) = (mstep acc z).map (mv f) := by
  unfold mstep
  rcases List.eq_nil_or_concat acc with rfl | ⟨q, y, rfl⟩
  · rfl
  · rw [List.concat_eq_append, List.map_append, List.map_singleton, List.getLast?_concat, List.getLast?_concat]
    dsimp only
    have : ((mv f z).kind == 1 && (mv f y).kind == 1 && (mv f y).strong == (mv f z).strong) = (z.kind == 1 && y.kind == 1 && y.strong == z.strong) := rfl
    rw [this]
    split
    · rw [List.dropLast_concat, List.dropLast_concat, List.map_append]; rfl
    · rw [List.map_append, List.map_append]; rfl
theorem merge_map {f : Nat → Nat} : ∀ {l acc : List Sp}, merge (acc.map (mv f)) (l.map (mv f)) = (merge acc l).map (mv f)
  | [], acc => rfl
  | z :: l, acc => by
    show merge (mstep (acc.map (mv f)) (mv f z)) (l.map (mv f)) = (merge (mstep acc z) l).map (mv f)
    rw [mstep_map]
    exact merge_map

/-- how many links -/
def lk (l : List Sp) : Nat := (l.map (fun x => x.kind == 4)).count true
theorem lk_nil : lk [] = 0 := rfl
theorem lk_append (a b : List Sp) : lk (a ++ b) = lk a + lk b := by unfold lk; rw [List.map_append, List.count_append]
theorem lk_cons (x : Sp) (b : List Sp) : lk (x :: b) = (if x.kind = 4 then 1 else 0) + lk b := by
  unfold lk
  rw [List.map_cons, List.count_cons]
  by_cases h : x.kind = 4 <;> simp [h] <;> omega
theorem lk_congr {a b : List Sp} (h : a.map (fun x => x.kind == 4) = b.map (fun x => x.kind == 4)) : lk a = lk b := by unfold lk; rw [h]
theorem strBy_link {l0 : List Sp} {j : Nat} {x : Sp} (h : l0[j]? = some x) : ((strBy l0 j x).kind == 4) = (x.kind == 4) := by
  show (strK l0 _ j x.kind == 4) = _
  unfold strK
  rw [bold_at h]
  by_cases e : x.kind = 7
  · rw [e]; split <;> rfl
  · have : (x.kind == 7) = false := by simpa using e
    rw [this]; rfl
theorem lk_strBy {l0 l : List Sp} {k : Nat} (h : ∀ j x, l[j]? = some x → l0[j + k]? = some x) : lk (l.mapIdx (fun i => strBy l0 (i + k))) = lk l := by
  apply lk_congr
  apply List.ext_getElem?
  intro j
  rw [List.getElem?_map, List.getElem?_map, List.getElem?_mapIdx]
  cases e : l[j]? with
  | none => rfl
  | some x => simp only [Option.map_some]; rw [strBy_link (h j x e)]
theorem lk_mstep (acc : List Sp) (x : Sp) : lk (mstep acc x) = lk acc + lk [x] := by
  unfold mstep
  rcases List.eq_nil_or_concat acc with rfl | ⟨q, y, rfl⟩
  · rw [lk_nil, Nat.zero_add]; rfl
  · rw [List.concat_eq_append, List.getLast?_concat]
    dsimp only
    split
    · rename_i c
      simp only [Bool.and_eq_true, beq_iff_eq] at c
      have n1 : lk [({ y with to_ := x.to_ } : Sp)] = 0 := by rw [lk_cons, lk_nil, if_neg (show ¬ y.kind = 4 by omega)]
      have n2 : lk [y] = 0 := by rw [lk_cons, lk_nil, if_neg (show ¬ y.kind = 4 by omega)]
      have n3 : lk [x] = 0 := by rw [lk_cons, lk_nil, if_neg (show ¬ x.kind = 4 by omega)]
      rw [List.dropLast_concat, lk_append, lk_append, n1, n2, n3]
    · rw [lk_append]
theorem lk_merge : ∀ {l acc : List Sp}, lk (merge acc l) = lk acc + lk l
  | [], acc => rfl
  | x :: l, acc => by
    show lk (merge (mstep acc x) l) = _
    rw [lk_merge, lk_mstep, lk_cons x l, lk_cons x [], lk_nil]; omega
theorem lk_map {g : Sp → Sp} (h : ∀ x, (g x).kind = x.kind) (l : List Sp) : lk (l.map g) = lk l := by
  apply lk_congr
  rw [List.map_map]
  apply List.map_congr_left
  intro x _
  show ((g x).kind == 4) = _
  rw [h]
theorem fillT_kind (s : ByteArray) (x : Sp) : (fillT s x).kind = x.kind := by unfold fillT; split <;> rfl
theorem lk_spans (s : ByteArray) : lk (spans s) = lk (toks s 0) := by
  unfold spans
  rw [lk_map (fillT_kind s), lk_merge, lk_nil, Nat.zero_add, strong_eq]
  exact lk_strBy (l0 := toks s 0) (l := toks s 0) (k := 0) (fun j x h => h)

/-- the n-th link cuts a list -/
theorem lk_cut : ∀ {l : List Sp} {n : Nat}, n < lk l → ∃ a x b, l = a ++ x :: b ∧ x.kind = 4 ∧ lk a = n
  | [], n, h => absurd h (Nat.not_lt_zero _)
  | y :: l, n, h => by
    rw [lk_cons] at h
    by_cases e : y.kind = 4
    · rw [if_pos e] at h
      cases n with
      | zero => exact ⟨[], y, l, rfl, e, rfl⟩
      | succ n =>
        obtain ⟨a, x, b, h1, h2, h3⟩ := lk_cut (l := l) (n := n) (by omega)
        exact ⟨y :: a, x, b, by rw [h1]; rfl, h2, by rw [lk_cons, if_pos e, h3]; omega⟩
    · rw [if_neg e] at h
      obtain ⟨a, x, b, h1, h2, h3⟩ := lk_cut (l := l) (n := n) (by omega)
      exact ⟨y :: a, x, b, by rw [h1]; rfl, h2, by rw [lk_cons, if_neg e, h3]; omega⟩

theorem cont_end {l : List Sp} {a b c : Nat} (h1 : Cont a l b) (h2 : Cont a l c) : b = c := by
  induction l generalizing a with
  | nil => exact h1.symm.trans h2
  | cons y l ih => exact ih h1.2.2 h2.2.2

/-- the spans of a text whose n-th link has been given the target U -/
theorem spans_ret {s U : ByteArray} {n : Nat} (hn : n < lk (spans s)) (hU : isTgt U = true) :
    ∃ F1 F2 x e, spans s = F1 ++ x :: F2 ∧ x.kind = 4 ∧ lk F1 = n ∧ Cont 0 F1 x.frm ∧ x.frm + 2 + x.text.size = e ∧ e + 2 ≤ x.to_ ∧ x.to_ ≤ s.size ∧ Cont x.to_ F2 s.size ∧ bt s x.frm = 91 ∧ bt s (x.frm + 1) = 91 ∧
      spans (retS s U x.frm e) = F1 ++ { x with text := U, to_ := shF e (x.frm + 2 + U.size) x.to_ } :: F2.map (mv (shF e (x.frm + 2 + U.size))) := by
  rw [lk_spans] at hn
  obtain ⟨L1, x, L2, hL, hk, hl⟩ := lk_cut hn
  have hall := toks_cont s _ 0 rfl (Nat.zero_le _)
  rw [hL] at hall
  obtain ⟨p, hp1, hp2⟩ := cont_split hall
  obtain ⟨e, LI, ho, hr⟩ := toks_ret (U := U) hL hp1 hk hU
  obtain ⟨h1, h2, h3, h4⟩ := LI.es
  have hxto : x.to_ ≤ s.size := (cont_le hp2.2.2).1
  have hsm := retS_same (U := U) h2 (Nat.le_of_lt h1)
  have hpre := retS_pre LI hU
  have hfr := LI.fr
  obtain ⟨f, hf⟩ : ∃ f, f = shF e (p + 2 + U.size) := ⟨_, rfl⟩
  obtain ⟨o, hoo⟩ : ∃ o, o = retS s U p e := ⟨_, rfl⟩
  rw [← hf, ← hoo] at ho
  obtain ⟨S1, S2, a1, a2, a3, a4⟩ := strong_parts (L1 := L1) (L2 := L2) (x := x) (y := { x with text := U, to_ := f x.to_ }) (f := f) rfl
  obtain ⟨x1, hx1⟩ : ∃ x1, x1 = strBy (L1 ++ x :: L2) L1.length x := ⟨_, rfl⟩
  have hget : (L1 ++ x :: L2)[L1.length]? = some x := by simp
  have hkx : x1.kind = 4 := by
    have := strBy_link hget
    rw [← hx1] at this
    simp [hk] at this
    exact this
  have hsame : x1.frm = x.frm ∧ x1.to_ = x.to_ ∧ x1.text = x.text ∧ x1.show_ = x.show_ ∧ x1.id = x.id := by rw [hx1]; exact ⟨rfl, rfl, rfl, rfl, rfl⟩
  have hy1 : strBy (L1 ++ x :: L2) L1.length { x with text := U, to_ := f x.to_ } = { x1 with text := U, to_ := f x1.to_ } := by rw [hx1]; rfl
  rw [hy1] at a2
  rw [← hx1] at a1
  have c1 : Cont 0 S1 p := by rw [a3]; exact cont_mapIdx (fun _ _ => ⟨rfl, rfl⟩) hp1
  have c2 : Cont x.to_ S2 s.size := by rw [a4]; exact cont_mapIdx (fun _ _ => ⟨rfl, rfl⟩) hp2.2.2
  have m1 := merge_cont (a := 0) (b := 0) (acc := []) rfl c1
  have m2 := merge_cont (a := x.to_) (b := x.to_) (acc := []) rfl c2
  have e1 : merge [] (S1 ++ x1 :: S2) = merge [] S1 ++ [x1] ++ merge [] S2 := by
    rw [merge_append]
    show merge (mstep (merge [] S1) x1) S2 = _
    rw [mstep_no (fun r y _ => by rw [hkx]; rfl)]
    have := merge_wall (r := merge [] S1) (x := x1) (by omega) (l := S2) (acc := [])
    rwa [List.append_nil] at this
  have e2 : merge [] (S1 ++ { x1 with text := U, to_ := f x1.to_ } :: S2.map (mv f)) = merge [] S1 ++ [{ x1 with text := U, to_ := f x1.to_ }] ++ (merge [] S2).map (mv f) := by
    rw [merge_append]
    show merge (mstep (merge [] S1) _) (S2.map (mv f)) = _
    rw [mstep_no (fun r y _ => by show (x1.kind == 1 && _ && _) = false; rw [hkx]; rfl)]
    have := merge_wall (r := merge [] S1) (x := { x1 with text := U, to_ := f x1.to_ }) (by show x1.kind ≠ 1; omega) (l := S2.map (mv f)) (acc := [])
    rw [List.append_nil] at this
    rw [this]
    congr 1
    have := merge_map (f := f) (l := S2) (acc := [])
    exact this
  have fx : fillT s x1 = x1 := by unfold fillT; rw [if_neg (by omega)]
  have fy : fillT o { x1 with text := U, to_ := f x1.to_ } = { x1 with text := U, to_ := f x1.to_ } := by unfold fillT; rw [if_neg (by show ¬ x1.kind = 1; omega)]
  refine ⟨(merge [] S1).map (fillT s), (merge [] S2).map (fillT s), x1, e, ?_, hkx, ?_, ?_, ?_, ?_, ?_, ?_, by rw [hsame.1, hfr]; exact LI.b0, by rw [hsame.1, hfr]; exact LI.b1, ?_⟩
  · unfold spans
    rw [hL, a1, e1, List.map_append, List.map_append, List.map_singleton, fx]
    simp
  · rw [lk_map (fillT_kind s), lk_merge, lk_nil, Nat.zero_add, a3, ← hl]
    exact lk_strBy (l0 := L1 ++ x :: L2) (l := L1) (k := 0) (fun j y h => by
      have hj := (List.getElem?_eq_some_iff.1 h).1
      rw [Nat.add_zero, List.getElem?_append_left hj]; exact h)
  · rw [hsame.1, hfr]; exact cont_map (fillT_pos s) m1
  · rw [hsame.1, hsame.2.2.1, hfr]; omega
  · rw [hsame.2.1]; exact h3
  · rw [hsame.2.1]; exact hxto
  · rw [hsame.2.1]; exact cont_map (fillT_pos s) m2
  · rw [hsame.1, hfr, ← hoo, ← hf]
    unfold spans
    rw [ho, a2, e2, List.map_append, List.map_append, List.map_singleton, fy]
    rw [show ((merge [] S1).map (fillT o)) = (merge [] S1).map (fillT s) from List.map_congr_left (fun y hy => by
      have hy2 := cont_mem m1 y hy
      unfold fillT
      split
      · rw [hoo, hpre.ext (by omega)]
      · rfl)]
    rw [List.map_map, List.map_map]
    rw [show ((merge [] S2).map (fillT o ∘ mv f)) = (merge [] S2).map (mv f ∘ fillT s) from List.map_congr_left (fun y hy => by
      have hy2 := cont_mem m2 y hy
      show fillT o (mv f y) = mv f (fillT s y)
      unfold fillT
      have hk2 : (mv f y).kind = y.kind := rfl
      rw [hk2]
      split
      · have hex : o.extract (f y.frm) (f y.to_) = s.extract y.frm y.to_ := by
          rw [hoo, hf]
          exact hsm.ext (by omega) (by omega) (by unfold shF; omega) (by unfold shF; omega)
        show ({ mv f y with text := o.extract (f y.frm) (f y.to_) } : Sp) = _
        rw [hex]; rfl
      · rfl)]
    simp
    exact hsame.1.trans hfr
end Go.Proofs.YtcbmddgafkoooaaGreatDoor
