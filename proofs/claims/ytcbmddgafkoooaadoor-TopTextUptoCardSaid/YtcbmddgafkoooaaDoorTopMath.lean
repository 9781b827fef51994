/-
  DERIVED. Plain law: the pieces of a text, its bold parts, its escaped form, the places of what it shows. Conditions: none. By an AI agent.
-/
import Derived.Test.YtcbmddgafkoooaaDoorShownAt
import Derived.Test.YtcbmddgafkoooaaDoorEscaped
namespace Go.Proofs.YtcbmddgafkoooaaDoor
open Go.RowKit

/-! the bold parts -/
def e7 (x : Sp) : Nat := if x.kind = 7 then 1 else 0
/-- from n marks to m marks, each span strong as its marks say -/
def SG : Nat → List Sp → Nat → Prop
  | n, [], m => n = m
  | n, x :: r, m => x.strong = (x.kind == 7 || (n + e7 x) % 2 == 1) ∧ SG (n + e7 x) r m
theorem SG.app : ∀ {l r : List Sp} {a b c : Nat}, SG a l b → SG b r c → SG a (l ++ r) c
  | [], _, _, _, _, h, k => by cases h; exact k
  | _ :: _, _, _, _, _, h, k => ⟨h.1, SG.app h.2 k⟩
theorem SG.cut : ∀ {l r : List Sp} {a c : Nat}, SG a (l ++ r) c → ∃ b, SG a l b ∧ SG b r c
  | [], _, a, _, h => ⟨a, rfl, h⟩
  | _ :: _, _, _, _, h => by
    obtain ⟨b, h1, h2⟩ := SG.cut h.2
    exact ⟨b, ⟨h.1, h1⟩, h2⟩
theorem SG.map {g : Sp → Sp} (hg : ∀ x, (g x).kind = x.kind ∧ (g x).strong = x.strong) : ∀ {l : List Sp} {a b : Nat}, SG a l b → SG a (l.map g) b
  | [], _, _, h => h
  | x :: r, a, b, h => by
    have e : e7 (g x) = e7 x := by unfold e7; rw [(hg x).1]
    refine ⟨?_, ?_⟩
    · rw [(hg x).2, (hg x).1, e]; exact h.1
    · rw [e]; exact SG.map hg h.2
theorem SG.mstep {acc : List Sp} {x : Sp} {a n : Nat} (h : SG a acc n) (hx : x.strong = (x.kind == 7 || (n + e7 x) % 2 == 1)) : SG a (mstep acc x) (n + e7 x) := by
  have one : SG n [x] (n + e7 x) := ⟨hx, rfl⟩
  by_cases hj : ∃ r y, acc = r ++ [y] ∧ (x.kind == 1 && y.kind == 1 && y.strong == x.strong) = true
  · obtain ⟨r, y, rfl, hy⟩ := hj
    rw [mstep_yes hy]
    obtain ⟨b, h1, h2⟩ := SG.cut h
    simp only [Bool.and_eq_true, beq_iff_eq] at hy
    have ex : e7 x = 0 := by unfold e7; rw [if_neg (by omega)]
    rw [ex]
    exact SG.app h1 ⟨h2.1, h2.2⟩
  · rw [mstep_no (fun r y e => by
      cases hb : (x.kind == 1 && y.kind == 1 && y.strong == x.strong)
      · rfl
      · exact absurd ⟨r, y, e, hb⟩ hj)]
    exact SG.app h one
theorem SG.merge : ∀ {l acc : List Sp} {a n m : Nat}, SG a acc n → SG n l m → SG a (merge acc l) m
  | [], _, _, _, _, h, k => by cases k; exact h
  | x :: l, acc, a, n, m, h, k => show SG a (Go.Proofs.YtcbmddgafkoooaaDoor.merge (Go.Proofs.YtcbmddgafkoooaaDoor.mstep acc x) l) m from SG.merge (SG.mstep h k.1) k.2
theorem strong_sg (L : List Sp) : SG 0 (strong L) (cnt L L.length / 2 * 2) := by
  obtain ⟨P, hP⟩ : ∃ P, P = cnt L L.length / 2 * 2 := ⟨_, rfl⟩
  have hP2 : P % 2 = 0 := by omega
  have hPn : cnt L L.length ≤ P + 1 := by omega
  have key : ∀ d k, k + d = L.length → SG (min (cnt L k) P) ((strong L).drop k) P := by
    intro d
    induction d with
    | zero =>
      intro k hk
      rw [List.drop_eq_nil_of_le (by rw [strong_len]; omega)]
      show min (cnt L k) P = P
      rw [show k = L.length by omega]; omega
    | succ d ih =>
      intro k hk
      have hkl : k < L.length := by omega
      have hx := List.getElem?_eq_getElem hkl
      obtain ⟨x, hxe⟩ : ∃ x, x = L[k] := ⟨_, rfl⟩
      rw [← hxe] at hx
      have hs := strong_at hx
      rw [← hP] at hs
      have hk' : k < (strong L).length := by rw [strong_len]; exact hkl
      have hs' : (strong L)[k] = { x with kind := strK L P k x.kind, strong := strF L P k } := by
        rw [List.getElem?_eq_getElem hk'] at hs; injection hs
      rw [List.drop_eq_getElem_cons hk', hs']
      have hb := bold_at hx
      have hm : cnt L (k + 1) ≤ cnt L L.length := cnt_mono L (by omega)
      have hnext := ih (k + 1) (by omega)
      have hc : cnt L (k + 1) = cnt L k + (if bold L k = true then 1 else 0) := rfl
      have he : min (cnt L k) P + e7 { x with kind := strK L P k x.kind, strong := strF L P k } = min (cnt L (k + 1)) P := by
        unfold e7 strK
        cases hbk : bold L k
        · rw [hbk] at hc hb
          have : ¬ x.kind = 7 := by intro e; rw [e] at hb; exact absurd hb (by decide)
          simp [this]
          rw [hc]; simp
        · rw [hbk] at hc hb
          have k7 : x.kind = 7 := by simpa using hb.symm
          by_cases hlt : P < cnt L (k + 1)
          · simp [hlt]
            rw [if_pos rfl] at hc
            omega
          · simp [hlt, k7]
            rw [if_pos rfl] at hc
            omega
      refine ⟨?_, by rw [he]; exact hnext⟩
      rw [he]
      show strF L P k = (strK L P k x.kind == 7 || _)
      unfold strF strK
      by_cases hlt : P < cnt L (k + 1)
      · have d1 : decide (cnt L (k + 1) ≤ P) = false := by simp; omega
        have d2 : decide (P < cnt L (k + 1)) = true := by simp; omega
        have d3 : min (cnt L (k + 1)) P = P := by omega
        rw [d1, d2, d3, hP2]
        cases hbk : bold L k
        · rw [hbk] at hb
          show (false && _) = ((x.kind == 7) || (0 == 1))
          rw [← hb]; rfl
        · rfl
      · have d1 : decide (cnt L (k + 1) ≤ P) = true := by simp; omega
        have d2 : decide (P < cnt L (k + 1)) = false := by simp; omega
        have d3 : min (cnt L (k + 1)) P = cnt L (k + 1) := by omega
        rw [d1, d2, d3, hb]
        simp
  have := key L.length 0 (by omega)
  rw [List.drop_zero] at this
  simp only [cnt, Nat.zero_min] at this
  rw [← hP]; exact this
theorem fillT_ks (s : ByteArray) (x : Sp) : (fillT s x).kind = x.kind ∧ (fillT s x).strong = x.strong := by unfold fillT; split <;> exact ⟨rfl, rfl⟩
theorem spans_sg (s : ByteArray) : ∃ m, m % 2 = 0 ∧ SG 0 (spans s) m :=
  ⟨_, by omega, SG.map (fillT_ks s) (SG.merge (a := 0) (n := 0) rfl (strong_sg (toks s 0)))⟩

/-! what is shown of merged spans -/
theorem ext_join (s : ByteArray) {a c b : Nat} (h1 : a ≤ c) (h2 : c ≤ b) : (s.extract a b).data.toList = (s.extract a c).data.toList ++ (s.extract c b).data.toList := by
  rw [ext_list2, ext_list2, ext_list2]
  rw [show b - a = (c - a) + (b - c) by omega, List.take_add, List.drop_drop, show a + (c - a) = c by omega]
theorem shown_one (s : ByteArray) {x : Sp} (h : x.kind = 1) : shown s x = s.extract x.frm x.to_ := by
  unfold shown
  rw [if_neg (by omega), if_neg (by omega), if_neg (by omega)]
theorem shown_fill (s : ByteArray) (x : Sp) : shown s (fillT s x) = shown s x := by
  unfold fillT
  split
  · rename_i h
    rw [shown_one s (show ({ x with text := s.extract x.frm x.to_ } : Sp).kind = 1 from h), shown_one s h]
  · rfl
theorem plainL_fill (s : ByteArray) (l : List Sp) : plainL s (l.map (fillT s)) = plainL s l := by
  unfold plainL
  rw [List.flatMap_map]
  congr 1
  funext x
  rw [shown_fill]
theorem plainL_app (s : ByteArray) (l r : List Sp) : plainL s (l ++ r) = plainL s l ++ plainL s r := by unfold plainL; rw [List.flatMap_append]
theorem plainL_mstep {s : ByteArray} {acc : List Sp} {x : Sp} {a b : Nat} (h : Cont a acc b) (hx : x.frm = b) (hl : b < x.to_) : plainL s (mstep acc x) = plainL s acc ++ (shown s x).data.toList := by
  by_cases hj : ∃ r y, acc = r ++ [y] ∧ (x.kind == 1 && y.kind == 1 && y.strong == x.strong) = true
  · obtain ⟨r, y, rfl, hy⟩ := hj
    rw [mstep_yes hy, plainL_snoc, plainL_snoc, List.append_assoc]
    simp only [Bool.and_eq_true, beq_iff_eq] at hy
    obtain ⟨c, h1, h2⟩ := cont_split h
    obtain ⟨h3, h4, h5⟩ := h2
    have h5 : y.to_ = b := h5
    rw [shown_one s (show ({ y with to_ := x.to_ } : Sp).kind = 1 from hy.1.2), shown_one s hy.1.2, shown_one s hy.1.1]
    show plainL s r ++ (s.extract y.frm x.to_).data.toList = plainL s r ++ ((s.extract y.frm y.to_).data.toList ++ (s.extract x.frm x.to_).data.toList)
    rw [hx, ← h5, ← ext_join s (a := y.frm) (c := y.to_) (b := x.to_) (by omega) (by omega)]
  · rw [mstep_no (fun r y e => by
      cases hb : (x.kind == 1 && y.kind == 1 && y.strong == x.strong)
      · rfl
      · exact absurd ⟨r, y, e, hb⟩ hj)]
    exact plainL_snoc s acc x
theorem plainL_merge {s : ByteArray} : ∀ {l acc : List Sp} {a b c : Nat}, Cont a acc b → Cont b l c → plainL s (merge acc l) = plainL s acc ++ plainL s l
  | [], acc, _, _, _, _, _ => by show plainL s acc = _; unfold plainL; simp
  | x :: l, acc, a, b, c, h, k => by
    show plainL s (merge (mstep acc x) l) = _
    rw [plainL_merge (mstep_cont h k.1 k.2.1) k.2.2, plainL_mstep h k.1 k.2.1, List.append_assoc]
    rfl

/-! the escaped form -/
/-- the tokens of an escaped text -/
def escT (t : ByteArray) : Nat → List UInt8 → List Sp
  | _, [] => []
  | a, c :: r => if escB c = true then ⟨2, a, a + 2, t.extract (a + 1) (a + 2), noB, 0, false⟩ :: escT t (a + 2) r else plainAt a :: escT t (a + 1) r
theorem escL_cons (c : UInt8) (r : List UInt8) : escL (c :: r) = escC c ++ escL r := rfl
theorem toks_esc (t : ByteArray) : ∀ (r p : List UInt8), t.data.toList = p ++ escL r → toks t p.length = escT t p.length r
  | [], p, h => by
    have hz : t.size = p.length := by
      have := congrArg List.length h
      simpa [escL] using this
    rw [toks_end (by omega)]; rfl
  | c :: r, p, h => by
    rw [escL_cons] at h
    have hz := congrArg List.length h
    have hts : t.data.toList.length = t.size := (Lib.size_eq t).symm
    rw [hts] at hz
    unfold escC at h hz
    by_cases hc : escB c = true
    · rw [if_pos hc] at h hz
      have b0 : bt t p.length = 92 := by rw [bt_list, h]; simp
      have b1 : bt t (p.length + 1) = c.toNat := by
        rw [bt_list, h, List.getElem?_append_right (by omega)]
        simp [show p.length + 1 - p.length = 1 by omega]
      have hp : punB (bt t (p.length + 1)) = true := by
        rw [b1]; unfold escB at hc; unfold punB
        simp only [decide_eq_true_eq] at hc ⊢
        omega
      simp only [List.length_append, List.length_cons, List.length_nil] at hz
      have hA : tokA t p.length = ⟨2, p.length, p.length + 2, t.extract (p.length + 1) (p.length + 2), noB, 0, false⟩ := by
        unfold tokA tokE
        rw [if_pos ⟨b0, hp⟩]; rfl
      rw [toks_step (by omega), hA]
      have ih := toks_esc t r (p ++ [92, c]) (by rw [h]; simp)
      simp only [List.length_append, List.length_cons, List.length_nil] at ih
      unfold escT
      rw [if_pos hc]
      exact congrArg _ ih
    · rw [if_neg hc] at h hz
      have b0 : bt t p.length = c.toNat := by rw [bt_list, h]; simp
      simp only [List.length_append, List.length_cons, List.length_nil] at hz
      unfold escB at hc
      simp only [decide_eq_true_eq] at hc
      have hA : tokA t p.length = plainAt p.length := by
        unfold tokA tokE tokC tokL tokR tokT tokB
        dsimp only
        rw [if_neg (by omega), if_neg (by omega), if_neg (by omega), if_neg (by omega), if_neg (by omega), if_neg (by omega)]
        rfl
      rw [toks_step (by omega), hA]
      have ih := toks_esc t r (p ++ [c]) (by rw [h]; simp)
      simp only [List.length_append, List.length_cons, List.length_nil] at ih
      unfold escT
      rw [if_neg (by unfold escB; simpa using hc)]
      exact congrArg _ ih
theorem escT_plain (t : ByteArray) : ∀ (r p : List UInt8), t.data.toList = p ++ escL r → plainL t (escT t p.length r) = r ∧ ∀ x ∈ escT t p.length r, x.strong = false ∧ x.kind ≠ 7
  | [], _, _ => ⟨rfl, fun x hx => by cases hx⟩
  | c :: r, p, h => by
    rw [escL_cons] at h
    unfold escC at h
    have one : ∀ a, t.data.toList[a]? = some c → (t.extract a (a + 1)).data.toList = [c] := fun a ha => by
      rw [ext_list2, show a + 1 - a = 1 by omega]
      obtain ⟨hl, he⟩ := List.getElem?_eq_some_iff.1 ha
      rw [List.drop_eq_getElem_cons hl, he]; rfl
    by_cases hc : escB c = true
    · rw [if_pos hc] at h
      obtain ⟨i1, i2⟩ := escT_plain t r (p ++ [92, c]) (by rw [h]; simp)
      simp only [List.length_append, List.length_cons, List.length_nil] at i1 i2
      unfold escT
      rw [if_pos hc]
      refine ⟨?_, fun x hx => ?_⟩
      · show (shown t _).data.toList ++ plainL t (escT t (p.length + 2) r) = _
        rw [i1]
        unfold shown
        rw [if_pos (.inl rfl)]
        rw [show (p.length + 2) = (p.length + 1) + 1 from rfl, one (p.length + 1) (by rw [h, List.getElem?_append_right (by omega)]; simp [show p.length + 1 - p.length = 1 by omega])]
        rfl
      · rcases List.mem_cons.1 hx with rfl | hx
        · exact ⟨rfl, show (2 : Int) ≠ 7 by decide⟩
        · exact i2 x hx
    · rw [if_neg hc] at h
      obtain ⟨i1, i2⟩ := escT_plain t r (p ++ [c]) (by rw [h]; simp)
      simp only [List.length_append, List.length_cons, List.length_nil] at i1 i2
      unfold escT
      rw [if_neg hc]
      refine ⟨?_, fun x hx => ?_⟩
      · show (shown t (plainAt p.length)).data.toList ++ plainL t (escT t (p.length + 1) r) = _
        rw [i1, shown_one t rfl]
        show (t.extract p.length (p.length + 1)).data.toList ++ r = _
        rw [one p.length (by rw [h]; simp)]
        rfl
      · rcases List.mem_cons.1 hx with rfl | hx
        · exact ⟨rfl, show (1 : Int) ≠ 7 by decide⟩
        · exact i2 x hx
theorem cnt_none {l : List Sp} (h : ∀ x ∈ l, x.kind ≠ 7) : ∀ n, cnt l n = 0
  | 0 => rfl
  | n + 1 => by
    show cnt l n + _ = 0
    rw [cnt_none h n]
    cases e : l[n]? with
    | none => unfold bold; rw [e]; rfl
    | some x =>
      have := h x (List.mem_of_getElem? e)
      rw [bold_at e, show (x.kind == 7) = false by simpa using this]; rfl
theorem strong_none {l : List Sp} (h : ∀ x ∈ l, x.strong = false ∧ x.kind ≠ 7) : strong l = l := by
  have hc := cnt_none (fun x hx => (h x hx).2)
  rw [strong_even (by rw [hc]), hc, withS_ext (g := fun _ => false) (fun j _ => strF_zero l j)]
  exact withS_same (fun x hx => (h x hx).1)
theorem plain_esc (s t : ByteArray) (h : t.data.toList = escL s.data.toList) : plain t = s := by
  have h0 : toks t 0 = escT t 0 s.data.toList := toks_esc t s.data.toList [] h
  have p12 := escT_plain t s.data.toList [] h
  rw [List.length_nil] at p12
  obtain ⟨p1, p2⟩ := p12
  apply ba_ext
  show plainL t (spans t) = _
  have hs : spans t = (merge [] (strong (toks t 0))).map (fillT t) := rfl
  have hc := toks_cont t _ 0 rfl (Nat.zero_le _)
  rw [hs, plainL_fill, h0, strong_none p2]
  rw [h0] at hc
  rw [plainL_merge (show Cont 0 [] 0 from rfl) hc]
  exact p1

/-! the places of what is shown -/
def Rise (a : Int) : List Int → Int → Prop
  | [], b => a ≤ b
  | k :: r, b => a ≤ k ∧ k < b ∧ Rise (k + 1) r b
theorem Rise.more : ∀ {l : List Int} {a b a' b' : Int}, Rise a l b → a' ≤ a → b ≤ b' → Rise a' l b'
  | [], a, b, a', b', h, h1, h2 => by have h : a ≤ b := h; show a' ≤ b'; omega
  | k :: r, a, b, a', b', h, h1, h2 => ⟨by have := h.1; omega, by have := h.2.1; omega, h.2.2.more (Int.le_refl _) h2⟩
theorem Rise.le : ∀ {l : List Int} {a b : Int}, Rise a l b → a ≤ b
  | [], _, _, h => h
  | _ :: _, _, _, h => by have := h.1; have := h.2.1; omega
theorem Rise.app : ∀ {l r : List Int} {a b c : Int}, Rise a l b → Rise b r c → Rise a (l ++ r) c
  | [], r, a, b, c, h, k => k.more h (Int.le_refl _)
  | k :: l, r, a, b, c, h, g => ⟨h.1, by have := h.2.1; have := g.le; omega, h.2.2.app g⟩
theorem rise_range (a : Int) : ∀ n : Nat, Rise a ((List.range n).map fun i => a + (i : Nat)) (a + n)
  | 0 => by show a ≤ _; omega
  | n + 1 => by
    rw [List.range_succ, List.map_append]
    refine (rise_range a n).app ?_
    show a + (n : Int) ≤ a + (n : Int) ∧ a + (n : Int) < a + ((n + 1 : Nat) : Int) ∧ a + (n : Int) + 1 ≤ a + ((n + 1 : Nat) : Int)
    omega
theorem srcL_rise {s : ByteArray} : ∀ {l : List Sp} {a b : Nat}, Cont a l b → b ≤ s.size → (∀ x ∈ l, SpIs s x) → Rise a (srcL s l) b
  | [], a, b, h, _, _ => by cases h; exact Int.le_refl _
  | x :: l, a, b, h, hb, hi => by
    have h2 := (cont_le h.2.2).1
    obtain ⟨c, e1, e2, e3, e4⟩ := shown_at (hi x (List.mem_cons_self ..)) (by have := h.1; have := h.2.1; omega) (by omega)
    have ih := srcL_rise h.2.2 hb (fun y hy => hi y (List.mem_cons_of_mem _ hy))
    have hr := rise_range (shownAt x) (shown s x).size
    rw [e1] at hr
    show Rise a (((List.range (shown s x).size).map fun i => shownAt x + (i : Nat)) ++ srcL s l) b
    rw [e1]
    exact (hr.more (by have := h.1; omega) (by omega)).app (ih.more (Int.le_refl _) (Int.le_refl _))
theorem srcL_byte {s : ByteArray} : ∀ {l : List Sp} {a b : Nat}, Cont a l b → b ≤ s.size → (∀ x ∈ l, SpIs s x) → (srcL s l).map (fun k => bt s k.toNat) = (plainL s l).map (fun c => (c.toNat : Int))
  | [], _, _, _, _, _ => rfl
  | x :: l, a, b, h, hb, hi => by
    have h2 := (cont_le h.2.2).1
    obtain ⟨c, e1, e2, e3, e4⟩ := shown_at (hi x (List.mem_cons_self ..)) (by have := h.1; have := h.2.1; omega) (by omega)
    have ih := srcL_byte h.2.2 hb (fun y hy => hi y (List.mem_cons_of_mem _ hy))
    show ((((List.range (shown s x).size).map fun i => shownAt x + (i : Nat)) ++ srcL s l).map _) = ((shown s x).data.toList ++ plainL s l).map _
    rw [List.map_append, List.map_append, ih]
    congr 1
    rw [e1, List.map_map]
    obtain ⟨n, hn⟩ : ∃ n, n = (shown s x).size := ⟨_, rfl⟩
    have hl : (shown s x).data.toList.length = n := by rw [hn]; exact (Lib.size_eq _).symm
    rw [← hn] at e4 e3 ⊢
    apply List.ext_getElem?
    intro j
    rw [List.getElem?_map, List.getElem?_map]
    by_cases hj : j < n
    · rw [List.getElem?_range hj, e4, ext_list2, List.getElem?_take_of_lt (by omega), List.getElem?_drop]
      show some (bt s ((c : Int) + (j : Nat)).toNat) = _
      rw [show ((c : Int) + (j : Nat)).toNat = c + j by omega, bt_list]
      have hlt : c + j < s.data.toList.length := by have := Lib.size_eq s; omega
      rw [List.getElem?_eq_getElem hlt]; rfl
    · rw [List.getElem?_eq_none (by simpa using hj), List.getElem?_eq_none (by rw [hl]; omega)]; rfl
theorem Rise.at_ : ∀ {l : List Int} {a b : Int} {j : Nat} {k : Int}, Rise a l b → l[j]? = some k → a ≤ k ∧ k < b ∧ (∀ i k', i < j → l[i]? = some k' → k' < k)
  | k0 :: r, a, b, 0, k, h, e => by
    simp at e; subst e
    exact ⟨h.1, h.2.1, fun i k' hi _ => absurd hi (Nat.not_lt_zero _)⟩
  | k0 :: r, a, b, j + 1, k, h, e => by
    have e : r[j]? = some k := by simpa using e
    obtain ⟨h1, h2, h3⟩ := Rise.at_ h.2.2 e
    have := h.1
    refine ⟨by omega, h2, fun i k' hi e' => ?_⟩
    rcases i with _ | i
    · simp at e'; omega
    · exact h3 i k' (by omega) (by simpa using e')
theorem plain_len (s : ByteArray) : (srcL s (spans s)).length = (plain s).size := by
  have := congrArg List.length (srcL_byte (spans_cont s) (Nat.le_refl _) (spans_is s))
  simp only [List.length_map] at this
  rw [this]; show _ = (plainL s (spans s)).toArray.size
  simp
/-- a byte that is shown: its place -/
theorem src_at {s : ByteArray} {i : Nat} (h : i < (plain s).size) : ∃ k : Nat, (srcL s (spans s)).getD i 0 = k ∧ k < s.size ∧ bt s k = bt (plain s) i ∧ (∀ j k', j < i → (srcL s (spans s)).getD j 0 = k' → k' < (k : Int)) := by
  have hr := srcL_rise (spans_cont s) (Nat.le_refl _) (spans_is s)
  have hb := srcL_byte (spans_cont s) (Nat.le_refl _) (spans_is s)
  rw [← plain_len] at h
  have e := List.getElem?_eq_getElem h
  obtain ⟨h1, h2, h3⟩ := hr.at_ e
  obtain ⟨k, hk⟩ : ∃ k : Nat, (srcL s (spans s))[i] = (k : Int) := ⟨_, (Int.toNat_of_nonneg (by simpa using h1)).symm⟩
  have e' := congrArg (fun l => l[i]?) hb
  simp only [List.getElem?_map, e, Option.map_some] at e'
  refine ⟨k, by rw [List.getD_eq_getElem?_getD, e, hk]; rfl, by omega, ?_, fun j k' hj hk' => ?_⟩
  · rw [hk] at e'
    rw [bt_list (plain s)]
    show _ = (match (plainL s (spans s))[i]? with | some c => (c.toNat : Int) | none => -1)
    cases ep : (plainL s (spans s))[i]? with
    | none => rw [ep] at e'; cases e'
    | some c => rw [ep] at e'; simp at e'; exact e'
  · have hjl : j < (srcL s (spans s)).length := by omega
    rw [List.getD_eq_getElem?_getD, List.getElem?_eq_getElem hjl] at hk'
    rw [← hk]
    exact h3 j k' hj (by rw [List.getElem?_eq_getElem hjl]; exact congrArg some hk')
end Go.Proofs.YtcbmddgafkoooaaDoor
