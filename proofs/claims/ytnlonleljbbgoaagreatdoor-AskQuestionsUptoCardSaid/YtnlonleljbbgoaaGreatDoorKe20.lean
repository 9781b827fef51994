/-
  DERIVED. Plain law: the tokens of a whole text, one after the other; each is no shorter than a byte and lies in the text. Conditions: none.
  The walk of text.tokens. Conditions: the text's size.
  By an AI agent.
-/
import Derived.Test.YtnlonleljbbgoaaGreatDoorKe19
import Derived.Deep.LoopGhost
namespace Go.Proofs.YtnlonleljbbgoaaGreatDoor
open Go.RowKit

theorem tokE_to {s : ByteArray} {a : Nat} {x : Sp} (h : tokE s a = some x) : x.frm = a ∧ a < x.to_ ∧ x.to_ ≤ s.size := by
  unfold tokE at h
  split at h
  · rename_i g
    injection h with h; subst h
    have : 0 ≤ bt s (a + 1) := by have := g.2; simp [punB] at this; omega
    have := bt_in this
    exact ⟨rfl, by show a < a + 2; omega, by show a + 2 ≤ _; omega⟩
  · cases h
theorem tokC_to {s : ByteArray} {a : Nat} {x : Sp} (h : tokC s a = some x) : x.frm = a ∧ a < x.to_ ∧ x.to_ ≤ s.size := by
  unfold tokC at h
  dsimp only at h
  split at h
  · rename_i g
    injection h with h; subst h
    exact ⟨rfl, by show a < _ + 1; omega, by show _ + 1 ≤ _; omega⟩
  · cases h
theorem tokL_to {s : ByteArray} {a : Nat} {x : Sp} (h : tokL s a = some x) : x.frm = a ∧ a < x.to_ ∧ x.to_ ≤ s.size := by
  unfold tokL at h
  dsimp only at h
  have h1 := upto_ge (notB tgtB) s (a + 2)
  have h2 := upto_ge (isAny [91, 93]) s (upto (notB tgtB) s (a + 2) + 1)
  split at h
  · split at h
    · rename_i g
      injection h with h; subst h
      have := bt_in (s := s) (i := upto (notB tgtB) s (a + 2) + 1) (by omega)
      exact ⟨rfl, by show a < _ + 2; omega, by show _ + 2 ≤ _; omega⟩
    · split at h
      · rename_i g
        injection h with h; subst h
        have := bt_in (s := s) (i := upto (isAny [91, 93]) s (upto (notB tgtB) s (a + 2) + 1) + 1) (by omega)
        exact ⟨rfl, by show a < _ + 2; omega, by show _ + 2 ≤ _; omega⟩
      · cases h
  · cases h
theorem tokR_to {s : ByteArray} {a : Nat} {x : Sp} (h : tokR s a = some x) : x.frm = a ∧ a < x.to_ ∧ x.to_ ≤ s.size := by
  unfold tokR at h
  dsimp only at h
  split at h
  · rename_i g
    injection h with h; subst h
    have := bt_in (s := s) (i := upto (notB digB) s (a + 2) + 1) (by omega)
    exact ⟨rfl, by show a < _ + 2; omega, by show _ + 2 ≤ _; omega⟩
  · cases h
theorem tokT_to {s : ByteArray} {a : Nat} {x : Sp} (h : tokT s a = some x) : x.frm = a ∧ a < x.to_ ∧ x.to_ ≤ s.size := by
  unfold tokT at h
  dsimp only at h
  split at h
  · rename_i g
    injection h with h; subst h
    have h0 := bt_in (s := s) (i := a) (by omega)
    have h1 := upto_ge (notB tagB) s (a + 1)
    have h2 := upto_le (stop := notB tagB) (s := s) (i := a + 1) (by omega)
    exact ⟨rfl, by show a < upto _ _ _; omega, by show upto _ _ _ ≤ _; omega⟩
  · cases h
theorem tokB_to {s : ByteArray} {a : Nat} {x : Sp} (h : tokB s a = some x) : x.frm = a ∧ a < x.to_ ∧ x.to_ ≤ s.size := by
  unfold tokB at h
  split at h
  · rename_i g
    injection h with h; subst h
    have := bt_in (s := s) (i := a + 1) (by omega)
    exact ⟨rfl, by show a < a + 2; omega, by show a + 2 ≤ _; omega⟩
  · cases h
theorem tokK_to {k : Nat} {s : ByteArray} {a : Nat} {x : Sp} (h : tokK k s a = some x) : x.frm = a ∧ a < x.to_ ∧ x.to_ ≤ s.size := by
  unfold tokK at h
  split at h
  · exact tokE_to h
  · exact tokC_to h
  · exact tokL_to h
  · exact tokR_to h
  · exact tokT_to h
  · exact tokB_to h

theorem tokA_some {k : Nat} {s : ByteArray} {a : Nat} {x : Sp} (hk : k < 6) (h0 : ∀ j, j < k → tokK j s a = none) (h : tokK k s a = some x) : tokA s a = x := by
  unfold tokA
  match k, hk with
  | 0, _ => rw [show tokE s a = some x from h]; rfl
  | 1, _ => rw [show tokE s a = none from h0 0 (by omega), show tokC s a = some x from h]; rfl
  | 2, _ => rw [show tokE s a = none from h0 0 (by omega), show tokC s a = none from h0 1 (by omega), show tokL s a = some x from h]; rfl
  | 3, _ => rw [show tokE s a = none from h0 0 (by omega), show tokC s a = none from h0 1 (by omega), show tokL s a = none from h0 2 (by omega), show tokR s a = some x from h]; rfl
  | 4, _ => rw [show tokE s a = none from h0 0 (by omega), show tokC s a = none from h0 1 (by omega), show tokL s a = none from h0 2 (by omega), show tokR s a = none from h0 3 (by omega), show tokT s a = some x from h]; rfl
  | 5, _ => rw [show tokE s a = none from h0 0 (by omega), show tokC s a = none from h0 1 (by omega), show tokL s a = none from h0 2 (by omega), show tokR s a = none from h0 3 (by omega), show tokT s a = none from h0 4 (by omega), show tokB s a = some x from h]; rfl
theorem tokA_none {s : ByteArray} {a : Nat} (h0 : ∀ j, j < 6 → tokK j s a = none) : tokA s a = plainAt a := by
  unfold tokA
  rw [show tokE s a = none from h0 0 (by omega), show tokC s a = none from h0 1 (by omega), show tokL s a = none from h0 2 (by omega), show tokR s a = none from h0 3 (by omega), show tokT s a = none from h0 4 (by omega), show tokB s a = none from h0 5 (by omega)]; rfl

theorem tokA_to {s : ByteArray} {a : Nat} (ha : a < s.size) : (tokA s a).frm = a ∧ a < (tokA s a).to_ ∧ (tokA s a).to_ ≤ s.size := by
  rcases (Classical.em (∃ k, k < 6 ∧ ∃ x, tokK k s a = some x ∧ ∀ j, j < k → tokK j s a = none)) with ⟨k, hk, x, h, h0⟩ | hn
  · rw [tokA_some hk h0 h]; exact tokK_to h
  · have : ∀ n, n ≤ 6 → ∀ j, j < n → tokK j s a = none := by
      intro n
      induction n with
      | zero => intro _ j hj; omega
      | succ n ih =>
        intro hn' j hj
        rcases Nat.lt_or_ge j n with g | g
        · exact ih (by omega) j g
        · obtain rfl : j = n := by omega
          cases e : tokK j s a with
          | none => rfl
          | some x => exact absurd ⟨j, by omega, x, e, ih (by omega)⟩ hn
    rw [tokA_none (this 6 (Nat.le_refl _))]
    exact ⟨rfl, by show a < a + 1; omega, ha⟩

def toksN (s : ByteArray) : Nat → Nat → List Sp
  | 0, _ => []
  | n + 1, a => if a < s.size then tokA s a :: toksN s n (tokA s a).to_ else []
/-- the tokens from a place on -/
def toks (s : ByteArray) (a : Nat) : List Sp := toksN s (s.size - a) a
theorem toksN_enough (s : ByteArray) : ∀ n m a, s.size - a ≤ n → s.size - a ≤ m → toksN s n a = toksN s m a
  | 0, m, a, h, _ => by
    cases m with
    | zero => rfl
    | succ m => simp only [toksN]; rw [if_neg (by omega)]
  | n + 1, 0, a, _, h => by simp only [toksN]; rw [if_neg (by omega)]
  | n + 1, m + 1, a, h1, h2 => by
    simp only [toksN]
    by_cases ha : a < s.size
    · rw [if_pos ha, if_pos ha]
      have := tokA_to ha
      rw [toksN_enough s n m _ (by omega) (by omega)]
    · rw [if_neg ha, if_neg ha]
theorem toks_end {s : ByteArray} {a : Nat} (h : s.size ≤ a) : toks s a = [] := by unfold toks; rw [show s.size - a = 0 by omega]; rfl
theorem toks_step {s : ByteArray} {a : Nat} (h : a < s.size) : toks s a = tokA s a :: toks s (tokA s a).to_ := by
  unfold toks
  obtain ⟨n, hn⟩ : ∃ n, s.size - a = n + 1 := ⟨s.size - a - 1, by omega⟩
  rw [hn]
  simp only [toksN]
  rw [if_pos h]
  have := tokA_to h
  rw [toksN_enough s n (s.size - (tokA s a).to_) _ (by omega) (by omega)]

/-- the cells of spans -/
def flatC (l : List Sp) : List Value := l.flatMap spCells
theorem flatC_snoc (l : List Sp) (x : Sp) : flatC (l ++ [x]) = flatC l ++ spCells x := by unfold flatC; rw [List.flatMap_append]; simp
end Go.Proofs.YtnlonleljbbgoaaGreatDoor
namespace Go.Proofs.YtnlonleljbbgoaaGreatDoor
open Go.RowKit

theorem span_info : (Tryz.prog.info? 132).map (fun i => (i.zero, i.size, i.bytes)) = some (some spZ, 7, 72) := by kernel_rfl

theorem cells_new (w : World) (g : Nat) (cs : List Value) (t : TypeId) (hg : g = w.heap.size) : ∀ j u, cs[j]? = some u → (w.alloc (.cells cs.toArray t)).cell? ((⟨g, 0, none⟩ : Addr).add j) = some u := by
  subst hg
  intro j u hj
  have : ((⟨w.heap.size, 0, none⟩ : Addr).add j) = ⟨w.heap.size, j, none⟩ := by unfold Addr.add; split <;> simp [*]
  rw [this, (Blk.new w t cs.toArray).cell j]
  simpa using hj
theorem sp_oneCell (x : Sp) : ∀ u ∈ spCells x, u.oneCell' = true := by
  intro u hu; simp [spCells] at hu; rcases hu with rfl | rfl | rfl | rfl | rfl | rfl | rfl <;> rfl

/-- what an append of a span leaves -/
theorem span_step {w w1 w2 : World} {B n : Nat} {l : List Sp} {x : Sp} {v v2 : Value} {o1 o2 : Obj} (_hw : B ≤ w.heap.size)
    (hown2 : w2.ownsRow B 132 7 v2 (n + 1) (flatC l ++ spCells x)) (hg2 : ((w1.alloc o1).alloc o2).grownBy w2 v.ownBlock) (hb : Below w.heap.size w w1) (hown1 : w1.ownsRow B 132 7 v n (flatC l))
    (hv : ∀ g, v.ownBlock = some g → w.heap.size ≤ g) :
    w2.ownsRow B 132 7 v2 (n + 1) (flatC (l ++ [x])) ∧ Below w.heap.size w w2 := by
  have hlt := hown1.lt
  have hs := hb.size
  refine ⟨by rw [flatC_snoc]; exact hown2, ((hb.alloc (by omega) o1).alloc (by simp; omega) o2).grown hg2 (by simp; omega) hv⟩

/-- .. where the span's block is new alone -/
theorem span_step0 {w w1 w2 : World} {B n : Nat} {l : List Sp} {x : Sp} {v v2 : Value} {o1 : Obj} (_hw : B ≤ w.heap.size)
    (hown2 : w2.ownsRow B 132 7 v2 (n + 1) (flatC l ++ spCells x)) (hg2 : (w1.alloc o1).grownBy w2 v.ownBlock) (hb : Below w.heap.size w w1) (_hown1 : w1.ownsRow B 132 7 v n (flatC l))
    (hv : ∀ g, v.ownBlock = some g → w.heap.size ≤ g) :
    w2.ownsRow B 132 7 v2 (n + 1) (flatC (l ++ [x])) ∧ Below w.heap.size w w2 := by
  have hs := hb.size
  exact ⟨by rw [flatC_snoc]; exact hown2, (hb.alloc (by omega) o1).grown hg2 (by simp; omega) hv⟩
/-- the box that was laid before the append is as it was -/
theorem span_kept {w0 w1 w2 : World} {x : Sp} {o2 : Obj} {row : Option Nat} {t : TypeId} (hg2 : ((w1.alloc (.cells #[.int .i64 x.kind, .int .i64 x.frm, .int .i64 x.to_, .string x.text, .string x.show_, .int .i64 x.id, .bool x.strong] t)).alloc o2).grownBy w2 row)
    (hr : ∀ g, row = some g → g < w0.heap.size) (h0 : w0.heap.size ≤ w1.heap.size) : w2.cell? ⟨w1.heap.size, 2, none⟩ = some (.int .i64 x.to_) := by
  refine (World.cell?_of_block (hg2.block w1.heap.size (by simp; omega) (fun e => by have := hr _ e.symm; omega))).trans ?_
  refine (World.cell?_alloc_lt _ o2 _ (by simp)).trans ?_
  exact (Blk.new w1 t _).cell 2

set_option maxHeartbeats 1000000 in
set_option maxRecDepth 100000 in
theorem tokens_any (s : ByteArray) (w : World) (hs : s.size ≤ 4294967280) :
    Calls Tryz.prog 271 #[.string s] w fun e w' => ∃ v, e = .returned v ∧ w'.ownsRow w.heap.size 132 7 v (toks s 0).length (flatC (toks s 0)) ∧ Below w.heap.size w w' := by
  obtain ⟨i0, hi, hz0, hz1, hz2⟩ := info_parts span_info
  go_enter Tryz.func271, Tryz.ntmps271
  go_wp2
  go_step3
  go_wp2
  go_step3
  go_wp2
  go_loopg [3, 4] s.size (fun g s3 s4 wr => ∃ (a : Nat) (l : List Sp), a + g = s.size ∧ s4 = .int .i64 a ∧ l.length ≤ a ∧ Hid (l ++ toks s a = toks s 0) ∧ wr.ownsRow w.heap.size 132 7 s3 l.length (flatC l) ∧ Below w.heap.size w wr)
  case atStart => exact ⟨0, [], by omega, rfl, Nat.le_refl _, rfl, World.ownsRow_nil _ _ _ _, Below.refl _ _⟩
  case round =>
    obtain ⟨a, l, hag, rfl, hla, HI, hown, hbel⟩ := hrel
    by_cases ha : a < s.size
    · have ia : (a : Int) < (s.size : Int) := by omega
      go_wp2
      go_loopg [3, 4, 12] 6 (fun g t3 t4 t12 wi => ∃ k : Nat, k + g = 6 ∧ t12 = .int .i64 k ∧ t3 = u3 ∧ t4 = .int .i64 a ∧ Hid (∀ j, j < k → tokK j s a = none) ∧ wi.ownsRow w.heap.size 132 7 u3 l.length (flatC l) ∧ Below w.heap.size w wi)
      case atStart => exact ⟨0, by omega, rfl, rfl, rfl, fun j hj => by omega, hown, hbel⟩
      case round =>
        obtain ⟨k, hkg, rfl, rfl, rfl, HK, hown', hbel'⟩ := hrel
        clear hown hbel
        have hlt := hown'.lt
        by_cases hk : k < 6
        · have ik : (k : Int) < 6 := by omega
          have ik0 : (0 : Int) ≤ (k : Int) := by omega
          go_wp2_with fail
          refine (token_any s a k _ hs ha hk).mono ?_
          rintro e w1 ⟨rfl, hb1⟩
          have hown1 := own_below hown' hb1
          have hsz1 := hb1.size
          cases hx : tokK k s a with
          | none =>
            have HX : Hid (∀ j, j < k + 1 → tokK j s a = none) := fun j hj => by
              rcases Nat.lt_or_ge j k with g | g
              · exact HK.out j g
              · obtain rfl : j = k := by omega
                exact hx
            rw [show tokV none = .tuple #[.agg #[.int .i64 0, .int .i64 0, .int .i64 0, .string ⟨#[]⟩, .string ⟨#[]⟩, .int .i64 0, .bool false], .bool false] from rfl]
            clear hx HK
            go_wp2_with fail
            go_roundg (6 - (k + 1))
            case measure => omega
            case rel => exact ⟨k + 1, by omega, by go_num, rfl, rfl, HX, hown1.alloc _, (hbel'.trans (hb1.mono hbel'.size)).alloc (by have := hbel'.size; omega) _⟩
          | some x =>
            obtain ⟨x0, x1, x2⟩ := tokK_to hx
            have HX : Hid ((l ++ [x]) ++ toks s x.to_ = toks s 0) := by
              show _ = _
              rw [← HI.out, toks_step ha, tokA_some hk HK.out hx, List.append_assoc]; rfl
            rw [show tokV (some x) = .tuple #[.agg #[.int .i64 x.kind, .int .i64 x.frm, .int .i64 x.to_, .string x.text, .string x.show_, .int .i64 x.id, .bool x.strong], .bool true] from rfl]
            clear hx HK HI x0
            have hbelT := hbel'.trans (hb1.mono hbel'.size)
            have hsz2 := hbel'.size
            go_wp2_with (at_builtin; refine wpList_append_own_at _ rfl _ _ 129 rfl w.heap.size 132 i0 spZ 7 72 Tryz.underlying129 hi hz0 hz1 hz2 rfl (by decide) _ l.length _ rfl ((hown1.alloc _).alloc _) ⟨w1.heap.size + 1, 0, none⟩ 1 1 (spCells x) rfl rfl (cells_new _ _ (spCells x) _ (by simp)) (sp_oneCell _) (by unfold maxLen; omega) (by omega) (by simp; omega) ?_; intro v2 w2 hown2 hg2 _ _; have c2 := span_kept hg2 (fun g h => (hlt g h).2) hb1.size)
            have R := span_step (Nat.le_refl _) hown2 hg2 hbelT hown1 (fun g h => (hlt g h).1)
            clear hown2 hg2 hown1
            go_roundg (s.size - x.to_)
            case measure => omega
            case rel => exact ⟨x.to_, l ++ [x], by omega, by go_num, by simp; omega, HX, by simpa using R.1, R.2⟩
        · obtain rfl : k = 6 := by omega
          have HX : Hid ((l ++ [plainAt a]) ++ toks s (a + 1) = toks s 0) := by
            show _ = _
            rw [← HI.out, toks_step ha, tokA_none HK.out, List.append_assoc]; rfl
          have hsz2 := hbel'.size
          clear HK HI
          go_wp2_with (at_builtin; refine wpList_append_own_at _ rfl _ _ 129 rfl w.heap.size 132 i0 spZ 7 72 Tryz.underlying129 hi hz0 hz1 hz2 rfl (by decide) _ l.length _ rfl (hown'.alloc _) ⟨wr.heap.size, 0, none⟩ 1 1 (spCells (plainAt a)) rfl rfl (cells_new _ _ (spCells (plainAt a)) _ (by simp)) (sp_oneCell _) (by unfold maxLen; omega) (by omega) (by simp; omega) ?_; intro v2 w2 hown2 hg2 _ _)
          have R := span_step0 (Nat.le_refl _) hown2 hg2 hbel' hown' (fun g h => (hlt g h).1)
          clear hown2 hg2 hown'
          go_roundg (s.size - (a + 1))
          case measure => omega
          case rel => exact ⟨a + 1, l ++ [plainAt a], by omega, by go_num, by simp; omega, HX, by simpa using R.1, R.2⟩
    · have ia : (s.size : Int) ≤ (a : Int) := by omega
      have HE : l = toks s 0 := by rw [← HI.out, toks_end (by omega), List.append_nil]
      have HE := Lib.hid HE
      go_wp2
      try rw [Exit.noGoto_ret]
      go_ret
      exact ⟨_, rfl, by rw [← HE.out]; exact hown, hbel⟩
end Go.Proofs.YtnlonleljbbgoaaGreatDoor
