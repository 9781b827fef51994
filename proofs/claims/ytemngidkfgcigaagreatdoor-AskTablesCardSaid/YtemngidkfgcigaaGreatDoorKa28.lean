/-
  DERIVED. The walk of text.plainIn. Conditions: a span that lies in the text.
  The walk of the closure in text.PlainOf. Conditions: a span that lies in the text.
  The walk of text.PlainOf. Conditions: the text's size.
  The walk of the reference's PathOf. Conditions: sizes.
  Plain law: what a span shows stands in the text, at the place where it begins. Conditions: none.
  By an AI agent.
-/
import Derived.Test.YtemngidkfgcigaaGreatDoorKa25
import Derived.Shelf.Abstract
import Derived.Test.YtemngidkfgcigaaGreatDoorKa26
import Derived.Test.YtemngidkfgcigaaGreatDoorKa09
import Derived.Test.YtemngidkfgcigaaGreatDoorKa07
import Derived.Lib.OwnBridge
import Derived.Test.YtemngidkfgcigaaGreatDoorKa23
namespace Go.Proofs.YtemngidkfgcigaaGreatDoor
open Go.RowKit

/-- what a span shows -/
def shown (s : ByteArray) (x : Sp) : ByteArray :=
  if x.kind = 2 ∨ x.kind = 3 then x.text
  else if x.kind = 4 then (if x.show_.size = 0 then x.text else x.show_)
  else if x.kind = 7 then noB
  else s.extract x.frm x.to_
/-- .. and where it begins -/
def shownAt (x : Sp) : Int :=
  if x.kind = 2 ∨ x.kind = 3 then x.frm + 1
  else if x.kind = 4 then (if x.show_.size = 0 then x.frm + 2 else x.to_ - 2 - x.show_.size)
  else if x.kind = 7 then x.to_
  else x.frm
def shownV (s : ByteArray) (x : Sp) : Value := .tuple #[.string (shown s x), .int .i64 (shownAt x)]

set_option maxHeartbeats 1000000 in
set_option maxRecDepth 100000 in
theorem plainIn_any (s : ByteArray) (x : Sp) (w : World) (h1 : x.frm ≤ x.to_) (h2 : x.to_ ≤ s.size) (hs : s.size ≤ 4294967280) (hsh : x.show_.size ≤ 4294967280) :
    Calls Tryz.prog 51 #[.string s, spV x] w fun e w' => e = .returned (shownV s x) ∧ Below w.heap.size w w' := by
  have m0 : (0 : Int) ≤ (x.frm : Int) := by omega
  have m1 : (x.frm : Int) ≤ (x.to_ : Int) := by omega
  have m2 : (x.to_ : Int) ≤ (s.size : Int) := by omega
  rw [show spV x = .agg #[.int .i64 x.kind, .int .i64 x.frm, .int .i64 x.to_, .string x.text, .string x.show_, .int .i64 x.id, .bool x.strong] from rfl]
  have K : Blk (w.alloc (.cells #[.int .i64 x.kind, .int .i64 x.frm, .int .i64 x.to_, .string x.text, .string x.show_, .int .i64 x.id, .bool x.strong] 79)) w.heap.size 79 _ := Blk.new _ _ _
  cases e2 : (x.kind == 2)
  case true =>
    have HV : Hid (shownV s x = .tuple #[.string x.text, .int .i64 (x.frm + 1)]) := by
      show _ = _; unfold shownV shown shownAt; rw [if_pos (.inl (by simpa using e2)), if_pos (.inl (by simpa using e2))]
    go_enter Tryz.func51, Tryz.ntmps51
    go_wp2
    go_quiet (fail)
    go_wp2
    go_ret2
    exact ⟨by rw [HV.out]; rfl, bdrew ((Below.refl _ _).alloc (Nat.le_refl _) _) _⟩
  cases e3 : (x.kind == 3)
  case true =>
    have HV : Hid (shownV s x = .tuple #[.string x.text, .int .i64 (x.frm + 1)]) := by
      show _ = _; unfold shownV shown shownAt; rw [if_pos (.inr (by simpa using e3)), if_pos (.inr (by simpa using e3))]
    go_enter Tryz.func51, Tryz.ntmps51
    go_wp2
    go_quiet (fail)
    go_wp2
    go_ret2
    exact ⟨by rw [HV.out]; rfl, bdrew ((Below.refl _ _).alloc (Nat.le_refl _) _) _⟩
  have n23 : ¬ (x.kind = 2 ∨ x.kind = 3) := by simp at e2 e3; omega
  have N23 := Lib.hid n23
  clear n23
  cases e4 : (x.kind == 4)
  case true =>
    by_cases h0 : x.show_.size = 0
    · have hem : x.show_.toList.isEmpty = true := by rw [Lib.toList_data, empty_of h0]; rfl
      have HV : Hid (shownV s x = .tuple #[.string x.text, .int .i64 (x.frm + 2)]) := by
        show _ = _; unfold shownV shown shownAt; rw [if_neg N23.out, if_neg N23.out, if_pos (show x.kind = 4 by simpa using e4), if_pos (show x.kind = 4 by simpa using e4), if_pos h0, if_pos h0]
      clear h0
      go_enter Tryz.func51, Tryz.ntmps51
      go_wp2
      go_quiet (fail)
      go_wp2
      go_ret2
      exact ⟨by rw [HV.out]; rfl, bdrew ((Below.refl _ _).alloc (Nat.le_refl _) _) _⟩
    · have hem : x.show_.toList.isEmpty = false := notEmpty_of (by omega)
      have HV : Hid (shownV s x = .tuple #[.string x.show_, .int .i64 (x.to_ - 2 - x.show_.size)]) := by
        show _ = _; unfold shownV shown shownAt; rw [if_neg N23.out, if_neg N23.out, if_pos (show x.kind = 4 by simpa using e4), if_pos (show x.kind = 4 by simpa using e4), if_neg h0, if_neg h0]
      clear h0
      go_enter Tryz.func51, Tryz.ntmps51
      go_wp2
      go_quiet (fail)
      go_wp2
      go_ret2
      exact ⟨by rw [HV.out]; rfl, bdrew ((Below.refl _ _).alloc (Nat.le_refl _) _) _⟩
  cases e7 : (x.kind == 7)
  case true =>
    have HV : Hid (shownV s x = .tuple #[.string ⟨#[]⟩, .int .i64 x.to_]) := by
      show _ = _; unfold shownV shown shownAt; rw [if_neg N23.out, if_neg N23.out, if_neg (show ¬ x.kind = 4 by simpa using e4), if_neg (show ¬ x.kind = 4 by simpa using e4), if_pos (show x.kind = 7 by simpa using e7), if_pos (show x.kind = 7 by simpa using e7)]; rfl
    go_enter Tryz.func51, Tryz.ntmps51
    go_wp2
    go_quiet (fail)
    go_wp2
    go_ret2
    exact ⟨by rw [HV.out]; rfl, bdrew ((Below.refl _ _).alloc (Nat.le_refl _) _) _⟩
  have HV : Hid (shownV s x = .tuple #[.string (s.extract x.frm x.to_), .int .i64 x.frm]) := by
    show _ = _; unfold shownV shown shownAt; rw [if_neg N23.out, if_neg N23.out, if_neg (show ¬ x.kind = 4 by simpa using e4), if_neg (show ¬ x.kind = 4 by simpa using e4), if_neg (show ¬ x.kind = 7 by simpa using e7), if_neg (show ¬ x.kind = 7 by simpa using e7)]
  go_enter Tryz.func51, Tryz.ntmps51
  go_wp2
  go_quiet (fail)
  go_wp2
  go_ret2
  exact ⟨by rw [HV.out]; rfl, bdrew ((Below.refl _ _).alloc (Nat.le_refl _) _) _⟩
end Go.Proofs.YtemngidkfgcigaaGreatDoor
namespace Go.Proofs.YtemngidkfgcigaaGreatDoor
open Go.RowKit

theorem Bld.below {b B : Nat} {bs : List Value} {w w' : World} (h : Bld b B bs w) (hB : B ≤ w.heap.size) (hb : Below w.heap.size w w') : Bld b B bs w' := by
  obtain ⟨h1, p, v, hp, hbk, hown⟩ := h
  exact ⟨h1, p, v, hp, (hb.block b (by omega)).trans hbk, own_below hown hb⟩
theorem Keep.below {b B : Nat} {a w w' : World} (h : Keep b B a w) (hB : B ≤ w.heap.size) (hbB : b < B) (hb : Below w.heap.size w w') : Keep b B a w' :=
  ⟨h.1.trans (hb.mono (by omega)), fun k hk hne => (hb.block k (by omega)).trans (h.2 k hk hne)⟩

set_option maxHeartbeats 1000000 in
set_option maxRecDepth 100000 in
theorem plainOf1_any (s : ByteArray) (x : Sp) (w : World) (n0 b B : Nat) (bs : List Value) (hB : Bld b B bs w) (hc : w.cell? ⟨n0, 0, none⟩ = some (.string s)) (hn : n0 < w.heap.size) (hBw : B ≤ w.heap.size)
    (h1 : x.frm ≤ x.to_) (h2 : x.to_ ≤ s.size) (hs : s.size ≤ 4294967280) (hsh : x.show_.size ≤ 4294967280) (hlen : bs.length + (shown s x).size ≤ 140737488355328) :
    Calls Tryz.prog 50 #[spV x, .pointer (some ⟨n0, 0, none⟩), .pointer (some ⟨b, 0, none⟩)] w fun e w' => e = .returned (.tuple #[]) ∧ Bld b B (bs ++ Lib.strCells (shown s x)) w' ∧ Keep b B w w' := by
  have HB := Lib.hid hB
  have hbB := hB.1
  have HX : Hid (spV x = .agg #[.int .i64 x.kind, .int .i64 x.frm, .int .i64 x.to_, .string x.text, .string x.show_, .int .i64 x.id, .bool x.strong]) := rfl
  rw [HX.out]
  clear hB
  have hcA : ∀ o, (w.alloc o).cell? ⟨n0, 0, none⟩ = some (.string s) := fun o => (World.cell?_alloc_lt w o _ hn).trans hc
  clear hc
  go_enter Tryz.func50, Tryz.ntmps50
  go_wp2_with fail
  rw [← HX.out]
  refine (plainIn_any s x _ h1 h2 hs hsh).mono ?_
  rintro e w1 ⟨rfl, hb1⟩
  rw [show shownV s x = .tuple #[.string (shown s x), .int .i64 (shownAt x)] from rfl]
  have hz := hb1.size
  simp only [World.size_alloc] at hz
  have hB1 := (HB.out.alloc hBw (.cells #[.int .i64 x.kind, .int .i64 x.frm, .int .i64 x.to_, .string x.text, .string x.show_, .int .i64 x.id, .bool x.strong] 79)).below (by simp; omega) hb1
  have hK1 := ((Keep.refl b B w).alloc hBw (by omega) (.cells #[.int .i64 x.kind, .int .i64 x.frm, .int .i64 x.to_, .string x.text, .string x.show_, .int .i64 x.id, .bool x.strong] 79)).below (by simp; omega) hbB hb1
  have HB1 := Lib.hid hB1
  have HK1 := Lib.hid hK1
  clear hB1 hK1 hb1 HB
  go_wp2_with fail
  refine (writeString_any b B bs (shown s x) _ HB1.out hlen (by omega)).mono ?_
  rintro e w2 ⟨rfl, hB2, hK2⟩
  have R := Lib.hid (And.intro hB2 (HK1.out.trans hK2))
  clear hB2 hK2 HK1 HB1
  go_wp2
  go_end0
  exact ⟨rfl, R.out⟩
end Go.Proofs.YtemngidkfgcigaaGreatDoor
namespace Go.Proofs.YtemngidkfgcigaaGreatDoor
open Go.RowKit

/-- what a span says is no longer than the text -/
def OkT (s : ByteArray) (x : Sp) : Prop := x.text.size ≤ s.size + 2 ∧ x.show_.size ≤ s.size
theorem ext_le (s : ByteArray) (a b : Nat) : (s.extract a b).size ≤ s.size := by rw [ByteArray.size_extract]; omega
theorem okT_none (s : ByteArray) {x : Sp} (h1 : x.text = noB) (h2 : x.show_ = noB) : OkT s x := ⟨by rw [h1]; exact Nat.zero_le _, by rw [h2]; exact Nat.zero_le _⟩
theorem okT_one (s : ByteArray) {x : Sp} {a b : Nat} (h1 : x.text = s.extract a b) (h2 : x.show_ = noB) : OkT s x := ⟨by rw [h1]; have := ext_le s a b; omega, by rw [h2]; exact Nat.zero_le _⟩
theorem tokK_ok {k : Nat} {s : ByteArray} {a : Nat} {x : Sp} (h : tokK k s a = some x) : OkT s x := by
  unfold tokK at h
  split at h
  · unfold tokE at h; split at h
    · injection h with h; subst h; exact okT_one s rfl rfl
    · cases h
  · unfold tokC at h; dsimp only at h; split at h
    · injection h with h; subst h; exact okT_one s rfl rfl
    · cases h
  · unfold tokL at h; dsimp only at h; split at h
    · split at h
      · injection h with h; subst h; exact okT_one s rfl rfl
      · split at h
        · injection h with h; subst h
          exact ⟨by have := ext_le s (a + 2) (upto (notB tgtB) s (a + 2)); show ByteArray.size (s.extract _ _) ≤ _; omega, ext_le _ _ _⟩
        · cases h
    · cases h
  · unfold tokR at h; dsimp only at h; split at h
    · injection h with h; subst h; exact okT_one s rfl rfl
    · cases h
  · unfold tokT at h; dsimp only at h; split at h
    · injection h with h; subst h; exact okT_one s rfl rfl
    · cases h
  · unfold tokB at h; split at h
    · injection h with h; subst h; exact ⟨by show 2 ≤ _; omega, Nat.zero_le _⟩
    · cases h
theorem tokA_ok (s : ByteArray) (a : Nat) : OkT s (tokA s a) := by
  unfold tokA
  rcases h0 : tokE s a with _ | x
  · rcases h1 : tokC s a with _ | x
    · rcases h2 : tokL s a with _ | x
      · rcases h3 : tokR s a with _ | x
        · rcases h4 : tokT s a with _ | x
          · rcases h5 : tokB s a with _ | x
            · exact okT_none s rfl rfl
            · exact tokK_ok (k := 5) h5
          · exact tokK_ok (k := 4) h4
        · exact tokK_ok (k := 3) h3
      · exact tokK_ok (k := 2) h2
    · exact tokK_ok (k := 1) h1
  · exact tokK_ok (k := 0) h0
theorem toks_ok (s : ByteArray) (a : Nat) : ∀ x ∈ toks s a, OkT s x := by
  have key : ∀ n a, ∀ x ∈ toksN s n a, OkT s x := by
    intro n
    induction n with
    | zero => intro a x hx; cases hx
    | succ n ih =>
      intro a x hx
      simp only [toksN] at hx
      split at hx
      · rcases List.mem_cons.1 hx with rfl | hx
        · exact tokA_ok s a
        · exact ih _ _ hx
      · cases hx
  exact key _ a
theorem strong_ok {s : ByteArray} {l : List Sp} (h : ∀ x ∈ l, OkT s x) : ∀ x ∈ strong l, OkT s x := by
  intro x hx
  obtain ⟨j, hj, rfl⟩ := List.mem_mapIdx.1 hx
  have g := h _ (List.getElem_mem hj)
  exact ⟨g.1, g.2⟩
theorem merge_ok {s : ByteArray} : ∀ {l acc : List Sp}, (∀ x ∈ l, OkT s x) → (∀ x ∈ acc, OkT s x) → ∀ x ∈ merge acc l, OkT s x
  | [], acc, _, h2 => h2
  | x :: l, acc, h1, h2 => show ∀ y ∈ merge (mstep acc x) l, OkT s y from merge_ok (fun y hy => h1 y (List.mem_cons_of_mem _ hy)) (fun y hy => by
      unfold mstep at hy
      cases e : acc.getLast? with
      | none => rw [e] at hy; simp at hy; subst hy; exact h1 _ (List.mem_cons_self ..)
      | some z =>
        rw [e] at hy
        dsimp only at hy
        split at hy
        · rcases List.mem_append.1 hy with hy | hy
          · exact h2 y ((List.dropLast_sublist acc).subset hy)
          · simp at hy; subst hy; exact h2 z (List.mem_of_getLast? e)
        · rcases List.mem_append.1 hy with hy | hy
          · exact h2 y hy
          · simp at hy; subst hy; exact h1 _ (List.mem_cons_self ..))
theorem spans_ok (s : ByteArray) : ∀ x ∈ spans s, OkT s x := by
  intro x hx
  obtain ⟨y, hy, rfl⟩ := List.mem_map.1 hx
  have h := merge_ok (strong_ok (toks_ok s 0)) (fun _ h => by cases h) y hy
  unfold fillT
  split
  · exact ⟨by have := ext_le s y.frm y.to_; show ByteArray.size (s.extract _ _) ≤ _; omega, h.2⟩
  · exact h
theorem shown_le {s : ByteArray} {x : Sp} (h : OkT s x) : (shown s x).size ≤ s.size + 2 := by
  unfold shown
  repeat' split
  · exact h.1
  · exact h.1
  · have := h.2; omega
  · exact Nat.zero_le _
  · have := ext_le s x.frm x.to_; omega

/-- what is shown of spans, and of a text -/
def plainL (s : ByteArray) (l : List Sp) : List UInt8 := l.flatMap fun x => (shown s x).data.toList
def plain (s : ByteArray) : ByteArray := ⟨(plainL s (spans s)).toArray⟩
theorem plainL_snoc (s : ByteArray) (l : List Sp) (x : Sp) : plainL s (l ++ [x]) = plainL s l ++ (shown s x).data.toList := by simp [plainL]
theorem plainL_len {s : ByteArray} : ∀ {l : List Sp}, (∀ x ∈ l, OkT s x) → (plainL s l).length ≤ l.length * (s.size + 2)
  | [], _ => by simp [plainL]
  | x :: l, h => by
    have h1 := shown_le (h x (List.mem_cons_self ..))
    have h2 := plainL_len (l := l) (fun y hy => h y (List.mem_cons_of_mem _ hy))
    have e : (plainL s (x :: l)).length = (shown s x).size + (plainL s l).length := by
      unfold plainL; rw [List.flatMap_cons, List.length_append]; rfl
    rw [e, List.length_cons, Nat.add_mul]
    omega

theorem byteCells_append (a b : List UInt8) : Lib.byteCells (a ++ b) = Lib.byteCells a ++ Lib.byteCells b := by simp [Lib.byteCells]

set_option maxHeartbeats 1000000 in
set_option maxRecDepth 100000 in
theorem plainOf_any (s : ByteArray) (w : World) (hs : s.size ≤ 1048576) :
    Calls Tryz.prog 40 #[.string s] w fun e w' => e = .returned (.string (plain s)) ∧ Below w.heap.size w w' := by
  have he : ∀ args w, (callFunc 50 args).run Tryz.prog w = .ok (.enter 50 args) w := Go.Proofs.enters_of Tryz.func50 (by kernel_rfl) rfl
  obtain ⟨W, hW⟩ : ∃ W : World, W = (w.alloc (.cells #[.string s] 9)).alloc (.cells #[.pointer none, .slice none 0 0] 88) := ⟨_, rfl⟩
  have hWs : W.heap.size = w.heap.size + 2 := by rw [hW]; simp
  have hWb : W.heap[w.heap.size + 1]? = some (.cells #[.pointer none, .slice none 0 0] 88 (0, 0)) := by
    have := heap_alloc_new (w.alloc (.cells #[.string s] 9)) (.cells #[.pointer none, .slice none 0 0] 88)
    rw [hW]; simpa using this
  have hWc : W.cell? ⟨w.heap.size, 0, none⟩ = some (.string s) := by rw [hW]; simp
  have hbelW : Below w.heap.size w W := by rw [hW]; exact ((Below.refl _ _).alloc (Nat.le_refl _) _).alloc (by simp) _
  have HE := each_any s 50 #[.pointer (some ⟨w.heap.size, 0, none⟩), .pointer (some ⟨w.heap.size + 1, 0, none⟩)] W (by omega)
    (fun w1 l w2 => W.heap.size ≤ w1.heap.size ∧ w1.heap.size ≤ w2.heap.size ∧ w2.cell? ⟨w.heap.size, 0, none⟩ = some (.string s) ∧ Bld (w.heap.size + 1) w1.heap.size (Lib.byteCells (plainL s l)) w2 ∧ Keep (w.heap.size + 1) w1.heap.size w1 w2) he
    (fun w1 hb => by
      have hz := hb.size
      exact ⟨hz, Nat.le_refl _, (hb.cell (p := ⟨w.heap.size, 0, none⟩) (by show w.heap.size < _; omega)).trans hWc, Bld.fresh (by omega) ((hb.block _ (by omega)).trans hWb), Keep.refl _ _ _⟩)
    (fun w1 l w2 o hb ⟨a0, a1, a2, a3, a4⟩ => ⟨a0, by simp; omega, (World.cell?_alloc_lt w2 o _ (by show w.heap.size < _; omega)).trans a2, a3.alloc a1 o, a4.alloc a1 (by omega) o⟩)
    (fun w1 l w2 ⟨a0, a1, a2, a3, a4⟩ => ⟨a1, fun p hp hp' => a4.cell hp' (by omega)⟩)
    (fun w1 l x w2 hb ⟨a0, a1, a2, a3, a4⟩ ⟨r, hr⟩ => by
      have hx : x ∈ spans s := by rw [hr]; simp
      obtain ⟨_, m1, m2⟩ := cont_mem (spans_cont s) x hx
      have ok := spans_ok s x hx
      have hll : (plainL s l).length ≤ l.length * (s.size + 2) := plainL_len (fun y hy => spans_ok s y (by rw [hr]; simp [hy]))
      have hl : l.length ≤ s.size := by have := (cont_le (spans_cont s)).2; rw [hr] at this; simp at this; omega
      have hm : l.length * (s.size + 2) ≤ 1048576 * 1048578 := Nat.mul_le_mul (by omega) (by omega)
      have hsl := shown_le ok
      refine (plainOf1_any s x w2 w.heap.size (w.heap.size + 1) w1.heap.size _ a3 a2 (by omega) a1 (by omega) m2 (by omega) (by have := ok.2; omega) (by rw [Lib.byteCells_length]; omega)).mono ?_
      rintro e w3 ⟨rfl, h3, h4⟩
      refine ⟨rfl, a0, Nat.le_trans a1 h4.1.size, ?_, ?_, a4.trans h4⟩
      · exact (World.cell?_of_block (h4.2 w.heap.size (by omega) (by omega))).trans a2
      · rw [plainL_snoc, byteCells_append]; exact h3)
  have HE := Lib.hid HE
  have HB := Lib.hid hbelW
  clear hbelW hWb hWc
  go_enter Tryz.func40, Tryz.ntmps40
  go_wp2_with fail
  rw [← hW]
  refine HE.out.mono ?_
  rintro e w1 ⟨rfl, w0, hb0, a0, a1, a2, a3, a4⟩
  have hz := hb0.size
  have R : Hid (Below w.heap.size w w1) := HB.out.trans ((hb0.mono (by omega)).trans (a4.1.mono (by omega)))
  have A3 := Lib.hid a3
  clear a3 a4 hb0 a2
  go_wp2_with fail
  refine (string_any (w.heap.size + 1) w0.heap.size (plain s) w1 A3.out).mono ?_
  rintro e w2 ⟨rfl, hb2⟩
  have R2 : Hid (Below w.heap.size w w2) := R.out.trans (hb2.mono (by omega))
  clear hb2
  go_wp2
  go_ret
  exact ⟨rfl, R2.out⟩
end Go.Proofs.YtemngidkfgcigaaGreatDoor
namespace Go.Proofs.YtemngidkfgcigaaGreatDoor
open Go.RowKit

set_option maxHeartbeats 4000000 in
theorem pathOf_walk (l : List Bl) (K : Kids l) (A : Option Addr) (n c : Nat) (id : Int) (d : Nat) (hd : Dp l id d) (hd40 : d ≤ 40) (w : World) (B : Nat) (hB : B ≤ w.heap.size) (h : RB w B (.slice A n c) l)
    (IH : ∀ (k : Int) (d' : Nat) (W : World), d = d' + 1 → Dp l k d' → Below w.heap.size w W → Calls Tryz.prog 32 #[.slice A n c, .int .i64 k] W fun e w' => ∃ v, e = .returned v ∧ w'.ownsRow W.heap.size 3 1 v d' ((pth l d' k).map (.int .i64)) ∧ Below W.heap.size W w') :
    Calls Tryz.prog 32 #[.slice A n c, .int .i64 id] w fun e w' => ∃ v, e = .returned v ∧ w'.ownsRow w.heap.size 3 1 v d ((pth l d id).map (.int .i64)) ∧ Below w.heap.size w w' := by
  obtain ⟨i0, hi, hq0, hq1, hq2⟩ := info_parts int_info
  rcases d with _ | d'
  · have hx0 : id = 0 := (Dp.zero_iff K hd).2 rfl
    subst hx0
    clear h IH hd
    go_enter Tryz.func32, Tryz.ntmps32
    go_wp2_with fail
    go_ret
    exact ⟨_, rfl, World.ownsRow_nil _ _ _ _, Below.refl _ _⟩
  · obtain ⟨hx0, hdu⟩ := Dp.up K hd
    obtain ⟨p, bx, hp, hlp, hbi⟩ := hd.blk K
    have hbx := List.mem_of_getElem? hlp
    have hpar : parOf l id = bx.parent := by rw [← hbi]; exact parOf_eq K hbx
    have HPT : Hid (pth l (d' + 1) id = pth l d' bx.parent ++ [id]) := by show _ = _; rw [pth, hpar]
    rw [hpar] at hdu
    have hpn : p < n := by have := (List.getElem?_eq_some_iff.1 hlp).1; have := h.len.1; omega
    have HX := at_any l A n c id w B hB h
    rw [hp] at HX
    have HX := Lib.hid HX
    obtain ⟨b, off, Ak, nk, ck, Ap, np, cp, rfl, hbb, g0, g1, g2, g3, g4, _, _⟩ := h.at_ hlp
    have HI := Lib.hid fun W hW => IH bx.parent d' W rfl hdu hW
    have hx0' : (id == 0) = false := by simpa using hx0
    have y0 : (0 : Int) ≤ (p : Int) := by omega
    have y1 : (p : Int) < (n : Int) := by omega
    clear h IH hd hdu hp hlp hbi hbx hpar g0 g2 g3 g4 hx0
    go_enter Tryz.func32, Tryz.ntmps32
    go_wp2_with fail
    refine HX.out.mono ?_
    rintro e w1 ⟨rfl, hb1⟩
    have HB1 := Lib.hid hb1
    have g1 := (hb1.cell (p := ⟨b, off + p * 5 + 1, none⟩) (by show b < _; omega)).trans g1
    have HI2 := Lib.hid (HI.out w1 hb1)
    clear hb1
    go_wp2_with fail
    refine HI2.out.mono ?_
    rintro e w2 ⟨v, rfl, ho, hb2⟩
    have HB2 : Hid (Below w.heap.size w w2) := HB1.out.trans (hb2.mono HB1.out.size)
    have hzr : w.heap.size ≤ w2.heap.size := HB2.out.size
    have hz1 : w.heap.size ≤ w1.heap.size := HB1.out.size
    have HO := Lib.hid (ho.mono hz1)
    clear ho hb2
    have hb1 : d' + 1 ≤ maxLen := by unfold maxLen; omega
    have hb2 : (d' + 1) * 8 ≤ 140737488355328 := by omega
    have HR1 : Hid (Reads (w2.alloc (.cells #[.int .i64 id] 3)) (w2.heap.size + 1) 1 (some ⟨w2.heap.size, 0, none⟩) 1 [.int .i64 id]) := Reads.blk (Blk.new _ _ _) rfl
    have hbase : w.heap.size ≤ (w2.alloc (.cells #[.int .i64 id] 3)).heap.size := by simp; omega
    have hone : ∀ u ∈ [Value.int .i64 id], u.oneCell' = true := ints_one [id]
    have HOW := Lib.hid (HO.out.alloc (.cells #[.int .i64 id] 3))
    have HBA := Lib.hid (HB2.out.alloc hzr (.cells #[.int .i64 id] 3))
    have HVB : Hid (∀ g, v.ownBlock = some g → w.heap.size ≤ g) := fun g hg => (own_block_lt HO.out g hg).1
    go_wp2_with (at_builtin; refine wpList_append_any _ rfl _ _ 23 rfl w.heap.size 3 i0 (.int .i64 0) 1 8 Tryz.underlying23 hi hq0 hq1 hq2 rfl (by decide) v d' _ rfl HOW.out _ _ 1 1 _ rfl HR1.out hone hb1 hb2 hbase ?_)
    intro v2 w3 hown2 hg2 hat2
    have HO3 : Hid (w3.ownsRow w.heap.size 3 1 v2 (d' + 1) ((pth l (d' + 1) id).map (.int .i64))) := by
      show w3.ownsRow _ _ _ _ _ _
      rw [HPT.out, List.map_append]; exact hown2
    have HB3 : Hid (Below w.heap.size w w3) := HBA.out.grown hg2 (Nat.le_trans hzr (by simp)) (fun g hg => HVB.out g hg)
    clear hown2 hg2 hat2
    go_wp2_with fail
    go_ret
    exact ⟨_, rfl, HO3.out, HB3.out⟩
/-- the reference's PathOf -/
theorem pathOf_own (l : List Bl) (K : Kids l) (A : Option Addr) (n c : Nat) (B : Nat) : ∀ (d : Nat) (id : Int) (w : World), Dp l id d → d ≤ 40 → B ≤ w.heap.size → RB w B (.slice A n c) l →
    Calls Tryz.prog 32 #[.slice A n c, .int .i64 id] w fun e w' => ∃ v, e = .returned v ∧ w'.ownsRow w.heap.size 3 1 v d ((pth l d id).map (.int .i64)) ∧ Below w.heap.size w w'
  | 0, id, w, hd, h40, hB, h => pathOf_walk l K A n c id 0 hd h40 w B hB h fun k d' W e => by omega
  | d + 1, id, w, hd, h40, hB, h => pathOf_walk l K A n c id (d + 1) hd h40 w B hB h fun k d' W e hk hW => by
    obtain rfl : d = d' := by omega
    exact pathOf_own l K A n c B d k W hk (by omega) (Nat.le_trans hB hW.size) (h.below (hW.mono hB))
theorem pathOf_any (l : List Bl) (K : Kids l) (A : Option Addr) (n c : Nat) (B d : Nat) (id : Int) (w : World) (hd : Dp l id d) (h40 : d ≤ 40) (hB : B ≤ w.heap.size) (h : RB w B (.slice A n c) l) :
    Calls Tryz.prog 32 #[.slice A n c, .int .i64 id] w (IntsR (pth l d id) w) :=
  (pathOf_own l K A n c B d id w hd h40 hB h).mono fun e w' ⟨v, he, ho, hb⟩ => by
    subst he
    exact IntsR.of_own ho (pth_len d id).symm (by omega) (pth_i64 K hd) hb
end Go.Proofs.YtemngidkfgcigaaGreatDoor
namespace Go.Proofs.YtemngidkfgcigaaGreatDoor
open Go.RowKit

theorem shown_at {s : ByteArray} {x : Sp} (h : SpIs s x) (h1 : x.frm < x.to_) (h2 : x.to_ ≤ s.size) :
    ∃ a : Nat, shownAt x = a ∧ x.frm ≤ a ∧ a + (shown s x).size ≤ x.to_ ∧ shown s x = s.extract a (a + (shown s x).size) := by
  have ex : ∀ a n : Nat, a + n ≤ s.size → (s.extract a (a + n)).size = n := fun a n h => by rw [ByteArray.size_extract]; omega
  by_cases k2 : x.kind = 2
  · obtain ⟨g1, g2, _, _⟩ := h.e2 k2
    have e1 : shownAt x = ((x.frm + 1 : Nat) : Int) := by unfold shownAt; rw [if_pos (.inl k2)]; omega
    have e2 : shown s x = s.extract (x.frm + 1) (x.frm + 1 + 1) := by unfold shown; rw [if_pos (.inl k2), g2]
    have e3 : (shown s x).size = 1 := by rw [e2]; exact ex _ _ (by omega)
    exact ⟨_, e1, by omega, by omega, by rw [e3]; exact e2⟩
  by_cases k3 : x.kind = 3
  · obtain ⟨g1, g2, _, _⟩ := h.e3 k3
    have e1 : shownAt x = ((x.frm + 1 : Nat) : Int) := by unfold shownAt; rw [if_pos (.inr k3)]; omega
    have e2 : shown s x = s.extract (x.frm + 1) (x.frm + 1 + (x.to_ - 1 - (x.frm + 1))) := by unfold shown; rw [if_pos (.inr k3), g2]; congr 1; omega
    have e3 : (shown s x).size = x.to_ - 1 - (x.frm + 1) := by rw [e2]; exact ex _ _ (by omega)
    exact ⟨_, e1, by omega, by omega, by rw [e3]; exact e2⟩
  have n23 : ¬ (x.kind = 2 ∨ x.kind = 3) := by omega
  by_cases k4 : x.kind = 4
  · obtain ⟨e, g1, g2, g3, _, _, g6, _, g8⟩ := h.e4 k4
    rcases g8 with ⟨c1, c2⟩ | ⟨c1, c0, c2⟩
    · have z : x.show_.size = 0 := by rw [c2]; rfl
      have e1 : shownAt x = ((x.frm + 2 : Nat) : Int) := by unfold shownAt; rw [if_neg n23, if_pos k4, if_pos z]; omega
      have e2 : shown s x = s.extract (x.frm + 2) (x.frm + 2 + (e - (x.frm + 2))) := by unfold shown; rw [if_neg n23, if_pos k4, if_pos z, g3]; congr 1; omega
      have e3 : (shown s x).size = e - (x.frm + 2) := by rw [e2]; exact ex _ _ (by omega)
      exact ⟨_, e1, by omega, by omega, by rw [e3]; exact e2⟩
    · have z : x.show_.size = x.to_ - 2 - (e + 1) := by rw [c2, ByteArray.size_extract]; omega
      have e1 : shownAt x = ((e + 1 : Nat) : Int) := by unfold shownAt; rw [if_neg n23, if_pos k4, if_neg (by omega)]; omega
      have e2 : shown s x = s.extract (e + 1) (e + 1 + (x.to_ - 2 - (e + 1))) := by unfold shown; rw [if_neg n23, if_pos k4, if_neg (by omega), c2]; congr 1; omega
      have e3 : (shown s x).size = x.to_ - 2 - (e + 1) := by rw [e2]; exact ex _ _ (by omega)
      exact ⟨_, e1, by omega, by omega, by rw [e3]; exact e2⟩
  by_cases k7 : x.kind = 7
  · have e1 : shownAt x = ((x.to_ : Nat) : Int) := by unfold shownAt; rw [if_neg n23, if_neg k4, if_pos k7]
    have e2 : shown s x = noB := by unfold shown; rw [if_neg n23, if_neg k4, if_pos k7]
    have e3 : (shown s x).size = 0 := by rw [e2]; rfl
    refine ⟨_, e1, by omega, by omega, ?_⟩
    rw [e3, e2]
    apply ba_ext
    rw [ext_list2]; simp [noB]
  · have e1 : shownAt x = ((x.frm : Nat) : Int) := by unfold shownAt; rw [if_neg n23, if_neg k4, if_neg k7]
    have e2 : shown s x = s.extract x.frm (x.frm + (x.to_ - x.frm)) := by unfold shown; rw [if_neg n23, if_neg k4, if_neg k7]; congr 1; omega
    have e3 : (shown s x).size = x.to_ - x.frm := by rw [e2]; exact ex _ _ (by omega)
    exact ⟨_, e1, by omega, by omega, by rw [e3]; exact e2⟩

end Go.Proofs.YtemngidkfgcigaaGreatDoor
