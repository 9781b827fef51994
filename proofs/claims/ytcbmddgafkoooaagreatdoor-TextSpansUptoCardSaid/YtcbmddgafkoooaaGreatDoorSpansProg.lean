/-
  DERIVED. The walks of text.Refs, text.Tags, text.Unmarked and their closures. Conditions: the text's size. By an AI agent.
-/
import Derived.Test.YtcbmddgafkoooaaGreatDoorReplaced
import Derived.Test.YtcbmddgafkoooaaGreatDoorRefShown
namespace Go.Proofs.YtcbmddgafkoooaaGreatDoor
open Go.RowKit

set_option maxHeartbeats 1000000 in
theorem tags_any (s : ByteArray) (w : World) (hs : s.size ≤ 1048576) :
    Calls Tryz.prog 18 #[.string s] w fun e w' => ∃ v, e = .returned v ∧ w'.ownsRow w.heap.size 9 1 v (textsK 6 (spans s)).length (textsK 6 (spans s)) ∧ Below w.heap.size w w' := by
  go_enter Tryz.func18, Tryz.ntmps18
  go_wp2_with fail
  refine (textsOf_any s 6 _ hs).mono ?_
  rintro e w1 ⟨v, rfl, h1, h2⟩
  have H := Lib.hid (And.intro h1 h2)
  clear h1 h2
  go_wp2
  go_ret
  exact ⟨_, rfl, H.out.1, H.out.2⟩

/-- the numbers of the references -/
def refsK (l : List Sp) : List Value := l.flatMap fun x => if x.kind = 5 then [.int .i64 x.id] else []
theorem refsK_snoc (l : List Sp) (x : Sp) : refsK (l ++ [x]) = refsK l ++ (if x.kind = 5 then [.int .i64 x.id] else []) := by simp [refsK]
theorem refsK_len : ∀ l : List Sp, (refsK l).length ≤ l.length
  | [] => Nat.le_refl _
  | x :: l => by
    have := refsK_len l
    unfold refsK at this ⊢
    rw [List.flatMap_cons, List.length_append, List.length_cons]
    split
    · rw [List.length_singleton]; omega
    · rw [List.length_nil]; omega

set_option maxHeartbeats 1000000 in
set_option maxRecDepth 100000 in
theorem refs1_no (x : Sp) (w : World) (q : Value) (hn : (x.kind == 5) = false) :
    Calls Tryz.prog 41 #[spV x, q] w fun e w' => e = .returned (.tuple #[]) ∧ Below w.heap.size w w' := by
  rw [spV_eq]
  go_enter Tryz.func41, Tryz.ntmps41
  go_wp2
  go_end0
  exact ⟨rfl, (Below.refl _ _).alloc (Nat.le_refl _) _⟩

set_option maxHeartbeats 1000000 in
set_option maxRecDepth 100000 in
theorem refs1_yes (x : Sp) (w : World) (lb B : Nat) (ts : List Value) (hA : Acc 34 3 lb B ts w) (hBw : B ≤ w.heap.size) (hlen : ts.length ≤ 4294967280) (hn : (x.kind == 5) = true) :
    Calls Tryz.prog 41 #[spV x, .pointer (some ⟨lb, 0, none⟩)] w fun e w' => e = .returned (.tuple #[]) ∧ Acc 34 3 lb B (ts ++ [.int .i64 x.id]) w' ∧ Keep lb B w w' := by
  obtain ⟨i0, hi, hz0, hz1, hz2⟩ := info_parts int_info
  obtain ⟨hlB, v, hbk, hown⟩ := hA
  obtain ⟨A, c, rfl, _⟩ := own_reads hown
  have hlA : ∀ o, (w.alloc o).cell? ⟨lb, 0, none⟩ = some (.slice A ts.length c) := fun o => (World.cell?_alloc_lt w o _ (by show lb < _; omega)).trans (by rw [Lib.cell_of_heap hbk]; rfl)
  have HBK := Lib.hid hbk
  have hlt := hown.lt
  have HLT := Lib.hid hlt
  clear hbk hlt
  rw [spV_eq]
  go_enter Tryz.func41, Tryz.ntmps41
  go_wp2_with (at_builtin; refine wpList_append_own_at _ rfl _ _ 34 rfl B 3 i0 (.int .i64 0) 1 8 Tryz.underlying34 hi hz0 hz1 hz2 rfl (by decide) _ ts.length _ rfl ((hown.alloc _).alloc _) ⟨w.heap.size + 1, 0, none⟩ 1 1 [.int .i64 x.id] rfl rfl (cells_new _ _ [.int .i64 x.id] _ (by simp)) (by intro u hu; simp at hu; subst hu; rfl) (by unfold maxLen; omega) (by omega) (by simp; omega) ?_; intro v2 w2 hown2 hg2 _ _; obtain ⟨A2, c2, rfl, _⟩ := own_reads hown2; obtain ⟨d2, f2⟩ := after_app HBK.out hg2 (fun g h => (HLT.out g h).1) hlB hBw)
  have hr : ∀ g, (Value.slice A ts.length c).ownBlock = some g → B ≤ g := fun g h => (HLT.out g h).1
  have R1 := acc_store (n := ts.length + 1) (xs := ts ++ [.int .i64 x.id]) hg2 (by simp; omega) hr hlB (((Below.heap_alloc _ _ lb (by simp; omega)).trans (Below.heap_alloc w _ lb (by omega))).trans HBK.out) (by simp) hown2
  have R2 := (((Keep.refl lb B w).alloc hBw (by omega) (.cells #[.int .i64 x.kind, .int .i64 x.frm, .int .i64 x.to_, .string x.text, .string x.show_, .int .i64 x.id, .bool x.strong] 27)).alloc (by simp; omega) (by simp; omega) (.cells #[.int .i64 x.id] 3)).trans (keep_store hg2 (by simp; omega) hr hlB 0 (.slice A2 (ts.length + 1) c2))
  have R1 := Lib.hid R1
  have R2 := Lib.hid R2
  clear hg2 hown2 hr
  go_wp2
  go_end0
  exact ⟨rfl, R1.out, R2.out⟩
theorem refs1_any (x : Sp) (w : World) (lb B : Nat) (ts : List Value) (hA : Acc 34 3 lb B ts w) (hBw : B ≤ w.heap.size) (hlen : ts.length ≤ 4294967280) :
    Calls Tryz.prog 41 #[spV x, .pointer (some ⟨lb, 0, none⟩)] w fun e w' => e = .returned (.tuple #[]) ∧ Acc 34 3 lb B (ts ++ (if x.kind = 5 then [.int .i64 x.id] else [])) w' ∧ Keep lb B w w' := by
  by_cases h : x.kind = 5
  · rw [if_pos h]
    exact refs1_yes x w lb B ts hA hBw hlen (by simpa using h)
  · rw [if_neg h]
    refine (refs1_no x w _ (by simpa using h)).mono fun e w' ⟨h1, h2⟩ => ⟨h1, ?_, ?_⟩
    · rw [List.append_nil]; exact hA.below hBw h2
    · exact (Keep.refl _ _ _).below hBw hA.1 h2

set_option maxHeartbeats 1000000 in
set_option maxRecDepth 100000 in
theorem refs_any (s : ByteArray) (w : World) (hs : s.size ≤ 1048576) :
    Calls Tryz.prog 16 #[.string s] w fun e w' => ∃ v, e = .returned v ∧ w'.ownsRow w.heap.size 3 1 v (refsK (spans s)).length (refsK (spans s)) ∧ Below w.heap.size w w' := by
  have he : ∀ args w, (callFunc 41 args).run Tryz.prog w = .ok (.enter 41 args) w := Go.Proofs.enters_of Tryz.func41 (by kernel_rfl) rfl
  obtain ⟨W, hW⟩ : ∃ W : World, W = w.alloc (.cells #[.slice none 0 0] 34) := ⟨_, rfl⟩
  have hWs : W.heap.size = w.heap.size + 1 := by rw [hW]; simp
  have hWb : W.heap[w.heap.size]? = some (.cells #[.slice none 0 0] 34 (0, 0)) := by rw [hW]; exact heap_alloc_new w _
  have hbelW : Below w.heap.size w W := by rw [hW]; exact (Below.refl _ _).alloc (Nat.le_refl _) _
  have HE := each_any s 41 #[.pointer (some ⟨w.heap.size, 0, none⟩)] W (by omega)
    (fun w1 l w2 => W.heap.size ≤ w1.heap.size ∧ w1.heap.size ≤ w2.heap.size ∧ Acc 34 3 w.heap.size w1.heap.size (refsK l) w2 ∧ Keep w.heap.size w1.heap.size w1 w2) he
    (fun w1 hb => by
      have hz := hb.size
      exact ⟨hz, Nat.le_refl _, Acc.fresh (by omega) ((hb.block _ (by omega)).trans hWb), Keep.refl _ _ _⟩)
    (fun w1 l w2 o hb ⟨a0, a1, a3, a4⟩ => ⟨a0, by simp; omega, a3.alloc a1 o, a4.alloc a1 (by omega) o⟩)
    (fun w1 l w2 ⟨a0, a1, a3, a4⟩ => ⟨a1, fun p hp hp' => a4.cell hp' (by omega)⟩)
    (fun w1 l x w2 hb ⟨a0, a1, a3, a4⟩ ⟨r, hr⟩ => by
      have hll := refsK_len l
      have hl : l.length ≤ s.size := by have := (cont_le (spans_cont s)).2; rw [hr] at this; simp at this; omega
      refine (refs1_any x w2 w.heap.size w1.heap.size _ a3 a1 (by omega)).mono ?_
      rintro e w3 ⟨rfl, h3, h4⟩
      exact ⟨rfl, a0, Nat.le_trans a1 h4.1.size, by rw [refsK_snoc]; exact h3, a4.trans h4⟩)
  have HE := Lib.hid HE
  have HB := Lib.hid hbelW
  clear hbelW hWb
  go_enter Tryz.func16, Tryz.ntmps16
  go_wp2_with fail
  rw [← hW]
  refine HE.out.mono ?_
  rintro e w1 ⟨rfl, w0, hb0, a0, a1, ⟨_, v, hbk, hown⟩, a4⟩
  have hz := hb0.size
  have hc1 : w1.cell? ⟨w.heap.size, 0, none⟩ = some v := by rw [Lib.cell_of_heap hbk]; rfl
  have R : Hid (w1.ownsRow w.heap.size 3 1 v (refsK (spans s)).length (refsK (spans s)) ∧ Below w.heap.size w w1) := ⟨hown.mono (by omega), HB.out.trans ((hb0.mono (by omega)).trans (a4.1.mono (by omega)))⟩
  clear a4 hb0 hown hbk
  go_wp2
  go_ret
  exact ⟨_, rfl, R.out.1, R.out.2⟩

/-- what Unmarked leaves of a span, and of spans -/
def unR (s : ByteArray) (x : Sp) : ByteArray := if x.kind = 7 then noB else s.extract x.frm x.to_
def unmL (s : ByteArray) (l : List Sp) : List UInt8 := l.flatMap fun x => (unR s x).data.toList
def unm (s : ByteArray) (l : List Sp) : ByteArray := ⟨(unmL s l).toArray⟩
theorem repP_flat (r : Sp → ByteArray) : ∀ (l pre : List Sp), repP (fun _ x => r x) pre l = l.flatMap fun x => (r x).data.toList
  | [], _ => rfl
  | x :: l, pre => by
    show (r x).data.toList ++ repP _ _ l = _
    rw [repP_flat r l, List.flatMap_cons]
theorem unR_size (s : ByteArray) (x : Sp) : (unR s x).size ≤ s.size := by
  unfold unR
  split
  · exact Nat.zero_le _
  · exact ext_le s x.frm x.to_

set_option maxHeartbeats 1000000 in
set_option maxRecDepth 100000 in
theorem unmarked1_any (s : ByteArray) (x : Sp) (w : World) (sb : Nat) (hs : w.cell? ⟨sb, 0, none⟩ = some (.string s)) (hsb : sb < w.heap.size) (h1 : x.frm ≤ x.to_) (h2 : x.to_ ≤ s.size) :
    Calls Tryz.prog 43 #[spV x, .pointer (some ⟨sb, 0, none⟩)] w fun e w' => e = .returned (.string (unR s x)) ∧ Below w.heap.size w w' := by
  have hsA : ∀ o, (w.alloc o).cell? ⟨sb, 0, none⟩ = some (.string s) := fun o => (World.cell?_alloc_lt w o _ hsb).trans hs
  have m0 : (0 : Int) ≤ (x.frm : Int) := by omega
  have m1 : (x.frm : Int) ≤ (x.to_ : Int) := by omega
  have m2 : (x.to_ : Int) ≤ (s.size : Int) := by omega
  clear hs
  cases e7 : (x.kind == 7)
  case true =>
    have HV : Hid (unR s x = ⟨#[]⟩) := by show _ = _; unfold unR; rw [if_pos (by simpa using e7)]; rfl
    rw [spV_eq]
    go_enter Tryz.func43, Tryz.ntmps43
    go_wp2_with fail
    go_ret
    exact ⟨by rw [HV.out]; rfl, (Below.refl _ _).alloc (Nat.le_refl _) _⟩
  have HV : Hid (unR s x = s.extract x.frm x.to_) := by show _ = _; unfold unR; rw [if_neg (by simpa using e7)]
  rw [spV_eq]
  go_enter Tryz.func43, Tryz.ntmps43
  go_wp2_with fail
  first
    | (go_ret; exact ⟨by rw [HV.out]; rfl, (Below.refl _ _).alloc (Nat.le_refl _) _⟩)
    | (go_quiet (fail); go_wp2; go_ret; exact ⟨by rw [HV.out]; rfl, bdrew ((Below.refl _ _).alloc (Nat.le_refl _) _) _⟩)

set_option maxHeartbeats 1000000 in
set_option maxRecDepth 100000 in
theorem unmarked_any (s : ByteArray) (w : World) (hs : s.size ≤ 1048576) :
    Calls Tryz.prog 20 #[.string s] w fun e w' => e = .returned (.string (unm s (spans s))) ∧ Below w.heap.size w w' := by
  have he : ∀ args w, (callFunc 43 args).run Tryz.prog w = .ok (.enter 43 args) w := Go.Proofs.enters_of Tryz.func43 (by kernel_rfl) rfl
  obtain ⟨W, hW⟩ : ∃ W : World, W = w.alloc (.cells #[.string s] 9) := ⟨_, rfl⟩
  have hWs : W.heap.size = w.heap.size + 1 := by rw [hW]; simp
  have hWc : W.cell? ⟨w.heap.size, 0, none⟩ = some (.string s) := by rw [hW]; simp
  have hbelW : Below w.heap.size w W := by rw [hW]; exact (Below.refl _ _).alloc (Nat.le_refl _) _
  have HR := replaced_any s 43 #[.pointer (some ⟨w.heap.size, 0, none⟩)] W hs (fun _ x => unR s x) (fun _ w' => Below W.heap.size W w') he (Below.refl _ _)
    (fun l w1 w2 h1 h2 => h2.trans h1)
    (fun l x w1 h1 h2 ⟨q, hq⟩ => by
      obtain ⟨_, m1, m2⟩ := cont_mem (spans_cont s) x (by rw [hq]; simp)
      refine (unmarked1_any s x w1 w.heap.size ((h2.cell (p := ⟨w.heap.size, 0, none⟩) (by show w.heap.size < _; omega)).trans hWc) (by omega) (by omega) m2).mono ?_
      rintro e w' ⟨rfl, hb⟩
      exact ⟨rfl, h2.trans (hb.mono h1), hb.size, fun k _ hk => hb.block k hk⟩)
    (fun l x q hq => by have := unR_size s x; omega)
  rw [repP_flat] at HR
  have HR := Lib.hid HR
  have HB := Lib.hid hbelW
  clear hbelW hWc
  go_enter Tryz.func20, Tryz.ntmps20
  go_wp2_with fail
  rw [← hW]
  refine HR.out.mono ?_
  rintro e w1 ⟨rfl, hb, hz⟩
  have R := Lib.hid (HB.out.trans (hb.mono (by omega)))
  clear hb
  go_wp2
  go_ret
  exact ⟨rfl, R.out⟩
end Go.Proofs.YtcbmddgafkoooaaGreatDoor
