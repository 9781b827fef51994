/-
  DERIVED. The walk of text.Retarget. Conditions: the text's size. By an AI agent.
-/
import Derived.Test.YtcbmddgafkoooaaDoorRetarget1
import Derived.Deep.RegionHeld3
namespace Go.Proofs.YtcbmddgafkoooaaDoor
open Go.RowKit

/-- the text with another target, as the code makes it -/
def retOut (s : ByteArray) (n : Nat) (U : ByteArray) : ByteArray := ⟨(repP (retR s n U) [] (spans s)).toArray⟩
def boundV (o : ByteArray) : Value := if 2000 < o.size then .tuple #[.string ⟨#[]⟩, .int .i64 4] else .tuple #[.string o, .int .i64 0]
theorem bounded_any (o : ByteArray) (w : World) (ho : o.size ≤ 140737488355328) : Calls Tryd.prog 35 #[.string o] w fun e w' => e = .returned (boundV o) ∧ w = w' := by
  by_cases h : 2000 < o.size
  · have HV : Hid (boundV o = .tuple #[.string ⟨#[]⟩, .int .i64 4]) := by show _ = _; unfold boundV; rw [if_pos h]
    have h2 : (2000 : Int) < (o.size : Int) := by omega
    clear h
    go_enter Tryd.func35, Tryd.ntmps35
    go_wp2
    go_ret2
    exact ⟨by rw [HV.out]; rfl, rfl⟩
  · have HV : Hid (boundV o = .tuple #[.string o, .int .i64 0]) := by show _ = _; unfold boundV; rw [if_neg h]
    have h2 : (o.size : Int) ≤ 2000 := by omega
    clear h
    go_enter Tryd.func35, Tryd.ntmps35
    go_wp2
    go_ret2
    exact ⟨by rw [HV.out]; rfl, rfl⟩

theorem retR_size (s : ByteArray) (n : Nat) (U : ByteArray) (pre : List Sp) (x : Sp) (hs : s.size ≤ 1048576) (hU : U.size ≤ 100) : (retR s n U pre x).size ≤ 2097152 := by
  unfold retR
  split
  · rw [ByteArray.size_append, ByteArray.size_append]
    have := ext_le s (x.frm + 2 + x.text.size) x.to_
    have : (⟨#[91, 91]⟩ : ByteArray).size = 2 := rfl
    omega
  · have := ext_le s x.frm x.to_; omega

set_option maxHeartbeats 2000000 in
set_option maxRecDepth 100000 in
theorem retarget_neg (s U : ByteArray) (k : Int) (w : World) (hk : k < 0) :
    Calls Tryd.prog 9 #[.string s, .int .i64 k, .string U] w fun e w' => e = .returned (.tuple #[.string ⟨#[]⟩, .int .i64 7]) ∧ Below w.heap.size w w' := by
  have hd : decide (k < 0) = true := by simp; omega
  go_enter Tryd.func9, Tryd.ntmps9
  go_wp2_with fail
  go_quiet (fail)
  go_wp2_with fail
  go_ret2
  exact ⟨rfl, bdrew ((((Below.refl _ _).alloc (Nat.le_refl _) _).alloc (by simp) _).alloc (by simp; omega) _) _⟩

theorem ct_of {w w1 : World} {o0 o1 o2 : Obj} (hb1 : Below (((w.alloc o0).alloc o1).alloc o2).drew.heap.size (((w.alloc o0).alloc o1).alloc o2).drew w1) {v : Value} {t : TypeId} (h : o2 = .cells #[v] t) : w1.cell? ⟨w.heap.size + 1 + 1, 0, none⟩ = some v ∧ w.heap.size + 3 ≤ w1.heap.size := by
  subst h
  have hz := hb1.size
  refine ⟨(hb1.cell (by simp)).trans ?_, by simpa using hz⟩
  have := (Blk.new ((w.alloc o0).alloc o1) t #[v]).cell 0
  simp only [World.size_alloc] at this
  exact this

set_option maxHeartbeats 2000000 in
set_option maxRecDepth 100000 in
theorem retarget_none (s U : ByteArray) (k : Nat) (w : World) (hs : s.size ≤ 1048576) (hk : lk (spans s) ≤ k) :
    Calls Tryd.prog 9 #[.string s, .int .i64 k, .string U] w fun e w' => e = .returned (.tuple #[.string ⟨#[]⟩, .int .i64 7]) ∧ Below w.heap.size w w' := by
  have hd : decide ((k : Int) < 0) = false := by simp
  have hn := textsK_lk (spans s)
  obtain ⟨n, hnn⟩ : ∃ n, n = (textsK 4 (spans s)).length := ⟨_, rfl⟩
  have hge : decide (n ≤ k) = true := by simp; omega
  have HN := Lib.hid hnn
  clear hnn hn hk
  go_enter Tryd.func9, Tryd.ntmps9
  go_wp2_with fail
  go_region_held3 (fun w' => w'.cell? ⟨w.heap.size, 0, none⟩ = some (.string s) ∧ w'.cell? ⟨w.heap.size + 1, 0, none⟩ = some (.int .i64 k))
    (first | go_keep | (obtain ⟨a1, a2⟩ := ‹_ ∧ _›; exact ⟨(hb1.cell (by simp <;> omega)).trans a1, (hb1.cell (by simp <;> omega)).trans a2⟩))
    (first | (go_at_call 31; refine (links_any s _ hs).mono ?_; rintro e w1 ⟨v, rfl, hown1, hb1⟩; rw [← HN.out] at hown1; obtain ⟨A, c, rfl, hRd⟩ := own_reads hown1; clear hown1 hRd))
  have hbw : Below w.heap.size w w1 := ((((Below.refl w.heap.size w).alloc (Nat.le_refl _) _).alloc (by simp) _).alloc (by simp; omega) _).drew.trans (hb1.mono (by simp; omega))
  have HB := Lib.hid hbw
  clear hb1 hbw
  go_wp2_with fail
  go_ret2
  exact ⟨rfl, HB.out⟩

set_option maxHeartbeats 2000000 in
set_option maxRecDepth 100000 in
theorem retarget_name (s U : ByteArray) (k : Nat) (w : World) (hs : s.size ≤ 1048576) (hk : k < lk (spans s)) (hU : isTgt U = false) (hUs : U.size ≤ 4294967280) :
    Calls Tryd.prog 9 #[.string s, .int .i64 k, .string U] w fun e w' => e = .returned (.tuple #[.string ⟨#[]⟩, .int .i64 3]) ∧ Below w.heap.size w w' := by
  have hd : decide ((k : Int) < 0) = false := by simp
  have hn := textsK_lk (spans s)
  obtain ⟨n, hnn⟩ : ∃ n, n = (textsK 4 (spans s)).length := ⟨_, rfl⟩
  have hge : decide (n ≤ k) = false := by simp; omega
  have HN := Lib.hid hnn
  clear hnn hn hk
  go_enter Tryd.func9, Tryd.ntmps9
  go_wp2_with fail
  go_region_held3 (fun w' => w'.cell? ⟨w.heap.size, 0, none⟩ = some (.string s) ∧ w'.cell? ⟨w.heap.size + 1, 0, none⟩ = some (.int .i64 k))
    (first | go_keep | (obtain ⟨a1, a2⟩ := ‹_ ∧ _›; exact ⟨(hb1.cell (by simp <;> omega)).trans a1, (hb1.cell (by simp <;> omega)).trans a2⟩))
    (first | (go_at_call 31; refine (links_any s _ hs).mono ?_; rintro e w1 ⟨v, rfl, hown1, hb1⟩; rw [← HN.out] at hown1; obtain ⟨A, c, rfl, hRd⟩ := own_reads hown1; clear hown1 hRd))
  have hbw : Below w.heap.size w w1 := ((((Below.refl w.heap.size w).alloc (Nat.le_refl _) _).alloc (by simp) _).alloc (by simp; omega) _).drew.trans (hb1.mono (by simp; omega))
  obtain ⟨q5, _⟩ := ct_of hb1 rfl
  have HB := Lib.hid hbw
  clear hb1 hbw
  go_wp2_with fail
  refine (isTarget_any U _ hUs).mono ?_
  rintro e w2 ⟨rfl, rfl⟩
  rw [hU]
  go_wp2_with fail
  go_ret2
  exact ⟨rfl, HB.out⟩

set_option maxHeartbeats 2000000 in
set_option maxRecDepth 100000 in
theorem retarget_yes (s U : ByteArray) (k : Nat) (w : World) (hs : s.size ≤ 1048576) (hk : k < lk (spans s)) (hU : isTgt U = true) :
    Calls Tryd.prog 9 #[.string s, .int .i64 k, .string U] w fun e w' => e = .returned (boundV (retOut s k U)) ∧ Below w.heap.size w w' := by
  have hUs := (isTgt_facts hU).2.1
  have he : ∀ args w, (callFunc 34 args).run Tryd.prog w = .ok (.enter 34 args) w := Go.Proofs.enters_of Tryd.func34 (by kernel_rfl) rfl
  have hd : decide ((k : Int) < 0) = false := by simp
  have hn := textsK_lk (spans s)
  obtain ⟨n, hnn⟩ : ∃ n, n = (textsK 4 (spans s)).length := ⟨_, rfl⟩
  have hge : decide (n ≤ k) = false := by simp; omega
  have HN := Lib.hid hnn
  have HE := Lib.hid he
  clear hnn hn hk he
  go_enter Tryd.func9, Tryd.ntmps9
  go_wp2_with fail
  go_region_held3 (fun w' => w'.cell? ⟨w.heap.size, 0, none⟩ = some (.string s) ∧ w'.cell? ⟨w.heap.size + 1, 0, none⟩ = some (.int .i64 k))
    (first | go_keep | (obtain ⟨a1, a2⟩ := ‹_ ∧ _›; exact ⟨(hb1.cell (by simp <;> omega)).trans a1, (hb1.cell (by simp <;> omega)).trans a2⟩))
    (first | (go_at_call 31; refine (links_any s _ hs).mono ?_; rintro e w1 ⟨v, rfl, hown1, hb1⟩; rw [← HN.out] at hown1; obtain ⟨A, c, rfl, hRd⟩ := own_reads hown1; clear hown1 hRd))
  have hbw : Below w.heap.size w w1 := ((((Below.refl w.heap.size w).alloc (Nat.le_refl _) _).alloc (by simp) _).alloc (by simp; omega) _).drew.trans (hb1.mono (by simp; omega))
  obtain ⟨q5, hz1⟩ := ct_of hb1 rfl
  obtain ⟨q3, q4⟩ := ‹_ ∧ _›
  have q3A : ∀ o, (w1.alloc o).cell? ⟨w.heap.size, 0, none⟩ = some (.string s) := fun o => (World.cell?_alloc_lt w1 o _ (by show w.heap.size < _; omega)).trans q3
  have HB := Lib.hid hbw
  have HQ := Lib.hid (And.intro q3 (And.intro q4 q5))
  clear hb1 hbw q3 q4
  go_wp2_with fail
  refine (isTarget_any U _ (by omega)).mono ?_
  rintro e w2 ⟨rfl, rfl⟩
  rw [hU]
  go_wp2_with fail
  refine (replaced_any s 34 #[.pointer (some ⟨w1.heap.size, 0, none⟩), .pointer (some ⟨w.heap.size + 1, 0, none⟩), .pointer (some ⟨w.heap.size + 1 + 1, 0, none⟩), .pointer (some ⟨w.heap.size, 0, none⟩)] _ hs (retR s k U)
    (fun l w2 => w1.heap.size < w2.heap.size ∧ w2.heap[w1.heap.size]? = some (.cells #[.int .i64 ((lk l : Nat) - 1 : Int)] 3 (0, 0)) ∧ w2.cell? ⟨w.heap.size, 0, none⟩ = some (.string s) ∧ w2.cell? ⟨w.heap.size + 1, 0, none⟩ = some (.int .i64 k) ∧ w2.cell? ⟨w.heap.size + 1 + 1, 0, none⟩ = some (.string U) ∧ Below w.heap.size w w2)
    HE.out ?_ ?_ ?_ (fun l x q _ => retR_size s k U l x hs hUs)).mono ?_
  · refine ⟨by simp, ?_, ?_, ?_, ?_, HB.out.alloc (by omega) _⟩
    · have := heap_alloc_new w1 (.cells #[.int .i64 (-1)] 3); rw [lk_nil]; exact this
    · exact q3A _
    · exact (World.cell?_alloc_lt w1 _ _ (by show w.heap.size + 1 < _; omega)).trans HQ.out.2.1
    · exact (World.cell?_alloc_lt w1 _ _ (by show w.heap.size + 1 + 1 < _; omega)).trans HQ.out.2.2
  · rintro l w2 w3 hb ⟨a0, a1, a2, a3, a4, a5⟩
    have hz := hb.size
    simp only [World.size_alloc] at hb
    exact ⟨by omega, (hb.block _ (by omega)).trans a1, (hb.cell (p := ⟨w.heap.size, 0, none⟩) (by show w.heap.size < _; omega)).trans a2, (hb.cell (p := ⟨w.heap.size + 1, 0, none⟩) (by show w.heap.size + 1 < _; omega)).trans a3, (hb.cell (p := ⟨w.heap.size + 1 + 1, 0, none⟩) (by show w.heap.size + 1 + 1 < _; omega)).trans a4, a5.trans (hb.mono (by omega))⟩
  · rintro l x w2 hz2 ⟨a0, a1, a2, a3, a4, a5⟩ ⟨q, hq⟩
    simp only [World.size_alloc] at hz2 ⊢
    have hx : x ∈ spans s := by rw [hq]; simp
    obtain ⟨_, m1, m2⟩ := cont_mem (spans_cont s) x hx
    have hl : l.length ≤ s.size := by have := (cont_le (spans_cont s)).2; rw [hq] at this; simp at this; omega
    have hlk : lk l ≤ l.length := by rw [← textsK_lk]; exact textsK_len 4 l
    by_cases e4 : x.kind = 4
    · have hkk : (x.kind == 4) = true := by simpa using e4
      have hlp := spans_lkp s x hx e4
      have hlx : ((lk (l ++ [x]) : Nat) - 1 : Int) = (lk l : Int) := by rw [lk_append, lk_cons, if_pos e4, lk_nil]; omega
      by_cases en : lk l = k
      · subst en
        refine (retarget1_here s U x w2 w1.heap.size (w.heap.size + 1) (w.heap.size + 1 + 1) w.heap.size (lk l) a0 a1 (by omega) a3 (by omega) a2 (by omega) a4 (by omega) (by omega) (by omega) hkk (by omega) (by omega) m2 (by omega) (by omega)).mono ?_
        rintro e w3 ⟨rfl, c1, c2, c3⟩
        have hz3 := c1.size
        refine ⟨?_, ⟨by omega, by rw [hlx]; exact c2, (World.cell?_of_block (a := ⟨w.heap.size, 0, none⟩) (c3 (w.heap.size) (by omega) (by omega))).trans a2, (World.cell?_of_block (a := ⟨w.heap.size + 1, 0, none⟩) (c3 (w.heap.size + 1) (by omega) (by omega))).trans a3, (World.cell?_of_block (a := ⟨w.heap.size + 1 + 1, 0, none⟩) (c3 (w.heap.size + 1 + 1) (by omega) (by omega))).trans a4, a5.trans (c1.mono (by omega))⟩, hz3, fun j j1 j2 => c3 j (by omega) j2⟩
        unfold retR; rw [if_pos ⟨e4, rfl⟩]
      · refine (retarget1_other s x w2 w1.heap.size (w.heap.size + 1) w.heap.size (lk l) k _ a0 a1 (by omega) a3 (by omega) a2 (by omega) (by omega) hkk (by simp; omega) (by omega) (by omega) m2).mono ?_
        rintro e w3 ⟨rfl, c1, c2, c3⟩
        have hz3 := c1.size
        refine ⟨?_, ⟨by omega, by rw [hlx]; exact c2, (World.cell?_of_block (a := ⟨w.heap.size, 0, none⟩) (c3 (w.heap.size) (by omega) (by omega))).trans a2, (World.cell?_of_block (a := ⟨w.heap.size + 1, 0, none⟩) (c3 (w.heap.size + 1) (by omega) (by omega))).trans a3, (World.cell?_of_block (a := ⟨w.heap.size + 1 + 1, 0, none⟩) (c3 (w.heap.size + 1 + 1) (by omega) (by omega))).trans a4, a5.trans (c1.mono (by omega))⟩, hz3, fun j j1 j2 => c3 j (by omega) j2⟩
        unfold retR; rw [if_neg (fun h => en h.2)]
    · have hlx : lk (l ++ [x]) = lk l := by rw [lk_append, lk_cons, if_neg e4, lk_nil]; rfl
      refine (retarget1_no s x w2 w.heap.size _ _ _ (by omega) a2 (by simpa using e4) (by omega) m2).mono ?_
      rintro e w3 ⟨rfl, c1⟩
      have hz3 := c1.size
      refine ⟨?_, ⟨by omega, by rw [hlx]; exact (c1.block _ a0).trans a1, (c1.cell (p := ⟨w.heap.size, 0, none⟩) (by show w.heap.size < _; omega)).trans a2, (c1.cell (p := ⟨w.heap.size + 1, 0, none⟩) (by show w.heap.size + 1 < _; omega)).trans a3, (c1.cell (p := ⟨w.heap.size + 1 + 1, 0, none⟩) (by show w.heap.size + 1 + 1 < _; omega)).trans a4, a5.trans (c1.mono (by omega))⟩, hz3, fun j _ j2 => c1.block j j2⟩
      unfold retR; rw [if_neg (fun h => e4 h.1)]
  · rintro e w2 ⟨rfl, ⟨_, _, _, _, _, hb5⟩, hz2⟩
    have HB5 := Lib.hid hb5
    have hlen : (retOut s k U).size ≤ 140737488355328 := by
      have h1 := repP_len (retR s k U) 2097152 (spans s) [] (fun p x q _ => retR_size s k U _ x hs hUs)
      have h2 := (cont_le (spans_cont s)).2
      have h3 : (retOut s k U).size = (repP (retR s k U) [] (spans s)).length := by unfold retOut; simp [ByteArray.size]
      have h4 : (spans s).length * 2097152 ≤ 1048576 * 2097152 := Nat.mul_le_mul_right _ (by omega)
      omega
    clear hb5
    rw [show (⟨(repP (retR s k U) [] (spans s)).toArray⟩ : ByteArray) = retOut s k U from rfl]
    go_wp2_with fail
    refine (bounded_any (retOut s k U) _ hlen).mono ?_
    rintro e w3 ⟨rfl, rfl⟩
    by_cases hbig : 2000 < (retOut s k U).size
    · have HV : Hid (boundV (retOut s k U) = .tuple #[.string ⟨#[]⟩, .int .i64 4]) := by show _ = _; unfold boundV; rw [if_pos hbig]
      rw [HV.out]
      clear hbig
      go_wp2
      go_ret2
      exact ⟨by rw [HV.out]; rfl, HB5.out⟩
    · have HV : Hid (boundV (retOut s k U) = .tuple #[.string (retOut s k U), .int .i64 0]) := by show _ = _; unfold boundV; rw [if_neg hbig]
      rw [HV.out]
      clear hbig
      go_wp2
      go_ret2
      exact ⟨by rw [HV.out]; rfl, HB5.out⟩
end Go.Proofs.YtcbmddgafkoooaaDoor
