/-
  DERIVED. The walk of find.QueryText. Conditions: sizes. By an AI agent.
-/
import Derived.Test.YtpkpnmfcjoheoaaQrParts
namespace Go.Proofs.Ytpkpnmfcjoheoaa
open Go.RowKit

theorem lens_mem : ∀ {xs : List (List UInt8)} {x : List UInt8}, x ∈ xs → x.length ≤ Lib.lens xs
  | [], _, h => by cases h
  | y :: r, x, h => by
    have e : Lib.lens (y :: r) = y.length + Lib.lens r := by simp [Lib.lens]
    rcases List.mem_cons.1 h with rfl | h
    · omega
    · have := lens_mem h; omega
theorem join_mem {xs : List ByteArray} {x sep : ByteArray} (h : x ∈ xs) : x.size ≤ (joinB xs sep).size := by
  rw [joinB_size]
  cases xs with
  | nil => cases h
  | cons y r =>
    rw [List.map_cons, Lib.join_length]
    have := lens_mem (xs := (y :: r).map (·.data.toList)) (List.mem_map.2 ⟨x, h, rfl⟩)
    rw [List.map_cons] at this
    have e : x.data.toList.length = x.size := rfl
    rw [e] at this
    exact Nat.le_trans this (Nat.le_add_left _ _)
theorem ctext_in {cs : List Clause} {c : Clause} (h : c ∈ cs) : (ctext c).size ≤ (qtext cs).size := join_mem (List.mem_map.2 ⟨c, h, rfl⟩)
theorem ctext_join (c : Clause) : (joinB (c.parts.map ptext) bBar).size ≤ (ctext c).size := by
  unfold ctext; rw [ByteArray.size_append]; omega
theorem ptext_in {c : Clause} {p : Part} (h : p ∈ c.parts) : (ptext p).size ≤ (ctext c).size := Nat.le_trans (join_mem (List.mem_map.2 ⟨p, h, rfl⟩)) (ctext_join c)
theorem ptext_join {p : Part} (h : p.kind = 3) : (joinB p.words bSp).size ≤ (ptext p).size := by
  unfold ptext; rw [if_pos h, ByteArray.size_append, ByteArray.size_append]; omega

/-- a clause that can be written -/
def okc (c : Clause) : Prop := c.parts ≠ [] ∧ ∀ p ∈ c.parts, ckP p = 0
/-- a query that can be written -/
def okQ (cs : List Clause) : Prop := np cs ≤ 20 ∧ (∀ c ∈ cs, okc c) ∧ (qtext cs).size ≤ 400
def QtP (cs : List Clause) (w : World) (e : Ending) (w' : World) : Prop :=
  ∃ (o : ByteArray) (er : Int), e = .returned (.tuple #[.string o, .int .i64 er]) ∧ ((er = 0 ∧ o = qtext cs ∧ okQ cs) ∨ (er ≠ 0 ∧ o = ⟨#[]⟩ ∧ ¬ okQ cs)) ∧ Below w.heap.size w w'
theorem QtP.bad {cs : List Clause} {w w' : World} {e : Ending} {er : Int} (he : e = .returned (.tuple #[.string ⟨#[]⟩, .int .i64 er])) (h : er ≠ 0) (hn : ¬ okQ cs) (hb : Below w.heap.size w w') : QtP cs w e w' := ⟨⟨#[]⟩, er, he, .inr ⟨h, rfl, hn⟩, hb⟩
theorem str_info : (Try.prog.info? 9).map (fun i => (i.zero, i.size, i.bytes)) = some (some (.string ⟨#[]⟩), 1, 16) := by kernel_rfl

/-- a part's text, whatever its kind, where checkPart accepts it -/
theorem partText_of (p : Part) (v : Value) (w : World) (B : Nat) (hr : RW w B v p.words) (hB : B ≤ w.heap.size) (hk : ckP p = 0) (hbig : p.words.length ≤ 4294967280) (hs : ∀ x ∈ p.words, x.size ≤ 4294967280) (hj : p.kind = 3 → (joinB p.words bSp).size ≤ 4294967280) :
    Calls Try.prog 32 #[.agg #[.int .i64 p.kind, v]] w fun e w' => e = .returned (.string (ptext p)) ∧ Below w.heap.size w w' := by
  by_cases h : p.kind = 3
  · exact partText_any p v w B hr hB hk hbig hs (hj h)
  · refine partText_any p v w B hr hB hk hbig hs ?_
    obtain ⟨x, hx⟩ : ∃ x, p.words = [x] := List.length_eq_one_iff.1 ((ckP_zero hk).2.2.2.1 h)
    have hxs := hs x (by rw [hx]; exact List.mem_singleton.2 rfl)
    rw [joinB_size, hx]
    show (Lib.join [x.data.toList] _).length ≤ _
    rw [Lib.join_one]
    exact hxs

theorem str_one (s : ByteArray) : ∀ u ∈ [Value.string s], u.oneCell' = true := fun u hu => by rw [List.mem_singleton.1 hu]; rfl
theorem take_str {α : Type} (f : α → ByteArray) {xs : List α} {k : Nat} {x : α} (h : xs[k]? = some x) : (((xs.take (k + 1)).map f).map Value.string) = ((xs.take k).map f).map .string ++ [.string (f x)] := by
  rw [List.take_add_one, h]
  simp
theorem take_all {α : Type} {q : α → Prop} {xs : List α} {k : Nat} {x : α} (h : xs[k]? = some x) (ha : ∀ y ∈ xs.take k, q y) (hx : q x) : ∀ y ∈ xs.take (k + 1), q y := by
  intro y hy
  rw [List.take_add_one, h] at hy
  rcases List.mem_append.1 hy with hy | hy
  · exact ha y hy
  · rw [show y = x by simpa using hy]; exact hx
theorem join_own (xs : List ByteArray) (sep : ByteArray) (w : World) (base n : Nat) (v : Value) (h : w.ownsRow base 9 1 v n (xs.map .string)) (hn : n = xs.length) (hb : n ≤ 4294967280) (hs : (joinB xs sep).size ≤ 4294967280) :
    Calls Try.prog 33 #[v, .string sep] w fun e w' => e = .returned (.string (joinB xs sep)) ∧ Below w.heap.size w w' := by
  have hr := own_reads h
  obtain ⟨h1, h2⟩ := h
  have h0 : ∀ A c, n = 0 → Calls Try.prog 33 #[.slice A n c, .string sep] w fun e w' => e = .returned (.string (joinB xs sep)) ∧ Below w.heap.size w w' := by
    intro A c h0
    obtain rfl : xs = [] := List.eq_nil_of_length_eq_zero (by omega)
    rw [h0]
    refine (Try.strings_Join_none A c sep w).mono ?_
    rintro e w' ⟨rfl, rfl⟩
    exact ⟨rfl, Below.refl _ _⟩
  rcases h2 with ⟨rfl, rfl⟩ | ⟨g, cap, cur, rfl, hg, hh, hnc, _⟩
  · exact h0 none 0 rfl
  · rcases Nat.eq_zero_or_pos n with h3 | h3
    · exact h0 _ _ h3
    · obtain ⟨A, c, e, hrd⟩ := hr
      injection e with e1 e2 e3
      subst e1
      obtain ⟨b, off, e4, hbb, hc⟩ := hrd.plain h3 (by decide)
      injection e4 with e4
      rw [e4]
      have h := Try.strings_Join b off cap xs sep w (fun j x hx => hc j (.string x) (by rw [List.getElem?_map, hx]; rfl)) hbb (by omega) (by omega) (by rw [← joinB_size]; omega)
      rw [← hn] at h
      exact h

set_option maxHeartbeats 1000000 in
set_option maxRecDepth 100000 in
theorem queryText_any (cs : List Clause) (v : Value) (w : World) (B : Nat) (hr : RC w B v cs) (hB : B ≤ w.heap.size) (hnp : np cs ≤ 4294967280) (hlen : cs.length ≤ 4294967280) (hq : (qtext cs).size ≤ 4294967280)
    (hw : ∀ c ∈ cs, ∀ p ∈ c.parts, p.words.length ≤ 4294967280 ∧ ∀ x ∈ p.words, x.size ≤ 4294967280) :
    Calls Try.prog 22 #[.agg #[v]] w (QtP cs w) := by
  obtain ⟨i0, hi, hz0, hz1, hz2⟩ := info_parts str_info
  have HPT : Hid (∀ w1, Below w.heap.size w w1 → Calls Try.prog 30 #[.agg #[v]] w1 fun e w' => e = .returned (.int .i64 (np cs)) ∧ Below w1.heap.size w1 w') := fun w1 hb => parts_any cs v w1 B (hr.below (hb.mono hB)) (Nat.le_trans hB hb.size) hnp hlen
  have hr' := hr
  obtain ⟨A, n, c, M, hM, rfl, hn, hrd, hin⟩ := hr
  have HR := Lib.hid hrd
  have HN := Lib.hid hn
  have HI := Lib.hid hin
  have HM := Lib.hid hM
  have hnl : n = cs.length := by rw [hn, ← hM, List.length_map]
  have hnb : n ≤ 4294967280 := by omega
  have HNL := Lib.hid hnl
  have HW0 := Lib.hid hw
  have HQ := Lib.hid hq
  clear hrd hn hin hM hnl hw hq hr'
  obtain ⟨m, hm⟩ : ∃ m, m = np cs := ⟨_, rfl⟩
  rw [← hm] at HPT hnp
  by_cases hbig : 20 < m
  · have hno : Hid (¬ okQ cs) := fun h => by have := h.1; omega
    have i1 : (20 : Int) < (m : Int) := by omega
    clear hm
    go_enter Try.func22, Try.ntmps22
    go_wp2_with fail
    refine (HPT.out _ ((Below.refl _ _).alloc (Nat.le_refl _) _)).mono ?_
    rintro e w1 ⟨rfl, hb1⟩
    go_wp2_with fail
    go_ret2
    exact QtP.bad rfl (by decide) hno.out (((Below.refl _ _).alloc (Nat.le_refl _) _).trans (hb1.mono (by simp)))
  have HNP : Hid (np cs ≤ 20) := by show _ ≤ _; omega
  have i1 : ¬ (20 : Int) < (m : Int) := by omega
  clear hm hbig
  go_enter Try.func22, Try.ntmps22
  go_wp2_with fail
  refine (HPT.out _ ((Below.refl _ _).alloc (Nat.le_refl _) _)).mono ?_
  rintro e w1 ⟨rfl, hb1⟩
  have HB1 : Hid (Below w.heap.size w w1) := ((Below.refl w.heap.size w).alloc (Nat.le_refl _) _).trans (hb1.mono (by simp))
  have hbox := (Blk.new w 24 #[.slice A n c]).below hb1 (by simp)
  have x0 := hbox.cell 0
  have hz1w : w.heap.size < w1.heap.size := hbox.lt
  clear hb1 hbox HPT
  have x0' : w1.cell? ⟨w.heap.size, 0, none⟩ = some (.slice A n c) := x0
  clear x0
  go_wp2_with fail
  go_loopg [4, 19] n (fun gg s4 s19 wr => ∃ (k : Nat) (s : Value), s = s4 ∧ k + gg = n ∧ s19 = .int .i64 (k : Int) ∧ wr.ownsRow (w.heap.size + 1) 9 1 s4 k (((cs.take k).map ctext).map .string) ∧ Hid (∀ c ∈ cs.take k, okc c) ∧ Below w.heap.size w wr ∧ w.heap.size < wr.heap.size)
  case atStart => exact ⟨0, _, rfl, by omega, rfl, World.ownsRow_nil _ _ _ _, (fun c h => by cases h), HB1.out, hz1w⟩
  case round =>
    obtain ⟨k, s4, rfl, hkg, rfl, hown, HV, hbel, hzr⟩ := hrel
    obtain ⟨W1, rfl⟩ : ∃ W1, W1 = wr := ⟨_, rfl⟩
    by_cases hk : k < n
    · obtain ⟨x, hx⟩ : ∃ x, M[k]? = some x := ⟨_, List.getElem?_eq_getElem (by have := HN.out; omega)⟩
      obtain ⟨b, off, rfl, hbb, hc⟩ := Reads.plain_at (by decide) clV_len HR.out HN.out hx
      have hbw : b < w.heap.size := by omega
      obtain ⟨cl, u⟩ := x
      have hck : cs[k]? = some cl := by rw [← HM.out, List.getElem?_map, hx]; rfl
      have hcm := List.mem_of_getElem? hck
      obtain ⟨A', n', c', M', hM', rfl, hn', hrd', hin'⟩ := HI.out _ (List.mem_of_getElem? hx)
      have hnl' : n' = cl.parts.length := by rw [hn', ← hM', List.length_map]
      have c0 : W1.cell? ⟨b, off + k * 2, none⟩ = some (.bool cl.neg) := (hbel.cell (p := ⟨b, off + k * 2, none⟩) hbw).trans (hc 0 _ rfl)
      have c1 : W1.cell? ⟨b, off + k * 2 + 1, none⟩ = some (.slice A' n' c') := (hbel.cell (p := ⟨b, off + k * 2 + 1, none⟩) hbw).trans (hc 1 _ rfl)
      have hn20 : n' ≤ 20 := by
        have h1 := np_take cs k cl hck
        have h2 := np_le cs (k + 1)
        have h3 := HNP.out
        omega
      have hzz := hbel.size
      have j0 : (0 : Int) ≤ (k : Int) := by omega
      have j1 : (k : Int) < (n : Int) := by omega
      have HB := Lib.hid hbel
      have HCK := Lib.hid hck
      have HCM := Lib.hid hcm
      have HNL' := Lib.hid hnl'
      have HM' := Lib.hid hM'
      have HN' := Lib.hid hn'
      have HR' := Lib.hid hrd'
      have HI' := Lib.hid hin'
      clear hx hc hck hcm hM' hnl' hn' hrd' hin' hbel
      by_cases hn0 : n' = 0
      · subst hn0
        have hno : Hid (¬ okQ cs) := fun h => (h.2.1 cl HCM.out).1 (List.eq_nil_of_length_eq_zero (by have := HNL'.out; omega))
        go_wp2_with fail
        go_ret2
        exact QtP.bad rfl (by decide) hno.out (HB.out.alloc hzz _)
      · have i2 : ((n' : Int) == 0) = false := beq_eq_false_iff_ne.2 (by omega)
        have HJO : Hid (W1.ownsRow (w.heap.size + 1) 9 1 s4 k (((cs.take k).map ctext).map .string)) := hown
        clear hown
        go_wp2_with fail
        have hB0 : Hid (Below w.heap.size w (W1.alloc (.cells #[.bool cl.neg, .slice A' n' c'] 58))) := HB.out.alloc hzz _
        go_loopg [7, 30] n' (fun gg s7 s30 wi => ∃ (j : Nat) (s : Value), s = s7 ∧ j + gg = n' ∧ s30 = .int .i64 (j : Int) ∧ wi.ownsRow (W1.heap.size + 1) 9 1 s7 j (((cl.parts.take j).map ptext).map .string) ∧ Hid (∀ p ∈ cl.parts.take j, ckP p = 0) ∧ Below (W1.heap.size + 1) (W1.alloc (.cells #[.bool cl.neg, .slice A' n' c'] 58)) wi)
        case atStart => exact ⟨0, _, rfl, by omega, rfl, World.ownsRow_nil _ _ _ _, (fun p h => by cases h), Below.refl _ _⟩
        case round =>
          obtain ⟨j, s7, rfl, hjg, rfl, hown, HVP, hbi⟩ := hrel
          obtain ⟨wi, rfl⟩ : ∃ wi, wi = wr := ⟨_, rfl⟩
          have hzi : W1.heap.size + 1 ≤ wi.heap.size := by have := hbi.size; simpa using this
          have HBI := Lib.hid hbi
          have HW : Hid (Below w.heap.size w wi) := hB0.out.trans (hbi.mono (by omega))
          by_cases hj : j < n'
          · obtain ⟨x, hx⟩ : ∃ x, M'[j]? = some x := ⟨_, List.getElem?_eq_getElem (by have := HN'.out; omega)⟩
            obtain ⟨b', off', rfl, hbb', hc⟩ := Reads.plain_at (by decide) paV_len HR'.out HN'.out hx
            have hbw' : b' < w.heap.size := by omega
            obtain ⟨p, u⟩ := x
            have hpk : cl.parts[j]? = some p := by rw [← HM'.out, List.getElem?_map, hx]; rfl
            have hpm := List.mem_of_getElem? hpk
            have hrw : RW w B u p.words := HI'.out _ (List.mem_of_getElem? hx)
            have d0 : wi.cell? ⟨b', off' + j * 2, none⟩ = some (.int .i64 p.kind) := (HW.out.cell (p := ⟨b', off' + j * 2, none⟩) hbw').trans (hc 0 _ rfl)
            have d1 : wi.cell? ⟨b', off' + j * 2 + 1, none⟩ = some u := (HW.out.cell (p := ⟨b', off' + j * 2 + 1, none⟩) hbw').trans (hc 1 _ rfl)
            have hzw := HW.out.size
            have i0' : (0 : Int) ≤ (j : Int) := by omega
            have i1' : (j : Int) < (n' : Int) := by omega
            obtain ⟨hwl, hws⟩ := HW0.out cl HCM.out p hpm
            have HCP : Hid (∀ w2, Below w.heap.size w w2 → Calls Try.prog 31 #[.agg #[.int .i64 p.kind, u]] w2 fun e w' => e = .returned (.int .i64 (ckP p)) ∧ Below w2.heap.size w2 w') := fun w2 hb =>
              checkPart_any p u w2 B (hrw.below (hb.mono hB)) (Nat.le_trans hB hb.size) hwl hws
            have HPT : Hid (∀ w2, Below w.heap.size w w2 → ckP p = 0 → Calls Try.prog 32 #[.agg #[.int .i64 p.kind, u]] w2 fun e w' => e = .returned (.string (ptext p)) ∧ Below w2.heap.size w2 w') := fun w2 hb h0 =>
              partText_of p u w2 B (hrw.below (hb.mono hB)) (Nat.le_trans hB hb.size) h0 hwl hws (fun h3 => Nat.le_trans (ptext_join h3) (Nat.le_trans (ptext_in hpm) (Nat.le_trans (ctext_in HCM.out) HQ.out)))
            have HPK := Lib.hid hpk
            have HPM := Lib.hid hpm
            have HOW := Lib.hid hown
            obtain ⟨Au, nu, cu, rfl⟩ : ∃ A n c, u = .slice A n c := by obtain ⟨A2, n2, c2, h, _⟩ := hrw; exact ⟨_, _, _, h⟩
            clear hx hc hpk hpm hrw hwl hws hown hbi
            obtain ⟨q, hq⟩ : ∃ q, q = ckP p := ⟨_, rfl⟩
            rw [← hq] at HCP
            have HQ0 := Lib.hid hq
            clear hq
            by_cases hq0 : q = 0
            · subst hq0
              go_wp2_with fail
              refine (HCP.out _ (HW.out.alloc hzw _)).mono ?_
              rintro e w2 ⟨rfl, hb2⟩
              have hbx := (Blk.new wi 61 #[.int .i64 p.kind, .slice Au nu cu]).below hb2 (by simp)
              have y0 := hbx.cell 0
              have y1 := hbx.cell 1
              have hzx : wi.heap.size < w2.heap.size := hbx.lt
              have HB2 : Hid (Below w.heap.size w w2) := (HW.out.alloc hzw _).trans (hb2.mono (by simp; omega))
              have HBI2 : Hid (Below (W1.heap.size + 1) (W1.alloc (.cells #[.bool cl.neg, .slice (some ⟨b', off', none⟩) n' c'] 58)) w2) := (HBI.out.alloc hzi _).trans (hb2.mono (by simp; omega))
              have HO2 := Lib.hid (own_below (HOW.out.alloc (.cells #[.int .i64 p.kind, .slice Au nu cu] 61)) hb2)
              have y0' : w2.cell? ⟨wi.heap.size, 0, none⟩ = some (.int .i64 p.kind) := y0
              have y1' : w2.cell? ⟨wi.heap.size, 1, none⟩ = some (.slice Au nu cu) := y1
              clear hb2 hbx y0 y1
              go_wp2_with fail
              refine (HPT.out _ HB2.out HQ0.out.symm).mono ?_
              rintro e w3 ⟨rfl, hb3⟩
              have hown3 := own_below HO2.out hb3
              have hz3 : w2.heap.size ≤ w3.heap.size := hb3.size
              have HB3 : Hid (Below w.heap.size w w3) := HB2.out.trans (hb3.mono (by omega))
              have HBI3 : Hid (Below (W1.heap.size + 1) (W1.alloc (.cells #[.bool cl.neg, .slice (some ⟨b', off', none⟩) n' c'] 58)) w3) := HBI2.out.trans (hb3.mono (by omega))
              clear hb3
              go_wp2_with (at_builtin; refine wpList_append_own_at _ rfl _ _ 59 rfl (W1.heap.size + 1) 9 i0 (.string ⟨#[]⟩) 1 16 Try.underlying59 hi hz0 hz1 hz2 rfl (by decide) _ j _ rfl (hown3.alloc _) ⟨w3.heap.size, 0, none⟩ 1 1 [.string (ptext p)] rfl rfl (new_cells _ _ [.string (ptext p)] _ (by simp)) (str_one _) (by unfold maxLen; omega) (by omega) (by simp; omega) ?_; intro v7 w7 hown7 hg7 _ _)
              have hlt := hown3.lt
              have HB7 : Hid (Below w.heap.size w w7) := (HB3.out.alloc (by omega) _).grown hg7 (by simp; omega) (fun g h => by have := (hlt g h).1; omega)
              have HBI7 : Hid (Below (W1.heap.size + 1) (W1.alloc (.cells #[.bool cl.neg, .slice (some ⟨b', off', none⟩) n' c'] 58)) w7) := (HBI3.out.alloc (by omega) _).grown hg7 (by simp; omega) (fun g h => by have := (hlt g h).1; omega)
              rw [← take_str ptext HPK.out] at hown7
              have HVQ := Lib.hid (take_all (q := fun p => ckP p = 0) HPK.out HVP.out HQ0.out.symm)
              clear hg7 hlt hown3
              go_wp2_with fail
              go_roundg (n' - (j + 1))
              case measure => omega
              case rel => exact ⟨j + 1, _, rfl, by omega, by go_num, hown7, HVQ, HBI7.out⟩
            · have i4 : (q != 0) = true := bne_iff_ne.2 hq0
              have hno : Hid (¬ okQ cs) := fun h => hq0 (HQ0.out.trans ((h.2.1 cl HCM.out).2 p HPM.out))
              go_wp2_with fail
              refine (HCP.out _ (HW.out.alloc hzw _)).mono ?_
              rintro e w2 ⟨rfl, hb2⟩
              have HB2 : Hid (Below w.heap.size w w2) := (HW.out.alloc hzw _).trans (hb2.mono (by simp; omega))
              clear hb2
              go_wp2_with fail
              go_ret2
              exact QtP.bad rfl hq0 hno.out HB2.out
          · obtain rfl : j = n' := by omega
            have htk : cl.parts.take j = cl.parts := List.take_of_length_le (by rw [HNL'.out]; exact Nat.le_refl _)
            rw [htk] at hown HVP
            have x0 : wi.cell? ⟨W1.heap.size, 0, none⟩ = some (.bool cl.neg) := ((Blk.new W1 58 #[.bool cl.neg, .slice A' j c']).below hbi (Nat.lt_succ_self _)).cell 0
            have HO := Lib.hid (own_below (HJO.out.alloc (.cells #[.bool cl.neg, .slice A' j c'] 58)) (hbi.mono (by simp)))
            have HNE : Hid (cl.parts ≠ []) := fun h => hn0 (by rw [HNL'.out, h]; rfl)
            have hzw := HW.out.size
            have HJ : Hid (∀ w2, w2 = wi → Calls Try.prog 33 #[s7, .string bBar] w2 fun e w' => e = .returned (.string (joinB (cl.parts.map ptext) bBar)) ∧ Below w2.heap.size w2 w') := by
              rintro w2 rfl
              exact join_own (cl.parts.map ptext) bBar w2 _ j s7 hown (by rw [List.length_map]; exact HNL'.out) (by omega) (Nat.le_trans (ctext_join cl) (Nat.le_trans (ctext_in HCM.out) HQ.out))
            obtain ⟨J, hJ⟩ : ∃ J, J = joinB (cl.parts.map ptext) bBar := ⟨_, rfl⟩
            rw [← hJ] at HJ
            have hJs : J.size ≤ 4294967280 := by rw [hJ]; exact Nat.le_trans (ctext_join cl) (Nat.le_trans (ctext_in HCM.out) HQ.out)
            have HJ0 : Hid (joinB (cl.parts.map ptext) bBar = J) := hJ.symm
            clear htk hown hbi hJ
            cases hneg : cl.neg
            · have hct : ctext cl = ⟨#[]⟩ ++ J := by unfold ctext; rw [hneg, HJ0.out]; rfl
              have HCT := Lib.hid hct
              have hcw : okc cl := ⟨HNE.out, HVP.out⟩
              have HCW := Lib.hid hcw
              rw [hneg] at x0
              clear hct hcw hneg
              go_wp2_with fail
              refine (HJ.out _ rfl).mono ?_
              rintro e w2 ⟨rfl, hb2⟩
              have hown2 := own_below HO.out hb2
              have hz2' : wi.heap.size ≤ w2.heap.size := hb2.size
              have HB2 : Hid (Below w.heap.size w w2) := HW.out.trans (hb2.mono (by omega))
              clear hb2
              go_wp2_with (at_builtin; refine wpList_append_own_at _ rfl _ _ 59 rfl (w.heap.size + 1) 9 i0 (.string ⟨#[]⟩) 1 16 Try.underlying59 hi hz0 hz1 hz2 rfl (by decide) _ k _ rfl (hown2.alloc _) ⟨w2.heap.size, 0, none⟩ 1 1 [.string (⟨#[]⟩ ++ J)] rfl rfl (new_cells _ _ [.string (⟨#[]⟩ ++ J)] _ (by simp)) (str_one _) (by unfold maxLen; omega) (by omega) (by simp; omega) ?_; intro v7 w7 hown7 hg7 _ _)
              have hlt := hown2.lt
              have HB7 : Hid (Below w.heap.size w w7) := (HB2.out.alloc (by omega) _).grown hg7 (by simp; omega) (fun g h => by have := (hlt g h).1; omega)
              have hz7 : w.heap.size < w7.heap.size := by have := hg7.size; simp at this; omega
              rw [← HCT.out, ← take_str ctext HCK.out] at hown7
              have HVQ := Lib.hid (take_all (q := okc) HCK.out HV.out HCW.out)
              clear hg7 hlt hown2
              go_wp2_with fail
              go_roundg (n - (k + 1))
              case measure => omega
              case rel => exact ⟨k + 1, _, rfl, by omega, by go_num, hown7, HVQ, HB7.out, hz7⟩
            · have hct : ctext cl = ⟨#[45]⟩ ++ J := by unfold ctext; rw [hneg, HJ0.out]; rfl
              have HCT := Lib.hid hct
              have hcw : okc cl := ⟨HNE.out, HVP.out⟩
              have HCW := Lib.hid hcw
              rw [hneg] at x0
              clear hct hcw hneg
              go_wp2_with fail
              refine (HJ.out _ rfl).mono ?_
              rintro e w2 ⟨rfl, hb2⟩
              have hown2 := own_below HO.out hb2
              have hz2' : wi.heap.size ≤ w2.heap.size := hb2.size
              have HB2 : Hid (Below w.heap.size w w2) := HW.out.trans (hb2.mono (by omega))
              clear hb2
              go_wp2_with (at_builtin; refine wpList_append_own_at _ rfl _ _ 59 rfl (w.heap.size + 1) 9 i0 (.string ⟨#[]⟩) 1 16 Try.underlying59 hi hz0 hz1 hz2 rfl (by decide) _ k _ rfl (hown2.alloc _) ⟨w2.heap.size, 0, none⟩ 1 1 [.string (⟨#[45]⟩ ++ J)] rfl rfl (new_cells _ _ [.string (⟨#[45]⟩ ++ J)] _ (by simp)) (str_one _) (by unfold maxLen; omega) (by omega) (by simp; omega) ?_; intro v7 w7 hown7 hg7 _ _)
              have hlt := hown2.lt
              have HB7 : Hid (Below w.heap.size w w7) := (HB2.out.alloc (by omega) _).grown hg7 (by simp; omega) (fun g h => by have := (hlt g h).1; omega)
              have hz7 : w.heap.size < w7.heap.size := by have := hg7.size; simp at this; omega
              rw [← HCT.out, ← take_str ctext HCK.out] at hown7
              have HVQ := Lib.hid (take_all (q := okc) HCK.out HV.out HCW.out)
              clear hg7 hlt hown2
              go_wp2_with fail
              go_roundg (n - (k + 1))
              case measure => omega
              case rel => exact ⟨k + 1, _, rfl, by omega, by go_num, hown7, HVQ, HB7.out, hz7⟩
    · obtain rfl : k = n := by omega
      have htk : cs.take k = cs := List.take_of_length_le (by rw [HNL.out]; exact Nat.le_refl _)
      rw [htk] at hown HV
      have hj0 : (joinB (cs.map ctext) bSp).size ≤ 4294967280 := HQ.out
      have HJO : Hid (∀ w2, w2 = W1 → Calls Try.prog 33 #[s4, .string bSp] w2 fun e w' => e = .returned (.string (qtext cs)) ∧ Below w2.heap.size w2 w') := by
        rintro w2 rfl
        exact join_own (cs.map ctext) bSp w2 _ k s4 hown (by rw [List.length_map]; exact HNL.out) (by omega) hj0
      have HB := Lib.hid hbel
      have hzz := hbel.size
      clear hown htk hj0 hbel
      obtain ⟨T, hT⟩ : ∃ T, T = qtext cs := ⟨_, rfl⟩
      rw [← hT] at HJO
      have HT := Lib.hid hT
      clear hT
      by_cases hbig : 400 < T.size
      · have i4 : (400 : Int) < (T.size : Int) := by omega
        have hno : Hid (¬ okQ cs) := fun h => by have := h.2.2; rw [← HT.out] at this; omega
        go_wp2_with fail
        refine (HJO.out _ rfl).mono ?_
        rintro e w2 ⟨rfl, hb2⟩
        have HB2 : Hid (Below w.heap.size w w2) := HB.out.trans (hb2.mono hzz)
        clear hb2
        go_wp2_with fail
        go_ret2
        exact QtP.bad rfl (by decide) hno.out HB2.out
      · have i4 : ¬ (400 : Int) < (T.size : Int) := by omega
        go_wp2_with fail
        refine (HJO.out _ rfl).mono ?_
        rintro e w2 ⟨rfl, hb2⟩
        have HB2 : Hid (Below w.heap.size w w2) := HB.out.trans (hb2.mono hzz)
        clear hb2
        go_wp2_with fail
        go_ret2
        exact ⟨T, 0, rfl, .inl ⟨rfl, HT.out, HNP.out, HV.out, by rw [← HT.out]; omega⟩, HB2.out⟩
end Go.Proofs.Ytpkpnmfcjoheoaa
