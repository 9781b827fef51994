/-
  DERIVED. Conditions: how many nodes, how deep, of what bulk. Plain law. Conditions: none.
  The walk of prop.CheckValue. Conditions: sizes.
  By an AI agent.
-/
import Derived.Test.YtnlonleljbbgoaaGreatDoorKe11
import Derived.Test.YtnlonleljbbgoaaGreatDoorKe10
namespace Go.Proofs.YtnlonleljbbgoaaGreatDoor

mutual
/-- the nodes of a condition -/
def cdN : Cd → Nat
  | .mk _ _ _ _ _ ks => 1 + cdNs ks
def cdNs : List Cd → Nat
  | [] => 0
  | c :: l => cdN c + cdNs l
end
mutual
/-- how deep a condition is -/
def cdD : Cd → Nat
  | .mk _ _ _ _ _ ks => 1 + cdDs ks
def cdDs : List Cd → Nat
  | [] => 0
  | c :: l => max (cdD c) (cdDs l)
end
theorem cdN_eq (c : Cd) : cdN c = 1 + cdNs c.kids := by cases c; rw [cdN]; rfl
theorem cdD_eq (c : Cd) : cdD c = 1 + cdDs c.kids := by cases c; rw [cdD]; rfl
theorem cdNs_app : ∀ (l m : List Cd), cdNs (l ++ m) = cdNs l + cdNs m
  | [], m => by rw [List.nil_append, cdNs, Nat.zero_add]
  | c :: l, m => by rw [List.cons_append, cdNs, cdNs, cdNs_app l m, Nat.add_assoc]
theorem cdDs_app : ∀ (l m : List Cd), cdDs (l ++ m) = max (cdDs l) (cdDs m)
  | [], m => by rw [List.nil_append, cdDs, Nat.zero_max]
  | c :: l, m => by rw [List.cons_append, cdDs, cdDs, cdDs_app l m, Nat.max_assoc]
theorem take_one {l : List Cd} {k : Nat} {x : Cd} (h : l[k]? = some x) : l.take (k + 1) = l.take k ++ [x] := by rw [List.take_add_one, h]; rfl
theorem cdNs_take {l : List Cd} {k : Nat} {x : Cd} (h : l[k]? = some x) : cdNs (l.take (k + 1)) = cdNs (l.take k) + cdN x := by
  rw [take_one h, cdNs_app, cdNs, cdNs, Nat.add_zero]
theorem cdDs_take {l : List Cd} {k : Nat} {x : Cd} (h : l[k]? = some x) : cdDs (l.take (k + 1)) = max (cdDs (l.take k)) (cdD x) := by
  rw [take_one h, cdDs_app, cdDs, cdDs, Nat.max_zero]
theorem cdN_pos (c : Cd) : 0 < cdN c := by rw [cdN_eq]; omega
theorem cdNs_le (l : List Cd) (k : Nat) : cdNs (l.take k) ≤ cdNs l := by
  have := cdNs_app (l.take k) (l.drop k)
  rw [List.take_append_drop] at this
  omega
theorem cdNs_len : ∀ l : List Cd, l.length ≤ cdNs l
  | [] => Nat.le_refl _
  | c :: l => by
    have := cdNs_len l
    have := cdN_pos c
    rw [List.length_cons, cdNs]
    omega
mutual
theorem cdD_le : ∀ c : Cd, cdD c ≤ cdN c
  | .mk _ _ _ _ _ ks => by
    have := cdDs_le ks
    rw [cdD, cdN]; omega
theorem cdDs_le : ∀ l : List Cd, cdDs l ≤ cdNs l
  | [] => by rw [cdDs, cdNs]; exact Nat.le_refl _
  | c :: l => by
    have := cdD_le c
    have := cdDs_le l
    rw [cdDs, cdNs]; omega
end
mutual
/-- the bulk of a condition: its nodes and the bytes of their texts -/
def cdB : Cd → Nat
  | .mk _ _ t _ _ ks => 1 + t.size + cdBs ks
def cdBs : List Cd → Nat
  | [] => 0
  | c :: l => cdB c + cdBs l
end
theorem cdB_eq (c : Cd) : cdB c = 1 + c.text.size + cdBs c.kids := by cases c; rw [cdB]; rfl
theorem cdB_kid : ∀ {l : List Cd} {k : Nat} {x : Cd}, l[k]? = some x → cdB x ≤ cdBs l
  | y :: l, 0, x, h => by
    obtain rfl : y = x := by simpa using h
    rw [cdBs]; omega
  | y :: l, k + 1, x, h => by
    have := cdB_kid (l := l) (k := k) (x := x) (by simpa using h)
    rw [cdBs]; omega
mutual
theorem cdN_le : ∀ c : Cd, cdN c ≤ cdB c
  | .mk _ _ _ _ _ ks => by
    have := cdNs_leB ks
    rw [cdN, cdB]; omega
theorem cdNs_leB : ∀ l : List Cd, cdNs l ≤ cdBs l
  | [] => by rw [cdNs, cdBs]; exact Nat.le_refl _
  | c :: l => by
    have := cdN_le c
    have := cdNs_leB l
    rw [cdNs, cdBs]; omega
end
end Go.Proofs.YtnlonleljbbgoaaGreatDoor
namespace Go.Proofs.YtnlonleljbbgoaaGreatDoor
open Go.RowKit

mutual
/-- the error of a value -/
def vErr : Vl → Int
  | .mk k i t s l => if outI k 0 7 = true then 10 else if ufB (.mk k i t s l) = false then 1 else if nuErr k i t ≠ 0 then nuErr k i t else if ttErr (k == 6) s ≠ 0 then ttErr (k == 6) s else if 20 < l.length then 4 else itErr l
/-- the error of a list's items -/
def itErr : List Vl → Int
  | [] => 0
  | x :: l => if (x.kind == 0) = true then 10 else if (x.kind == 7) = true then 10 else if vErr x ≠ 0 then vErr x else itErr l
end
theorem vErr_eq (x : Vl) : vErr x = if outI x.kind 0 7 = true then 10 else if ufB x = false then 1 else if nuErr x.kind x.int_ x.to_ ≠ 0 then nuErr x.kind x.int_ x.to_ else if ttErr (x.kind == 6) x.text ≠ 0 then ttErr (x.kind == 6) x.text else if 20 < x.items.length then 4 else itErr x.items := by
  cases x; rw [vErr]; rfl
theorem vErr_out {x : Vl} (h : outI x.kind 0 7 = true) : vErr x = 10 := by rw [vErr_eq, if_pos h]
theorem vErr_form {x : Vl} (h : outI x.kind 0 7 = false) (h1 : ufB x = false) : vErr x = 1 := by
  rw [vErr_eq, if_neg (by rw [h]; decide), if_pos h1]
theorem vErr_num {x : Vl} (h : outI x.kind 0 7 = false) (h1 : ufB x = true) (h2 : nuErr x.kind x.int_ x.to_ ≠ 0) : vErr x = nuErr x.kind x.int_ x.to_ := by
  rw [vErr_eq, if_neg (by rw [h]; decide), if_neg (by rw [h1]; decide), if_pos h2]
theorem vErr_text {x : Vl} (h : outI x.kind 0 7 = false) (h1 : ufB x = true) (h2 : nuErr x.kind x.int_ x.to_ = 0) (h3 : ttErr (x.kind == 6) x.text ≠ 0) : vErr x = ttErr (x.kind == 6) x.text := by
  rw [vErr_eq, if_neg (by rw [h]; decide), if_neg (by rw [h1]; decide), if_neg (fun e => e h2), if_pos h3]
theorem vErr_large {x : Vl} (h : outI x.kind 0 7 = false) (h1 : ufB x = true) (h2 : nuErr x.kind x.int_ x.to_ = 0) (h3 : ttErr (x.kind == 6) x.text = 0) (h4 : 20 < x.items.length) : vErr x = 4 := by
  rw [vErr_eq, if_neg (by rw [h]; decide), if_neg (by rw [h1]; decide), if_neg (fun e => e h2), if_neg (fun e => e h3), if_pos h4]
theorem vErr_items {x : Vl} (h : outI x.kind 0 7 = false) (h1 : ufB x = true) (h2 : nuErr x.kind x.int_ x.to_ = 0) (h3 : ttErr (x.kind == 6) x.text = 0) (h4 : ¬ 20 < x.items.length) : vErr x = itErr x.items := by
  rw [vErr_eq, if_neg (by rw [h]; decide), if_neg (by rw [h1]; decide), if_neg (fun e => e h2), if_neg (fun e => e h3), if_neg h4]
theorem itErr_at {M : List Vl} {k : Nat} {x : Vl} (h : M[k]? = some x) : itErr (M.drop k) = if (x.kind == 0) = true then 10 else if (x.kind == 7) = true then 10 else if vErr x ≠ 0 then vErr x else itErr (M.drop (k + 1)) := by
  obtain ⟨hk, e⟩ := List.getElem?_eq_some_iff.1 h
  rw [List.drop_eq_getElem_cons hk, itErr, e]

set_option maxHeartbeats 4000000 in
theorem checkVal_walk (x : Vl × Value) (M : List (Vl × Value)) (A : Option Addr) (n c : Nat) (w : World) (B : Nat) (hB : B ≤ w.heap.size) (hx : x.2 = .slice A n c) (hl : M.map Prod.fst = x.1.items) (h1 : Reads w B 5 A n (M.flatMap vlV)) (hn : n = M.length)
    (hs1 : ∀ x ∈ M, ∃ A n c, x.2 = .slice A n c)
    (hcl : ∀ x ∈ M, ∀ W, Below w.heap.size w W → Calls Tryz.prog 88 #[AV x] W fun e w' => e = .returned (.int .i64 (vErr x.1)) ∧ Below W.heap.size W w') :
    Calls Tryz.prog 88 #[AV x] w fun e w' => e = .returned (.int .i64 (vErr x.1)) ∧ Below w.heap.size w w' := by
  have hln : n = x.1.items.length := by rw [hn, ← hl, List.length_map]
  have HO : Hid (∀ n a b W, Calls Tryz.prog 131 #[.int .i64 n, .int .i64 a, .int .i64 b] W fun e w' => e = .returned (.bool (outI n a b)) ∧ w' = W) := fun n a b W => outsideP_any n a b W
  have HU : Hid (∀ W, Calls Tryz.prog 132 #[AV x] W fun e w' => e = .returned (.bool (ufB x.1)) ∧ Below W.heap.size W w') := fun W => by
    obtain ⟨x, v⟩ := x
    obtain rfl : v = _ := hx
    exact usesForm_any x A n c W hln
  have HNU : Hid (∀ W, Calls Tryz.prog 133 #[AV x] W fun e w' => e = .returned (.int .i64 (nuErr x.1.kind x.1.int_ x.1.to_)) ∧ Below W.heap.size W w') := fun W => checkNumbers_any x W
  have HTT : Hid (∀ W, Calls Tryz.prog 134 #[AV x] W fun e w' => e = .returned (.int .i64 (ttErr (x.1.kind == 6) x.1.text)) ∧ Below W.heap.size W w') := fun W => checkTextP_any x W ⟨A, n, c, hx⟩
  have V1 : Hid (outI x.1.kind 0 7 = true → vErr x.1 = 10) := vErr_out
  have V2 : Hid (outI x.1.kind 0 7 = false → ufB x.1 = false → vErr x.1 = 1) := vErr_form
  have V3 : Hid (outI x.1.kind 0 7 = false → ufB x.1 = true → nuErr x.1.kind x.1.int_ x.1.to_ ≠ 0 → vErr x.1 = nuErr x.1.kind x.1.int_ x.1.to_) := vErr_num
  have V4 : Hid (outI x.1.kind 0 7 = false → ufB x.1 = true → nuErr x.1.kind x.1.int_ x.1.to_ = 0 → ttErr (x.1.kind == 6) x.1.text ≠ 0 → vErr x.1 = ttErr (x.1.kind == 6) x.1.text) := vErr_text
  have V5 : Hid (outI x.1.kind 0 7 = false → ufB x.1 = true → nuErr x.1.kind x.1.int_ x.1.to_ = 0 → ttErr (x.1.kind == 6) x.1.text = 0 → 20 < n → vErr x.1 = 4) := fun a b c d e => vErr_large a b c d (by omega)
  have V6 : Hid (outI x.1.kind 0 7 = false → ufB x.1 = true → nuErr x.1.kind x.1.int_ x.1.to_ = 0 → ttErr (x.1.kind == 6) x.1.text = 0 → ¬ 20 < n → vErr x.1 = itErr (M.map Prod.fst)) := fun a b c d e => (vErr_items a b c d (by omega)).trans (by rw [hl])
  obtain ⟨V, hV⟩ : ∃ V, V = vErr x.1 := ⟨_, rfl⟩
  obtain ⟨o, ho⟩ : ∃ o, o = outI x.1.kind 0 7 := ⟨_, rfl⟩
  obtain ⟨u, hu⟩ : ∃ u, u = ufB x.1 := ⟨_, rfl⟩
  obtain ⟨nu, hnu⟩ : ∃ u, u = nuErr x.1.kind x.1.int_ x.1.to_ := ⟨_, rfl⟩
  obtain ⟨tt, htt⟩ : ∃ u, u = ttErr (x.1.kind == 6) x.1.text := ⟨_, rfl⟩
  simp only [← hu] at HU V2 V3 V4 V5 V6
  simp only [← ho] at V1 V2 V3 V4 V5 V6
  simp only [← hnu] at HNU V3 V4 V5 V6
  simp only [← htt] at HTT V4 V5 V6
  rw [← hV] at V1 V2 V3 V4 V5 V6 ⊢
  have HO1 : Hid (∀ W, Calls Tryz.prog 131 #[.int .i64 x.1.kind, .int .i64 0, .int .i64 7] W fun e w' => e = .returned (.bool o) ∧ w' = W) := fun W => by rw [ho]; exact HO.out _ _ _ W
  clear hV ho hu hnu htt
  obtain ⟨⟨k, i, t, s, l⟩, v⟩ := x
  obtain rfl : v = _ := hx
  obtain rfl : _ = l := hl
  have H1 := Lib.hid h1
  have HN := Lib.hid hn
  have HC := Lib.hid hcl
  have S1 := Lib.hid hs1
  clear h1 hn hcl hs1 hln HO
  dsimp only [AV, Vl.kind, Vl.int_, Vl.to_, Vl.text] at HU HNU HTT HO1 ⊢
  cases o
  case true =>
    have hv := V1.out rfl
    rw [hv]
    clear hv
    go_enter Tryz.func88, Tryz.ntmps88
    go_wp2_with fail
    refine (HO1.out _).mono ?_
    rintro e w1 ⟨rfl, rfl⟩
    go_wp2_with fail
    go_ret
    exact ⟨rfl, (Below.refl _ _).alloc (Nat.le_refl _) _⟩
  cases u
  case false =>
    have hv := V2.out rfl rfl
    rw [hv]
    clear hv
    go_enter Tryz.func88, Tryz.ntmps88
    go_wp2_with fail
    refine (HO1.out _).mono ?_
    rintro e w1 ⟨rfl, rfl⟩
    go_wp2_with fail
    refine (HU.out _).mono ?_
    rintro e w1 ⟨rfl, hb⟩
    have HB := Lib.hid hb
    clear hb
    go_wp2_with fail
    go_ret
    exact ⟨rfl, ((Below.refl _ _).alloc (Nat.le_refl _) _).trans (HB.out.mono (by simp))⟩
  by_cases hnz : nu = 0
  case neg =>
    have hv := V3.out rfl rfl hnz
    rw [hv]
    clear hv
    have hnz' : (nu != 0) = true := by simpa using hnz
    clear hnz
    go_enter Tryz.func88, Tryz.ntmps88
    go_wp2_with fail
    refine (HO1.out _).mono ?_
    rintro e w1 ⟨rfl, rfl⟩
    go_wp2_with fail
    refine (HU.out _).mono ?_
    rintro e w1 ⟨rfl, hb⟩
    have hc := fun i => hb.cell (p := ⟨w.heap.size, i, none⟩) (by simp)
    have HB : Hid (Below w.heap.size w w1) := ((Below.refl _ _).alloc (Nat.le_refl _) _).trans (hb.mono (by simp))
    clear hb
    go_wp2_with fail
    refine (HNU.out _).mono ?_
    rintro e w2 ⟨rfl, hb⟩
    have HB2 : Hid (Below w.heap.size w w2) := HB.out.trans (hb.mono HB.out.size)
    clear hb
    go_wp2_with fail
    go_ret
    exact ⟨rfl, HB2.out⟩
  case pos =>
  subst hnz
  by_cases htz : tt = 0
  case neg =>
    have hv := V4.out rfl rfl rfl htz
    rw [hv]
    clear hv
    have htz' : (tt != 0) = true := by simpa using htz
    clear htz
    go_enter Tryz.func88, Tryz.ntmps88
    go_wp2_with fail
    refine (HO1.out _).mono ?_
    rintro e w1 ⟨rfl, rfl⟩
    go_wp2_with fail
    refine (HU.out _).mono ?_
    rintro e w1 ⟨rfl, hb⟩
    have hc := fun i => hb.cell (p := ⟨w.heap.size, i, none⟩) (by simp)
    have HB : Hid (Below w.heap.size w w1) := ((Below.refl _ _).alloc (Nat.le_refl _) _).trans (hb.mono (by simp))
    have hz1 : w.heap.size < w1.heap.size := by have := hb.size; simp at this; omega
    clear hb
    go_wp2_with fail
    refine (HNU.out _).mono ?_
    rintro e w2 ⟨rfl, hb⟩
    have hc2 := fun i => hb.cell (p := ⟨w.heap.size, i, none⟩) hz1
    have HB2 : Hid (Below w.heap.size w w2) := HB.out.trans (hb.mono HB.out.size)
    clear hb
    go_wp2_with fail
    refine (HTT.out _).mono ?_
    rintro e w3 ⟨rfl, hb⟩
    have HB3 : Hid (Below w.heap.size w w3) := HB2.out.trans (hb.mono HB2.out.size)
    clear hb
    go_wp2_with fail
    go_ret
    exact ⟨rfl, HB3.out⟩
  case pos =>
  subst htz
  by_cases hbig : 20 < n
  case pos =>
    have hv := V5.out rfl rfl rfl rfl hbig
    rw [hv]
    clear hv
    have hbig' : (20 : Int) < (n : Int) := by omega
    go_enter Tryz.func88, Tryz.ntmps88
    go_wp2_with fail
    refine (HO1.out _).mono ?_
    rintro e w1 ⟨rfl, rfl⟩
    go_wp2_with fail
    refine (HU.out _).mono ?_
    rintro e w1 ⟨rfl, hb⟩
    have hc := fun i => hb.cell (p := ⟨w.heap.size, i, none⟩) (by simp)
    have HB : Hid (Below w.heap.size w w1) := ((Below.refl _ _).alloc (Nat.le_refl _) _).trans (hb.mono (by simp))
    have hz1 : w.heap.size < w1.heap.size := by have := hb.size; simp at this; omega
    clear hb
    go_wp2_with fail
    refine (HNU.out _).mono ?_
    rintro e w2 ⟨rfl, hb⟩
    have hc2 := fun i => hb.cell (p := ⟨w.heap.size, i, none⟩) hz1
    have HB2 : Hid (Below w.heap.size w w2) := HB.out.trans (hb.mono HB.out.size)
    have hz2 : w.heap.size < w2.heap.size := by have := hb.size; omega
    clear hb
    go_wp2_with fail
    refine (HTT.out _).mono ?_
    rintro e w3 ⟨rfl, hb⟩
    have hc3 := fun i => hb.cell (p := ⟨w.heap.size, i, none⟩) hz2
    have HB3 : Hid (Below w.heap.size w w3) := HB2.out.trans (hb.mono HB2.out.size)
    clear hb
    go_wp2_with fail
    go_ret
    exact ⟨rfl, HB3.out⟩
  case neg =>
  have hbig' : ¬ (20 : Int) < (n : Int) := by omega
  have hv := V6.out rfl rfl rfl rfl hbig
  have HV := Lib.hid hv
  clear hv
  go_enter Tryz.func88, Tryz.ntmps88
  go_wp2_with fail
  refine (HO1.out _).mono ?_
  rintro e w1 ⟨rfl, rfl⟩
  go_wp2_with fail
  refine (HU.out _).mono ?_
  rintro e w1 ⟨rfl, hb⟩
  have hc := fun i => hb.cell (p := ⟨w.heap.size, i, none⟩) (by simp)
  have HB : Hid (Below w.heap.size w w1) := ((Below.refl _ _).alloc (Nat.le_refl _) _).trans (hb.mono (by simp))
  have hz1 : w.heap.size < w1.heap.size := by have := hb.size; simp at this; omega
  clear hb
  go_wp2_with fail
  refine (HNU.out _).mono ?_
  rintro e w2 ⟨rfl, hb⟩
  have hc2 := fun i => hb.cell (p := ⟨w.heap.size, i, none⟩) hz1
  have HB2 : Hid (Below w.heap.size w w2) := HB.out.trans (hb.mono HB.out.size)
  have hz2 : w.heap.size < w2.heap.size := by have := hb.size; omega
  clear hb
  go_wp2_with fail
  refine (HTT.out _).mono ?_
  rintro e w3 ⟨rfl, hb⟩
  have hc3 := fun i => hb.cell (p := ⟨w.heap.size, i, none⟩) hz2
  have HB3 : Hid (Below w.heap.size w w3) := HB2.out.trans (hb.mono HB2.out.size)
  clear hb
  go_wp2_with fail
  go_loopg [31] n (fun gg s31 wr => ∃ k : Nat, k + gg = n ∧ s31 = .int .i64 (k : Int) ∧ Hid (V = itErr ((M.map Prod.fst).drop k)) ∧ Hid (Below w.heap.size w wr))
  case atStart => exact ⟨0, by omega, rfl, HV, HB3⟩
  case round =>
    obtain ⟨k, hkg, rfl, hno, hbel⟩ := hrel
    by_cases hk : k < n
    · obtain ⟨x, hx⟩ : ∃ x, M[k]? = some x := ⟨_, List.getElem?_eq_getElem (by have := HN.out; omega)⟩
      obtain ⟨b, off, rfl, hbb, hc⟩ := H1.out.plain_at (by omega) vlV_len HN.out hx
      have HX : Hid (∀ W, Below wr.heap.size wr W → Calls _ _ #[AV x] W _) := fun W hW => HC.out x (List.mem_of_getElem? hx) W (hbel.out.trans (hW.mono hbel.out.size))
      have hst := hno.out.trans (itErr_at (k := k) (x := x.1) (by rw [List.getElem?_map, hx]; rfl))
      obtain ⟨e0, he0⟩ : ∃ q, (x.1.kind == 0) = q := ⟨_, rfl⟩
      obtain ⟨e7, he7⟩ : ∃ q, (x.1.kind == 7) = q := ⟨_, rfl⟩
      rw [he0, he7] at hst
      obtain ⟨⟨kx, ix, tx, sx, lx⟩, vx⟩ := x
      obtain ⟨Ax, nx, cx, rfl⟩ := S1.out _ (List.mem_of_getElem? hx)
      have g0 := (hbel.out.cell (p := ⟨b, off + k * 5, none⟩) (by show b < _; omega)).trans (hc 0 _ rfl)
      have g1 := (hbel.out.cell (p := ⟨b, off + k * 5 + 1, none⟩) (by show b < _; omega)).trans (hc 1 _ rfl)
      have g2 := (hbel.out.cell (p := ⟨b, off + k * 5 + 2, none⟩) (by show b < _; omega)).trans (hc 2 _ rfl)
      have g3 := (hbel.out.cell (p := ⟨b, off + k * 5 + 3, none⟩) (by show b < _; omega)).trans (hc 3 _ rfl)
      have g4 := (hbel.out.cell (p := ⟨b, off + k * 5 + 4, none⟩) (by show b < _; omega)).trans (hc 4 _ rfl)
      have j0 : (0 : Int) ≤ (k : Int) := by omega
      have j1 : (k : Int) < (n : Int) := by omega
      clear hx hc
      dsimp only [AV, Vl.kind, Vl.int_, Vl.to_, Vl.text] at HX g0 g1 g2 g3 he0 he7
      obtain ⟨vk, hvk⟩ : ∃ v, v = vErr (Vl.mk kx ix tx sx lx) := ⟨_, rfl⟩
      rw [← hvk] at hst
      simp only [← hvk] at HX
      clear hvk
      cases e0
      case true =>
        have HV := Lib.hid (hst.trans (if_pos rfl))
        clear hst
        go_wp2_with fail
        go_ret
        exact ⟨by rw [HV.out]; rfl, hbel.out.alloc hbel.out.size _⟩
      cases e7
      case true =>
        have HV := Lib.hid (hst.trans ((if_neg (by decide)).trans (if_pos rfl)))
        clear hst
        go_wp2_with fail
        go_ret
        exact ⟨by rw [HV.out]; rfl, hbel.out.alloc hbel.out.size _⟩
      have hst := hst.trans ((if_neg (by decide)).trans (if_neg (by decide)))
      have hal : Below wr.heap.size wr (wr.alloc (.cells #[.int .i64 kx, .int .i64 ix, .int .i64 tx, .string sx, .slice Ax nx cx] 24)) := (Below.refl _ _).alloc (Nat.le_refl _) _
      by_cases hz : vk = 0
      · have HV := Lib.hid (hst.trans (if_neg (fun e => e hz)))
        subst hz
        have HX' := Lib.hid (HX.out _ hal)
        have HBA := Lib.hid (hbel.out.trans (hal.mono hbel.out.size))
        clear hst hal
        go_wp2_with fail
        refine HX'.out.mono ?_
        rintro e w5 ⟨rfl, hb⟩
        have HB5 : Hid (Below w.heap.size w w5) := HBA.out.trans (hb.mono HBA.out.size)
        clear hb
        go_wp2_with fail
        go_roundg (n - (k + 1))
        case measure => omega
        case rel => exact ⟨k + 1, by omega, by go_num, HV, HB5⟩
      · have HV := Lib.hid (hst.trans (if_pos hz))
        have hz' : (vk != 0) = true := by simpa using hz
        have HX' := Lib.hid (HX.out _ hal)
        have HBA := Lib.hid (hbel.out.trans (hal.mono hbel.out.size))
        clear hst hal hz
        go_wp2_with fail
        refine HX'.out.mono ?_
        rintro e w5 ⟨rfl, hb⟩
        have HB5 : Hid (Below w.heap.size w w5) := HBA.out.trans (hb.mono HBA.out.size)
        clear hb
        go_wp2_with fail
        go_ret
        exact ⟨by rw [HV.out]; rfl, HB5.out⟩
    · obtain rfl : k = n := by omega
      have hz : V = 0 := hno.out.trans (by rw [List.drop_of_length_le (by rw [List.length_map, ← HN.out]; exact Nat.le_refl _), itErr])
      have HZ := Lib.hid hz
      clear hz
      go_wp2_with fail
      go_ret
      exact ⟨by rw [HZ.out]; rfl, hbel.out⟩
/-- prop.CheckValue -/
theorem checkValue_any : ∀ (d : Nat) (x : Vl × Value) (w : World) (B : Nat), B ≤ w.heap.size → RVd w B d x.2 x.1.items →
    Calls Tryz.prog 88 #[AV x] w fun e w' => e = .returned (.int .i64 (vErr x.1)) ∧ Below w.heap.size w w'
  | 0, x, w, B, hB, hx => by
    obtain ⟨A, n, c, M, h1, h2, h3, h4, h5, h6⟩ := hx.deeper
    have e : M = [] := by rw [← List.map_eq_nil_iff, h1]; exact hx.1
    exact checkVal_walk x M A n c w B hB h2 h1 h5 h3 (fun z hz => (RV.slice ⟨_, h6 z hz⟩)) (fun z hz => by rw [e] at hz; cases hz)
  | d + 1, x, w, B, hB, ⟨A, n, c, M, h1, h2, h3, h4, h5, h6⟩ =>
    checkVal_walk x M A n c w B hB h2 h1 h5 h3 (fun z hz => (RV.slice ⟨_, h6 z hz⟩)) (fun z hz W hW => checkValue_any d z W B (Nat.le_trans hB hW.size) ((h6 z hz).below (hW.mono hB)))
end Go.Proofs.YtnlonleljbbgoaaGreatDoor
