/-
  DERIVED. A number in a row: the walks of slices.Index and Contains at ints, the reference's hasNumber and without. Conditions: sizes.
  The walks of tree.height and the reference's height. Conditions: sizes; a base without error.
  The walk of tree.detach on a base that is turned in place. Conditions: sizes; ids that rise.
  By an AI agent.
-/
import Derived.Test.YtmkicfjcgbfaaaaGreatTe21
import Derived.Test.YtmkicfjcgbfaaaaGreatTe11
import Derived.Deep.LoopGhost
import Derived.Test.YtmkicfjcgbfaaaaGreatTe06
import Derived.Test.YtmkicfjcgbfaaaaGreatTe04
import Derived.Sort.OwnSortedInts
namespace Go.Proofs.YtmkicfjcgbfaaaaGreat
open Go.RowKit

/-- the place of the first such number, from a place on -/
def ixFrom : List Int → Int → Nat → Int
  | [], _, _ => -1
  | a :: l, x, k => if x = a then (k : Int) else ixFrom l x (k + 1)
def ixOf (l : List Int) (x : Int) : Int := ixFrom l x 0
theorem ixFrom_at {l : List Int} {k : Nat} {a : Int} (h : l[k]? = some a) (x : Int) : ixFrom (l.drop k) x k = if x = a then (k : Int) else ixFrom (l.drop (k + 1)) x (k + 1) := by
  obtain ⟨hk, e⟩ := List.getElem?_eq_some_iff.1 h
  rw [List.drop_eq_getElem_cons hk, ixFrom, e]
theorem ixFrom_spec : ∀ (l : List Int) (x : Int) (k : Nat), (ixFrom l x k = -1 ∧ x ∉ l) ∨ ∃ i : Nat, ixFrom l x k = ((k + i : Nat) : Int) ∧ l[i]? = some x ∧ x ∉ l.take i
  | [], x, k => .inl ⟨rfl, by simp⟩
  | a :: l, x, k => by
    rw [ixFrom]
    by_cases h : x = a
    · rw [if_pos h]; exact .inr ⟨0, rfl, by rw [h]; rfl, by simp⟩
    · rw [if_neg h]
      rcases ixFrom_spec l x (k + 1) with ⟨h1, h2⟩ | ⟨i, h1, h2, h3⟩
      · exact .inl ⟨h1, by rw [List.mem_cons]; exact fun e => e.elim h h2⟩
      · exact .inr ⟨i + 1, by rw [h1]; congr 1; omega, by simpa using h2, by rw [List.take_succ_cons, List.mem_cons]; exact fun e => e.elim h h3⟩
theorem ixOf_spec (l : List Int) (x : Int) : (ixOf l x = -1 ∧ x ∉ l) ∨ ∃ i : Nat, ixOf l x = (i : Int) ∧ l[i]? = some x ∧ x ∉ l.take i := by
  rcases ixFrom_spec l x 0 with h | ⟨i, h1, h2⟩
  · exact .inl h
  · exact .inr ⟨i, by rw [ixOf, h1]; congr 1; omega, h2⟩
theorem ixOf_has (l : List Int) (x : Int) : decide (0 ≤ ixOf l x) = decide (x ∈ l) := by
  rcases ixOf_spec l x with ⟨h1, h2⟩ | ⟨i, h1, h2, _⟩
  · rw [decide_eq_false (by omega), decide_eq_false h2]
  · rw [decide_eq_true (by omega), decide_eq_true (List.mem_of_getElem? h2)]

set_option maxHeartbeats 1000000 in
/-- slices.Index at ints -/
theorem indexI_any (l : List Int) (A : Option Addr) (n c : Nat) (x : Int) (w : World) (B : Nat) (h : RIn w B (.slice A n c) l) :
    Calls Tryz.prog 16 #[.slice A n c, .int .i64 x] w fun e w' => e = .returned (.int .i64 (ixOf l x)) ∧ w' = w := by
  obtain ⟨V, hV⟩ : ∃ V, V = ixOf l x := ⟨_, rfl⟩
  rw [← hV]
  have HV : Hid (V = ixFrom (l.drop 0) x 0) := hV
  have HN := Lib.hid h.len
  have H := Lib.hid h
  clear h hV
  go_enter Tryz.func16, Tryz.ntmps16
  go_wp2_with fail
  go_loopg [8] n (fun gg s8 wr => ∃ k : Nat, k + gg = n ∧ s8 = .int .i64 (k : Int) ∧ Hid (V = ixFrom (l.drop k) x k) ∧ Hid (wr = w))
  case atStart => exact ⟨0, by omega, rfl, HV, rfl⟩
  case round =>
    obtain ⟨k, hkg, rfl, hno, hw⟩ := hrel
    obtain rfl : w = wr := hw.out.symm
    clear hw
    have hbg : n ≤ c ∧ n * 8 ≤ 140737488351232 := HN.out.2
    by_cases hk : k < n
    · obtain ⟨a, ha⟩ : ∃ a, l[k]? = some a := ⟨_, List.getElem?_eq_getElem (by have := HN.out.1; omega)⟩
      obtain ⟨b, off, rfl, hbb, g0⟩ := H.out.at_ ha
      have hst := hno.out.trans (ixFrom_at ha x)
      have j0 : (0 : Int) ≤ (k : Int) := by omega
      have j1 : (k : Int) < (n : Int) := by omega
      clear ha
      by_cases he : x = a
      · have HL := Lib.hid (hst.trans (if_pos he))
        have he' : (x == a) = true := by simpa using he
        clear hst he
        go_wp2_with fail
        go_ret
        exact ⟨by rw [HL.out]; rfl, rfl⟩
      · have HL := Lib.hid (hst.trans (if_neg he))
        have he' : (x == a) = false := by simpa using he
        clear hst he
        go_wp2_with fail
        go_roundg (n - (k + 1))
        case measure => omega
        case rel => exact ⟨k + 1, by omega, by go_num, HL, rfl⟩
    · obtain rfl : k = n := by omega
      have HZ : Hid (V = -1) := hno.out.trans (by rw [List.drop_of_length_le (by rw [← HN.out.1]; exact Nat.le_refl _)]; rfl)
      go_wp2_with fail
      go_ret
      exact ⟨by rw [HZ.out]; rfl, rfl⟩
set_option maxHeartbeats 400000 in
/-- slices.Contains at ints -/
theorem containsI_any (l : List Int) (A : Option Addr) (n c : Nat) (x : Int) (w : World) (B : Nat) (h : RIn w B (.slice A n c) l) :
    Calls Tryz.prog 14 #[.slice A n c, .int .i64 x] w fun e w' => e = .returned (.bool (decide (x ∈ l))) ∧ w' = w := by
  have HX := Lib.hid (indexI_any l A n c x w B h)
  rw [← ixOf_has]
  obtain ⟨V, hV⟩ : ∃ V, V = ixOf l x := ⟨_, rfl⟩
  rw [← hV] at HX ⊢
  clear h hV
  go_enter Tryz.func14, Tryz.ntmps14
  go_wp2_with fail
  refine HX.out.mono ?_
  rintro e w1 ⟨rfl, hw⟩
  rw [hw]
  clear hw
  go_wp2_with fail
  go_ret
  exact ⟨rfl, rfl⟩
set_option maxHeartbeats 1000000 in
/-- the reference's hasNumber -/
theorem hasNumber_any (l : List Int) (A : Option Addr) (n c : Nat) (x : Int) (w : World) (B : Nat) (h : RIn w B (.slice A n c) l) :
    Calls Tryz.prog 77 #[.slice A n c, .int .i64 x] w fun e w' => e = .returned (.bool (decide (x ∈ l))) ∧ w' = w := by
  rw [← ixOf_has]
  obtain ⟨V, hV⟩ : ∃ V, V = ixOf l x := ⟨_, rfl⟩
  rw [← hV]
  have HV : Hid (V = ixFrom (l.drop 0) x 0) := hV
  have HN := Lib.hid h.len
  have H := Lib.hid h
  clear h hV
  go_enter Tryz.func77, Tryz.ntmps77
  go_wp2_with fail
  go_loopg [9] n (fun gg s9 wr => ∃ k : Nat, k + gg = n ∧ s9 = .int .i64 (k : Int) ∧ Hid (V = ixFrom (l.drop k) x k) ∧ Hid (wr = w))
  case atStart => exact ⟨0, by omega, rfl, HV, rfl⟩
  case round =>
    obtain ⟨k, hkg, rfl, hno, hw⟩ := hrel
    obtain rfl : w = wr := hw.out.symm
    clear hw
    have hbg : n ≤ c ∧ n * 8 ≤ 140737488351232 := HN.out.2
    by_cases hk : k < n
    · obtain ⟨a, ha⟩ : ∃ a, l[k]? = some a := ⟨_, List.getElem?_eq_getElem (by have := HN.out.1; omega)⟩
      obtain ⟨b, off, rfl, hbb, g0⟩ := H.out.at_ ha
      have hst := hno.out.trans (ixFrom_at ha x)
      have j0 : (0 : Int) ≤ (k : Int) := by omega
      have j1 : (k : Int) < (n : Int) := by omega
      clear ha
      by_cases he : x = a
      · have HL : Hid (decide (0 ≤ V) = true) := decide_eq_true (by have := hst.trans (if_pos he); omega)
        have he' : (a == x) = true := by simpa using he.symm
        clear hst he
        go_wp2_with fail
        go_ret
        exact ⟨by rw [HL.out]; rfl, rfl⟩
      · have HL := Lib.hid (hst.trans (if_neg he))
        have he' : (a == x) = false := by simpa using fun e => he e.symm
        clear hst he
        go_wp2_with fail
        go_roundg (n - (k + 1))
        case measure => omega
        case rel => exact ⟨k + 1, by omega, by go_num, HL, rfl⟩
    · obtain rfl : k = n := by omega
      have HZ : Hid (V = -1) := hno.out.trans (by rw [List.drop_of_length_le (by rw [← HN.out.1]; exact Nat.le_refl _)]; rfl)
      have HL : Hid (decide (0 ≤ V) = false) := decide_eq_false (by have := HZ.out; omega)
      go_wp2_with fail
      go_ret
      exact ⟨by rw [HL.out]; rfl, rfl⟩
theorem less_snoc (l : List Int) (a x : Int) : lessK (l ++ [a]) x = lessK l x ++ if a = x then [] else [a] := by
  unfold lessK
  rw [List.filter_append, List.filter_cons, List.filter_nil]
  by_cases h : a = x
  · rw [if_neg (by simpa using h), if_pos h]
  · rw [if_pos (by simpa using h), if_neg h]
set_option maxHeartbeats 2000000 in
/-- the reference's without -/
theorem without_any (l : List Int) (A : Option Addr) (n c : Nat) (x : Int) (w : World) (B : Nat) (hB : B ≤ w.heap.size) (h : RIn w B (.slice A n c) l) (hs : n ≤ 100000) :
    Calls Tryz.prog 76 #[.slice A n c, .int .i64 x] w (IntsR (lessK l x) w) := by
  obtain ⟨i0, hi, hq0, hq1, hq2⟩ := info_parts int_info
  have HN := Lib.hid h.len
  have H64 : Hid (∀ y ∈ l, I64 y) := fun y hy => h.i64 hy
  have H := Lib.hid h
  clear h
  go_enter Tryz.func76, Tryz.ntmps76
  go_wp2_with fail
  go_loopg [5, 10] n (fun gg s5 s10 wr => ∃ (k t : Nat) (v : Value), k + gg = n ∧ v = s5 ∧ s10 = .int .i64 (k : Int) ∧ Hid (t = (lessK (l.take k) x).length) ∧ Hid (wr.ownsRow w.heap.size 3 1 v t ((lessK (l.take k) x).map (Value.int .i64))) ∧ Hid (Below w.heap.size w wr))
  case atStart => exact ⟨0, 0, _, by omega, rfl, rfl, rfl, World.ownsRow_nil _ _ _ _, Below.refl _ _⟩
  case round =>
    obtain ⟨k, t, v, hkg, rfl, rfl, ht, hown, hbel⟩ := hrel
    obtain ⟨W1, rfl⟩ : ∃ W1, W1 = wr := ⟨_, rfl⟩
    have hzr : w.heap.size ≤ W1.heap.size := hbel.out.size
    have htk : t ≤ k := by
      have h1 := less_len (l.take k) x
      have h2 : (l.take k).length ≤ k := List.length_take_le _ _
      have := ht.out
      omega
    by_cases hk : k < n
    · obtain ⟨a, ha⟩ : ∃ a, l[k]? = some a := ⟨_, List.getElem?_eq_getElem (by have := HN.out.1; omega)⟩
      have HT : Hid (lessK (l.take (k + 1)) x = lessK (l.take k) x ++ if a = x then [] else [a]) := by
        show _ = _
        rw [List.take_add_one, ha]
        exact less_snoc _ _ _
      obtain ⟨b, off, rfl, hbb, g0⟩ := H.out.at_ ha
      have g0 := (hbel.out.cell (p := ⟨b, off + k, none⟩) (by show b < _; omega)).trans g0
      have j0 : (0 : Int) ≤ (k : Int) := by omega
      have j1 : (k : Int) < (n : Int) := by omega
      clear ha
      by_cases he : a = x
      · have he' : (a != x) = false := by simpa using he
        have HL : Hid (lessK (l.take (k + 1)) x = lessK (l.take k) x) := HT.out.trans (by rw [if_pos he, List.append_nil])
        clear he
        go_wp2_with fail
        go_roundg (n - (k + 1))
        case measure => omega
        case rel => exact ⟨k + 1, t, v, by omega, rfl, by go_num, by rw [HL.out]; exact ht, by rw [HL.out]; exact hown, hbel⟩
      · have he' : (a != x) = true := by simpa using he
        have HL : Hid (lessK (l.take (k + 1)) x = lessK (l.take k) x ++ [a]) := HT.out.trans (by rw [if_neg he])
        have hb1 : t + 1 ≤ maxLen := by unfold maxLen; omega
        have hb2 : (t + 1) * 8 ≤ 140737488355328 := by omega
        have HR1 : Hid (Reads (W1.alloc (.cells #[.int .i64 a] 3)) (W1.heap.size + 1) 1 (some ⟨W1.heap.size, 0, none⟩) 1 [.int .i64 a]) := Reads.blk (Blk.new _ _ _) rfl
        have hbase : w.heap.size ≤ (W1.alloc (.cells #[.int .i64 a] 3)).heap.size := by simp; omega
        have hone : ∀ u ∈ [Value.int .i64 a], u.oneCell' = true := ints_one [a]
        have HOW := Lib.hid (hown.out.alloc (.cells #[.int .i64 a] 3))
        have HBA := Lib.hid (hbel.out.alloc hzr (.cells #[.int .i64 a] 3))
        have HVB : Hid (∀ g, v.ownBlock = some g → w.heap.size ≤ g) := fun g hg => (own_block_lt hown.out g hg).1
        clear he
        go_wp2_with (at_builtin; refine wpList_append_any _ rfl _ _ 34 rfl w.heap.size 3 i0 (.int .i64 0) 1 8 Tryz.underlying34 hi hq0 hq1 hq2 rfl (by decide) v t _ rfl HOW.out _ _ 1 1 _ rfl HR1.out hone hb1 hb2 hbase ?_)
        intro v2 w2 hown2 hg2 hat2
        have HO2 : Hid (w2.ownsRow w.heap.size 3 1 v2 (t + 1) ((lessK (l.take (k + 1)) x).map (Value.int .i64))) := by rw [HL.out, List.map_append]; exact hown2
        have HB2 : Hid (Below w.heap.size w w2) := HBA.out.grown hg2 (Nat.le_trans hzr (by simp)) (fun g hg => HVB.out g hg)
        have HT2 : Hid (t + 1 = (lessK (l.take (k + 1)) x).length) := by show _ = _; rw [HL.out, List.length_append, ← ht.out]; rfl
        clear hown2 hg2 hat2
        go_wp2_with fail
        go_roundg (n - (k + 1))
        case measure => omega
        case rel => exact ⟨k + 1, t + 1, v2, by omega, rfl, by go_num, HT2, HO2, HB2⟩
    · obtain rfl : n = k := by omega
      have HF : Hid (IntsR (lessK l x) w (.returned v) W1) := by
        show IntsR _ _ _ _
        have e : l.take n = l := List.take_of_length_le (by rw [← HN.out.1]; exact Nat.le_refl _)
        have h1 := hown.out
        have h2 := ht.out
        rw [e] at h1 h2
        exact IntsR.of_own h1 h2 (by omega) (fun y hy => H64.out y ((less_mem _ _ _).1 hy).1) hbel.out
      go_wp2_with fail
      go_ret
      exact HF.out
end Go.Proofs.YtmkicfjcgbfaaaaGreat
namespace Go.Proofs.YtmkicfjcgbfaaaaGreat
open Go.RowKit

theorem foldr_snoc (L : List Nat) (x : Nat) : (L ++ [x]).foldr max 0 = max (L.foldr max 0) x := by
  induction L with
  | nil => simp
  | cons a L ih => rw [List.cons_append, List.foldr_cons, List.foldr_cons, ih, Nat.max_assoc]
theorem foldr_le {L : List Nat} {m : Nat} (h : ∀ x ∈ L, x ≤ m) : L.foldr max 0 ≤ m := by
  induction L with
  | nil => exact Nat.zero_le _
  | cons a L ih =>
    rw [List.foldr_cons]
    exact Nat.max_le.2 ⟨h a (by simp), ih fun x hx => h x (by simp [hx])⟩
theorem hgt_le (l : List Bl) : ∀ (m : Nat) (k : Int), hgt l m k ≤ m
  | 0, _ => Nat.le_refl _
  | m + 1, k => by
    rw [hgt]
    split
    · refine Nat.succ_le_succ (foldr_le fun x hx => ?_)
      obtain ⟨z, _, rfl⟩ := List.mem_map.1 hx
      exact hgt_le l m z
    · omega
theorem hgt_stab {l : List Bl} {f : Int → Option Int} (G : Good l f) : ∀ (m d : Nat) (id : Int), Dp l id d → 41 ≤ d + m → ∀ m', m ≤ m' → hgt l m' id = hgt l m id
  | 0, d, id, hd, hm, m', _ => absurd (G.low hd) (by omega)
  | m + 1, d, id, hd, hm, m', hmm => by
    obtain ⟨k, rfl⟩ : ∃ k, m' = k + 1 := ⟨m' - 1, by omega⟩
    obtain ⟨p, b, h1, h2, h3⟩ := hd.blk G.kids
    rw [hgt_at h1 h2, hgt_at h1 h2]
    have : b.kids.map (hgt l k) = b.kids.map (hgt l m) := List.map_congr_left fun x hx => hgt_stab G m (d + 1) x (.step b d x (h3 ▸ hd) (List.mem_of_getElem? h2) hx) (by omega) k (by omega)
    rw [this]

set_option maxHeartbeats 4000000 in
theorem height_walk (l : List Bl) (K : Kids l) (A : Option Addr) (n c : Nat) (id : Int) (d m : Nat) (hd : Dp l id d) (hm : m ≤ 41) (w : World) (B : Nat) (hB : B ≤ w.heap.size) (h : RB w B (.slice A n c) l)
    (IH : ∀ (k : Int) (W : World), Dp l k (d + 1) → Below w.heap.size w W → Calls Tryz.prog 155 #[.slice A n c, .int .i64 k] W fun e w' => e = .returned (.int .i64 (hgt l m k : Int)) ∧ Below W.heap.size W w') :
    Calls Tryz.prog 155 #[.slice A n c, .int .i64 id] w fun e w' => e = .returned (.int .i64 (hgt l (m + 1) id : Int)) ∧ Below w.heap.size w w' := by
  obtain ⟨p, bx, hp, hlp, hbi⟩ := hd.blk K
  have hbx := List.mem_of_getElem? hlp
  have HO : Hid (hgt l (m + 1) id = (bx.kids.map (hgt l m)).foldr max 0 + 1) := hgt_at hp hlp m
  have HIX := index_any l A n c id w B hB h K.rise K.ids (by rw [← hbi]; exact (by have := K.ids bx hbx; unfold I64; omega))
  rw [hp] at HIX
  have HIX := Lib.hid HIX
  have HN := Lib.hid h.len
  have hpn : p < n := by have := (List.getElem?_eq_some_iff.1 hlp).1; have := h.len.1; omega
  obtain ⟨b, off, Ak, nk, ck, Ap, np, cp, rfl, hbb, g0, g1, g2, g3, g4, hK, _⟩ := h.at_ hlp
  have HK := Lib.hid hK
  have HKL := Lib.hid hK.len
  have HKD : Hid (∀ k ∈ bx.kids, Dp l k (d + 1)) := fun k hk => .step bx d k (hbi ▸ hd) hbx hk
  have HI := Lib.hid IH
  have y0 : (0 : Int) ≤ (p : Int) := by omega
  have y1 : (p : Int) < (n : Int) := by omega
  clear h hd hp hlp hbi hbx hK IH g0 g1 g3 g4
  go_enter Tryz.func155, Tryz.ntmps155
  go_wp2_with fail
  refine HIX.out.mono ?_
  rintro e w1 ⟨rfl, hb1⟩
  have HB1 := Lib.hid hb1
  have g2 := (hb1.cell (p := ⟨b, off + p * 5 + 2, none⟩) (by show b < _; omega)).trans g2
  clear hb1
  go_wp2_with fail
  go_loopg [5, 16] nk (fun gg s5 s16 wr => ∃ (j t : Nat), j + gg = nk ∧ t ≤ 41 ∧ s5 = .int .i64 (t : Int) ∧ s16 = .int .i64 (j : Int) ∧ Hid (t = ((bx.kids.take j).map (hgt l m)).foldr max 0) ∧ Hid (Below w.heap.size w wr))
  case atStart => exact ⟨0, 0, by omega, by omega, rfl, rfl, rfl, HB1⟩
  case round =>
    obtain ⟨j, t, hjg, ht41, rfl, rfl, ht, hbel⟩ := hrel
    obtain ⟨W1, rfl⟩ : ∃ W1, W1 = wr := ⟨_, rfl⟩
    have hbk : nk ≤ ck ∧ nk * 8 ≤ 140737488351232 := HKL.out.2
    by_cases hj : j < nk
    case neg =>
      obtain rfl : nk = j := by omega
      have HF : Hid ((hgt l (m + 1) id : Int) = (t : Int) + 1) := by
        show _ = _
        have e : bx.kids.take nk = bx.kids := List.take_of_length_le (by rw [← HKL.out.1]; exact Nat.le_refl _)
        have h1 := ht.out
        rw [e] at h1
        rw [HO.out, h1]; omega
      go_wp2_with fail
      go_ret
      exact ⟨by rw [HF.out]; rfl, hbel.out⟩
    obtain ⟨k, hkk⟩ : ∃ k, bx.kids[j]? = some k := ⟨_, List.getElem?_eq_getElem (by have := HKL.out.1; omega)⟩
    obtain ⟨bk, ok, rfl, hbk2, q0⟩ := HK.out.at_ hkk
    have q0 := (hbel.out.cell (p := ⟨bk, ok + j, none⟩) (by show bk < _; omega)).trans q0
    have z0 : (0 : Int) ≤ (j : Int) := by omega
    have z1 : (j : Int) < (nk : Int) := by omega
    obtain ⟨hk, hhk⟩ : ∃ hk, hk = hgt l m k := ⟨_, rfl⟩
    have hkm : hk ≤ 41 := by have := hgt_le l m k; omega
    have HT : Hid (max t hk = ((bx.kids.take (j + 1)).map (hgt l m)).foldr max 0) := by
      show _ = _
      obtain ⟨hk', e⟩ := List.getElem?_eq_some_iff.1 hkk
      rw [List.take_succ_eq_append_getElem hk', e, List.map_append, List.map_cons, List.map_nil, foldr_snoc, ← ht.out, hhk]
    have HX := HI.out k W1 (HKD.out k (List.mem_of_getElem? hkk)) hbel.out
    rw [← hhk] at HX
    have HX := Lib.hid HX
    have hmx : max (t : Int) ((hk : Int)) = ((max t hk : Nat) : Int) := by omega
    have ht2 : max t hk ≤ 41 := by omega
    obtain ⟨mx, hmx2⟩ : ∃ mx, mx = max t hk := ⟨_, rfl⟩
    rw [← hmx2] at HT hmx ht2
    skip
    skip
    clear hkk hhk hmx2
    go_wp2_with fail
    refine HX.out.mono ?_
    rintro e w2 ⟨rfl, hb⟩
    have HB2 : Hid (Below w.heap.size w w2) := hbel.out.trans (hb.mono hbel.out.size)
    clear hb
    go_wp2_with fail
    go_roundg (nk - (j + 1))
    case measure => omega
    case rel => exact ⟨j + 1, mx, by omega, ht2, rfl, by go_num, HT, HB2⟩
theorem height_fuel (l : List Bl) (f : Int → Option Int) (G : Good l f) (A : Option Addr) (n c : Nat) (B : Nat) : ∀ (m d : Nat) (id : Int) (w : World), Dp l id d → d + m = 41 → B ≤ w.heap.size → RB w B (.slice A n c) l →
    Calls Tryz.prog 155 #[.slice A n c, .int .i64 id] w fun e w' => e = .returned (.int .i64 (hgt l m id : Int)) ∧ Below w.heap.size w w'
  | 0, d, id, w, hd, hm, _, _ => absurd (G.low hd) (by omega)
  | m + 1, d, id, w, hd, hm, hB, h => height_walk l G.kids A n c id d m hd (by omega) w B hB h fun k W hk hW => height_fuel l f G A n c B m (d + 1) k W hk (by omega) (Nat.le_trans hB hW.size) (h.below (hW.mono hB))
theorem height_any (l : List Bl) (f : Int → Option Int) (G : Good l f) (A : Option Addr) (n c : Nat) (B d : Nat) (id : Int) (w : World) (hd : Dp l id d) (hB : B ≤ w.heap.size) (h : RB w B (.slice A n c) l) :
    Calls Tryz.prog 155 #[.slice A n c, .int .i64 id] w fun e w' => e = .returned (.int .i64 (hgt l 41 id : Int)) ∧ Below w.heap.size w w' := by
  have h40 := G.low hd
  have := height_fuel l f G A n c B (41 - d) d id w hd (by omega) hB h
  rw [← hgt_stab G (41 - d) d id hd (by omega) 41 (by omega)] at this
  exact this

set_option maxHeartbeats 4000000 in
theorem heightR_walk (l : List Bl) (K : Kids l) (A : Option Addr) (n c : Nat) (id : Int) (d m : Nat) (hd : Dp l id d) (hm : m ≤ 41) (w : World) (B : Nat) (hB : B ≤ w.heap.size) (h : RB w B (.slice A n c) l)
    (IH : ∀ (k : Int) (W : World), Dp l k (d + 1) → Below w.heap.size w W → Calls Tryz.prog 78 #[.slice A n c, .int .i64 k] W fun e w' => e = .returned (.int .i64 ((hgt l m k : Int) - 1)) ∧ Below W.heap.size W w') :
    Calls Tryz.prog 78 #[.slice A n c, .int .i64 id] w fun e w' => e = .returned (.int .i64 ((hgt l (m + 1) id : Int) - 1)) ∧ Below w.heap.size w w' := by
  obtain ⟨p, bx, hp, hlp, hbi⟩ := hd.blk K
  have hbx := List.mem_of_getElem? hlp
  have HO : Hid (hgt l (m + 1) id = (bx.kids.map (hgt l m)).foldr max 0 + 1) := hgt_at hp hlp m
  have HIX := at_any l A n c id w B hB h
  rw [hp] at HIX
  have HIX := Lib.hid HIX
  have HN := Lib.hid h.len
  have hpn : p < n := by have := (List.getElem?_eq_some_iff.1 hlp).1; have := h.len.1; omega
  obtain ⟨b, off, Ak, nk, ck, Ap, np, cp, rfl, hbb, g0, g1, g2, g3, g4, hK, _⟩ := h.at_ hlp
  have HK := Lib.hid hK
  have HKL := Lib.hid hK.len
  have HKD : Hid (∀ k ∈ bx.kids, Dp l k (d + 1)) := fun k hk => .step bx d k (hbi ▸ hd) hbx hk
  have HI := Lib.hid IH
  have y0 : (0 : Int) ≤ (p : Int) := by omega
  have y1 : (p : Int) < (n : Int) := by omega
  clear h hd hp hlp hbi hbx hK IH g0 g1 g3 g4
  go_enter Tryz.func78, Tryz.ntmps78
  go_wp2_with fail
  refine HIX.out.mono ?_
  rintro e w1 ⟨rfl, hb1⟩
  have HB1 := Lib.hid hb1
  have g2 := (hb1.cell (p := ⟨b, off + p * 5 + 2, none⟩) (by show b < _; omega)).trans g2
  clear hb1
  go_wp2_with fail
  go_loopg [5, 16] nk (fun gg s5 s16 wr => ∃ (j t : Nat), j + gg = nk ∧ t ≤ 41 ∧ s5 = .int .i64 (t : Int) ∧ s16 = .int .i64 (j : Int) ∧ Hid (t = ((bx.kids.take j).map (hgt l m)).foldr max 0) ∧ Hid (Below w.heap.size w wr))
  case atStart => exact ⟨0, 0, by omega, by omega, rfl, rfl, rfl, HB1⟩
  case round =>
    obtain ⟨j, t, hjg, ht41, rfl, rfl, ht, hbel⟩ := hrel
    obtain ⟨W1, rfl⟩ : ∃ W1, W1 = wr := ⟨_, rfl⟩
    have hbk : nk ≤ ck ∧ nk * 8 ≤ 140737488351232 := HKL.out.2
    by_cases hj : j < nk
    case neg =>
      obtain rfl : nk = j := by omega
      have HF : Hid ((hgt l (m + 1) id : Int) = (t : Int) + 1) := by
        show _ = _
        have e : bx.kids.take nk = bx.kids := List.take_of_length_le (by rw [← HKL.out.1]; exact Nat.le_refl _)
        have h1 := ht.out
        rw [e] at h1
        rw [HO.out, h1]; omega
      go_wp2_with fail
      go_ret
      exact ⟨by rw [HF.out]; exact congrArg (fun x => Ending.returned (Value.int .i64 x)) (by omega), hbel.out⟩
    obtain ⟨k, hkk⟩ : ∃ k, bx.kids[j]? = some k := ⟨_, List.getElem?_eq_getElem (by have := HKL.out.1; omega)⟩
    obtain ⟨bk, ok, rfl, hbk2, q0⟩ := HK.out.at_ hkk
    have q0 := (hbel.out.cell (p := ⟨bk, ok + j, none⟩) (by show bk < _; omega)).trans q0
    have z0 : (0 : Int) ≤ (j : Int) := by omega
    have z1 : (j : Int) < (nk : Int) := by omega
    obtain ⟨hk, hhk⟩ : ∃ hk, hk = hgt l m k := ⟨_, rfl⟩
    have hkm : hk ≤ 41 := by have := hgt_le l m k; omega
    have HT : Hid (max t hk = ((bx.kids.take (j + 1)).map (hgt l m)).foldr max 0) := by
      show _ = _
      obtain ⟨hk', e⟩ := List.getElem?_eq_some_iff.1 hkk
      rw [List.take_succ_eq_append_getElem hk', e, List.map_append, List.map_cons, List.map_nil, foldr_snoc, ← ht.out, hhk]
    have HX := HI.out k W1 (HKD.out k (List.mem_of_getElem? hkk)) hbel.out
    rw [← hhk] at HX
    have HX := Lib.hid HX
    have hmx : max (t : Int) ((hk : Int) - 1 + 1) = ((max t hk : Nat) : Int) := by omega
    have ht2 : max t hk ≤ 41 := by omega
    obtain ⟨mx, hmx2⟩ : ∃ mx, mx = max t hk := ⟨_, rfl⟩
    rw [← hmx2] at HT hmx ht2
    have hsub : (hk : Int) - 1 + 1 = (hk : Int) := by omega
    rw [hsub] at hmx
    clear hkk hhk hmx2
    go_wp2_with fail
    refine HX.out.mono ?_
    rintro e w2 ⟨rfl, hb⟩
    have HB2 : Hid (Below w.heap.size w w2) := hbel.out.trans (hb.mono hbel.out.size)
    clear hb
    go_wp2_with fail
    go_roundg (nk - (j + 1))
    case measure => omega
    case rel => exact ⟨j + 1, mx, by omega, ht2, rfl, by go_num, HT, HB2⟩
theorem heightR_fuel (l : List Bl) (f : Int → Option Int) (G : Good l f) (A : Option Addr) (n c : Nat) (B : Nat) : ∀ (m d : Nat) (id : Int) (w : World), Dp l id d → d + m = 41 → B ≤ w.heap.size → RB w B (.slice A n c) l →
    Calls Tryz.prog 78 #[.slice A n c, .int .i64 id] w fun e w' => e = .returned (.int .i64 ((hgt l m id : Int) - 1)) ∧ Below w.heap.size w w'
  | 0, d, id, w, hd, hm, _, _ => absurd (G.low hd) (by omega)
  | m + 1, d, id, w, hd, hm, hB, h => heightR_walk l G.kids A n c id d m hd (by omega) w B hB h fun k W hk hW => heightR_fuel l f G A n c B m (d + 1) k W hk (by omega) (Nat.le_trans hB hW.size) (h.below (hW.mono hB))
theorem heightR_any (l : List Bl) (f : Int → Option Int) (G : Good l f) (A : Option Addr) (n c : Nat) (B d : Nat) (id : Int) (w : World) (hd : Dp l id d) (hB : B ≤ w.heap.size) (h : RB w B (.slice A n c) l) :
    Calls Tryz.prog 78 #[.slice A n c, .int .i64 id] w fun e w' => e = .returned (.int .i64 ((hgt l 41 id : Int) - 1)) ∧ Below w.heap.size w w' := by
  have h40 := G.low hd
  have := heightR_fuel l f G A n c B (41 - d) d id w hd (by omega) hB h
  rw [← hgt_stab G (41 - d) d id hd (by omega) 41 (by omega)] at this
  exact this
end Go.Proofs.YtmkicfjcgbfaaaaGreat
namespace Go.Proofs.YtmkicfjcgbfaaaaGreat
open Go.RowKit Go.Sort Go.Lib

theorem detach1_any (k id : Int) (B : Nat) (W : World) (hc : W.cell? ⟨B, 0, none⟩ = some (.int .i64 id)) :
    FnGives Tryz.prog 160 #[.pointer (some ⟨B, 0, none⟩)] #[.int .i64 k] (.bool (k == id)) W := by
  show Calls Tryz.prog 160 #[.int .i64 k, .pointer (some ⟨B, 0, none⟩)] W _
  go_enter Tryz.func160, Tryz.ntmps160
  go_wp2
  go_ret
  exact ⟨rfl, 0, rfl⟩

/-- slices.DeleteFunc at ints with detach's own closure -/
theorem delI_own (g cap : Nat) (cur : Array Value) (l : List Int) (id : Int) (B base : Nat) (w : World) (hb : w.heap[g]? = some (.cells cur 3 (0, 0))) (hl : l.length ≤ cap) (hm : cap ≤ maxLen) (hs : cur.size = cap * 1) (ht : cur.toList.take (l.length * 1) = l.map (.int .i64)) (hB : B < w.heap.size) (hne : B ≠ g) (hcell : w.cell? ⟨B, 0, none⟩ = some (.int .i64 id)) (hbase : base ≤ g) :
    Calls Tryz.prog 159 #[.slice (some ⟨g, 0, none⟩) l.length cap, .func (.func 160) #[] #[.pointer (some ⟨B, 0, none⟩)]] w fun e w' =>
      e = .returned (.slice (some ⟨g, 0, none⟩) (lessK l id).length cap) ∧ w'.ownsRow base 3 1 (.slice (some ⟨g, 0, none⟩) (lessK l id).length cap) (lessK l id).length ((lessK l id).map (.int .i64)) ∧ w.grownBy w' (some g) := by
  have eg : ∀ args w, (callFunc 160 args).run Tryz.prog w = .ok (.enter 160 args) w := enters_of Tryz.func160 (by kernel_rfl) rfl
  rw [Nat.mul_one] at ht
  have hH := holds_of_blockI hb ht
  have hcon := AnyE.slices_DeleteFunc Tryz.delI (Value.int .i64) (fun _ => rfl) (fun x => x == id) 160 #[.pointer (some ⟨B, 0, none⟩)] eg 0 Tryz.zeroValue3 g 0 cap l.toArray w
    (fun W x hb => detach1_any x id B W ((hb.cell (p := ⟨B, 0, none⟩) hB).trans hcell))
    (fun n os dk x _ => detach1_any x id B _ (by
      unfold sortWorld
      rw [cell?_grow _ _ _ (by show B < (putRow _ _ _ _ _).heap.size; rw [Sort.size_putRow]; exact hB), cell?_putRow_other _ _ g 0 _ _ (Or.inl hne)]
      exact hcell)) hH (by rw [List.size_toArray]; unfold maxLen at hm; omega) (by rw [List.size_toArray]; exact hl)
  change Calls Tryz.prog 159 _ _ _ at hcon
  rw [List.size_toArray] at hcon
  refine hcon.mono ?_
  rintro e w' ⟨rfl, q, rfl⟩
  have hle := less_len l id
  have e1 : (l.toArray.toList.filter fun x => !(x == id)) = lessK l id := rfl
  rw [e1]
  obtain ⟨D, hD⟩ : ∃ D, D = lessK l id ++ List.replicate (l.length - (lessK l id).length) 0 := ⟨_, rfl⟩
  have hDl : D.length = l.length := by rw [hD, List.length_append, List.length_replicate]; omega
  rw [← hD]
  have hh := heap_sortedI (n := q) (os := #[]) D.toArray hb
  have hg := grownBy_sortedI (w := w) (g := g) (n := q) (os := #[]) D.toArray
  rw [grow_empty] at hh hg
  have htk := take_putCellsI cur D (by rw [hDl, hs]; omega)
  refine ⟨rfl, ⟨by rw [List.length_map, Nat.mul_one], .inr ⟨g, cap, _, rfl, hbase, hh, by omega, hm, by simp [putCells, hs], ?_⟩⟩, hg⟩
  have e2 : ((putCells (Value.int .i64) 0 D.toArray cur).toList.take D.length).take (lessK l id).length = (D.map (Value.int .i64)).take (lessK l id).length := by rw [htk]
  rw [List.take_take, Nat.min_eq_left (by omega)] at e2
  rw [Nat.mul_one, e2, hD, List.map_append, List.take_append_of_le_length (by rw [List.length_map]; exact Nat.le_refl _), List.take_of_length_le (by rw [List.length_map]; exact Nat.le_refl _)]

set_option maxRecDepth 100000 in
set_option maxHeartbeats 4000000 in
/-- tree.detach -/
theorem detach_any {S : Nat → Prop} (w0 : World) (hS : ∀ b, w0.heap.size ≤ b → S b) (g cap : Nat) (M : List BK) (h0 : RowS S w0 g cap M) (hr : Rise (M.map Prod.fst)) (hi : IdsIn (M.map Prod.fst)) (id : Int) (p q : Nat) (x y : BK) (hx : M[p]? = some x) (hxi : x.1.id = id) (hy : M[q]? = some y) (hyi : y.1.id = x.1.parent) (hin : id ∈ y.1.kids) (hk : y.1.kids.length ≤ 500) :
    Calls Tryz.prog 130 #[.slice (some ⟨g, 0, none⟩) M.length cap, .int .i64 id] w0 (KidsR S w0 g cap M q y (lessK y.1.kids id)) := by
  have HSS := Lib.hid hS
  clear hS
  have hbA : Below w0.heap.size w0 (w0.alloc (.cells #[.int .i64 id] 3)) := (Below.refl _ _).alloc (Nat.le_refl _) _
  have HBA := Lib.hid hbA
  have hcA : (w0.alloc (.cells #[.int .i64 id] 3)).cell? ⟨w0.heap.size, 0, none⟩ = some (.int .i64 id) := by simp
  have hzA : w0.heap.size < (w0.alloc (.cells #[.int .i64 id] 3)).heap.size := by simp
  obtain ⟨B, hBe⟩ : ∃ B, B = w0.heap.size := ⟨_, rfl⟩
  obtain ⟨w, hwe⟩ : ∃ w, w = w0.alloc (.cells #[.int .i64 id] 3) := ⟨_, rfl⟩
  have h := h0.below hbA
  have hml := h.few
  have hpx : (M.map Prod.fst)[p]? = some x.1 := by rw [List.getElem?_map, hx]; rfl
  have hqy : (M.map Prod.fst)[q]? = some y.1 := by rw [List.getElem?_map, hy]; rfl
  have hp : posOf (M.map Prod.fst) id = (p : Int) := by rw [← hxi]; exact posOf_of hr hpx
  have hq : posOf (M.map Prod.fst) x.1.parent = (q : Int) := by rw [← hyi]; exact posOf_of hr hqy
  have hidr := hi x.1 (List.mem_of_getElem? hpx)
  have hpar := hi y.1 (List.mem_of_getElem? hqy)
  rw [hxi] at hidr
  rw [hyi] at hpar
  have hid64 : I64 id := by unfold I64; omega
  have hpn : p < M.length := (List.getElem?_eq_some_iff.1 hx).1
  have hqn : q < M.length := (List.getElem?_eq_some_iff.1 hy).1
  obtain ⟨y1, yk, yp⟩ := y
  obtain ⟨⟨xid, xpar, xks, xtx, xps⟩, xk, xpv⟩ := x
  have hxi : xid = id := hxi
  have hnst := h.far _ (List.mem_of_getElem? hy)
  obtain ⟨hkx, hpxx⟩ := hnst
  obtain ⟨Ak, nk, ck, rfl⟩ : ∃ A n c, yk = .slice A n c := by
    obtain ⟨A, n, c, e, _⟩ := hkx
    exact ⟨A, n, c, e⟩
  rw [← hwe] at h hkx hpxx HBA
  rw [← hwe, ← hBe] at hcA
  rw [← hwe, ← hBe] at hzA
  have hkr := hkx.reads (B := w.heap.size) fun b hb => hb.1.1
  have hkl := hkr.len
  have HIX := Lib.hid (index_any (M.map Prod.fst) (some ⟨g, 0, none⟩) M.length cap id w w.heap.size (Nat.le_refl _) h.rb hr hi hid64)
  rw [hp] at HIX
  have HIP : Hid (∀ W, Below w.heap.size w W → Calls Tryz.prog 105 #[.slice (some ⟨g, 0, none⟩) M.length cap, .int .i64 xpar] W fun e w' => e = .returned (.int .i64 (q : Int)) ∧ Below W.heap.size W w') := fun W hW => by
    have := index_any (M.map Prod.fst) (some ⟨g, 0, none⟩) M.length cap xpar W W.heap.size (Nat.le_refl _) (h.below hW).rb hr hi (by have hpar : 0 ≤ xpar ∧ xpar ≤ 1000000 := hpar; unfold I64; omega)
    have hq : posOf (M.map Prod.fst) xpar = (q : Int) := hq
    rwa [hq] at this
  have H := Lib.hid h
  have HX := Lib.hid hx
  have HY := Lib.hid hy
  have HKR := Lib.hid hkr
  have HPX := Lib.hid hpxx
  have hgw := h.lt
  have hg0 : g < B := by rw [hBe]; exact h0.lt
  have i0 : (0 : Int) ≤ (p : Int) := by omega
  have i1 : (p : Int) < (M.length : Int) := by omega
  have i2 : (0 : Int) ≤ (q : Int) := by omega
  have i3 : (q : Int) < (M.length : Int) := by omega
  have H64 : Hid (∀ z ∈ lessK y1.kids id, I64 z) := fun z hz => hkr.i64 ((less_mem _ _ _).1 hz).1
  have HIN := Lib.hid hin
  obtain ⟨n, hn⟩ : ∃ n, n = M.length := ⟨_, rfl⟩
  rw [← hn] at HIX HIP i1 i3 hml ⊢
  have HNN := Lib.hid hn
  have HK1 : Hid (nk = y1.kids.length) := hkl.1
  have hkl1 : nk ≤ 500 := by have := HK1.out; omega
  have HC : Hid (w.cell? ⟨B, 0, none⟩ = some (.int .i64 id)) := hcA
  have HBE := Lib.hid hBe
  have HZ0 : Hid (w0.heap.size ≤ w.heap.size) := HBA.out.size
  clear hbA h0 hkl hk hin h hx hy hp hq hpx hqy hidr hpar hkr hkx hpxx hr hi hn hxi hyi
  go_enter Tryz.func130, Tryz.ntmps130
  go_upto_region 1 with fail
  rw [← hwe, ← hBe]
  clear hwe hBe
  go_wp2_with fail
  refine HIX.out.mono ?_
  rintro e w1 ⟨rfl, hb1⟩
  have HB1 := Lib.hid hb1
  have H1 := Lib.hid (H.out.below hb1)
  have c1 : w1.cell? ⟨g, p * 5 + 1, none⟩ = some (.int .i64 xpar) := H1.out.cell HX.out rfl
  clear hb1 hcA
  go_wp2_with fail
  refine (HIP.out w1 HB1.out).mono ?_
  rintro e w2 ⟨rfl, hb⟩
  have HB2 : Hid (Below w.heap.size w w2) := HB1.out.trans (hb.mono HB1.out.size)
  have H2 := Lib.hid (H.out.below HB2.out)
  have c2 : w2.cell? ⟨g, q * 5 + 2, none⟩ = some (.slice Ak nk ck) := H2.out.cell HY.out rfl
  have HCL := Lib.hid (cloneI_own Ak nk ck y1.kids w2 w.heap.size (HKR.out.below HB2.out))
  clear hb c1
  go_wp2_with fail
  refine HCL.out.mono ?_
  rintro e w3 ⟨v3, rfl, hown3, hb3⟩
  have HB3 : Hid (Below w.heap.size w w3) := HB2.out.trans (hb3.mono HB2.out.size)
  have hz3 : w2.heap.size ≤ w3.heap.size := hb3.size
  have hz2 : w.heap.size ≤ w2.heap.size := HB2.out.size
  obtain ⟨g3, c3, rfl, hg3, HDEL⟩ : ∃ g3 c3, v3 = .slice (some ⟨g3, 0, none⟩) nk c3 ∧ w2.heap.size ≤ g3 ∧ Hid (Calls Tryz.prog 159 #[.slice (some ⟨g3, 0, none⟩) nk c3, .func (.func 160) #[] #[.pointer (some ⟨B, 0, none⟩)]] w3 fun e w' =>
      e = .returned (.slice (some ⟨g3, 0, none⟩) (lessK y1.kids id).length c3) ∧ w'.ownsRow w2.heap.size 3 1 (.slice (some ⟨g3, 0, none⟩) (lessK y1.kids id).length c3) (lessK y1.kids id).length ((lessK y1.kids id).map (.int .i64)) ∧ w3.grownBy w' (some g3)) := by
    have hpos : 0 < nk := by rw [HK1.out]; exact List.length_pos_of_mem HIN.out
    rcases hown3.2 with ⟨_, hz⟩ | ⟨g3, c3, cur, rfl, hg, hh, hnc, hcm, hcs, hct⟩
    · omega
    · have hk1 := HK1.out
      have := delI_own g3 c3 cur y1.kids id B w2.heap.size w3 hh (by omega) hcm hcs (by rw [← hk1]; exact hct) (by omega) (by omega) (by rw [HB3.out.cell (p := ⟨B, 0, none⟩) (by show B < w.heap.size; omega)]; exact HC.out) hg
      rw [← hk1] at this
      exact ⟨g3, c3, rfl, hg, this⟩
  clear hb3 hown3 c2
  go_wp2_with fail
  refine HDEL.out.mono ?_
  rintro e w4 ⟨rfl, hown4, hg4⟩
  have HB4 : Hid (Below w.heap.size w w4) := HB3.out.grown hg4 HB3.out.size (fun gg hgg => by injection hgg with e; omega)
  obtain ⟨A4, c4, e4, hc4, hr4⟩ := RdX.of_own hown4
  injection e4 with e41 e42 e43
  subst e41 e43
  have hll := less_len y1.kids id
  have hk1 := HK1.out
  have hkid : RInX w4 (fun b => (b < w4.heap.size ∧ b ≠ g) ∧ S b) (.slice (some ⟨g3, 0, none⟩) (lessK y1.kids id).length c3) (lessK y1.kids id) :=
    ⟨_, _, _, rfl, rfl, ⟨hc4, by omega⟩, hr4.weak fun b hb => ⟨⟨hb.2.2, by have := hb.2.1; omega⟩, HSS.out b (Nat.le_trans HZ0.out (Nat.le_trans hz2 hb.2.1))⟩, H64.out⟩
  have HKD := Lib.hid hkid
  have H4 := Lib.hid (H.out.below HB4.out)
  have f2 := H4.out.frozen (q * 5 + 2)
  have c2 : w4.cell? ⟨g, q * 5 + 2, none⟩ = some (.slice Ak nk ck) := H4.out.cell HY.out rfl
  clear hown4 hg4 hc4 hr4 hkid hll hk1
  go_wp2_with fail
  go_end0
  refine ⟨rfl, ⟨.slice (some ⟨g3, 0, none⟩) (lessK y1.kids id).length c3, ?_⟩, ?_⟩
  · refine H4.out.store HY.out (j := 2) (by omega) rfl ⟨HKD.out, ?_⟩
    exact (HPX.out.keep fun p hp => HB4.out.cell hp.1.1).weak fun b hb => ⟨⟨Nat.lt_of_lt_of_le hb.1.1 HB4.out.size, hb.1.2⟩, hb.2⟩
  · exact grown_put (HBA.out.trans (HB4.out.mono HZ0.out)) g _ _
end Go.Proofs.YtmkicfjcgbfaaaaGreat
