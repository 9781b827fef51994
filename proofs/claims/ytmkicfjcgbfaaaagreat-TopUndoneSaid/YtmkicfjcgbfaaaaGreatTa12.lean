/-
  DERIVED. The walks of tree.Pages, Order, NextId, Empty and the reference's NextOf. Conditions: sizes.
  The empty base is right; the walk of awakeTree. Conditions: none.
  What the law TopTree says of a base without error, in plain Lean: the order has each block but the root, each behind its parent; a path ends at its block and begins at a page. Conditions: a base without error.
  A number in a row: the walks of slices.Index and Contains at ints, the reference's hasNumber and without. Conditions: sizes.
  Plain: of two numbers that stand one behind the other in a list without repeats the first has the lower index; the empty base is right. Conditions: none.
  A base in a row of the call's own that is turned in place: what its blocks lead to lies elsewhere. Conditions: none.
  By an AI agent.
-/
import Derived.Test.YtmkicfjcgbfaaaaGreatTa11
import Derived.Test.YtmkicfjcgbfaaaaGreatTa06
import Derived.Test.YtmkicfjcgbfaaaaGreatTa10
import Derived.Deep.LoopGhost
import Derived.Test.YtmkicfjcgbfaaaaGreatTa07
import Derived.Laws.IdiomCopy
import Derived.Laws.CopyRow
import Derived.Laws.Tables
namespace Go.Proofs.YtmkicfjcgbfaaaaGreat
open Go.RowKit

def kids0 (l : List Bl) : List Int := match l[0]? with | some x => x.kids | none => []
def pagesL (l : List Bl) (f : Int → Option Int) : List Int := if baseE l f = 0 then kids0 l else []
def orderL (l : List Bl) (f : Int → Option Int) : List Int := if baseE l f = 0 then ord l 41 0 else []
def lastId (l : List Bl) : Int := match l[l.length - 1]? with | some x => x.id | none => 0
def nextP (l : List Bl) : Int := if 1000000 < lastId l + 1 then -1 else lastId l + 1
def nextV (l : List Bl) (f : Int → Option Int) : Int := if baseE l f = 0 then nextP l else -1
/-- ints that are returned -/
def Ints1 (L : List Int) (w : World) (e : Ending) (w' : World) : Prop := (∃ A n c, e = .returned (.slice A n c) ∧ RInX w' (fun b => w.heap.size ≤ b ∧ b < w'.heap.size) (.slice A n c) L) ∧ Below w.heap.size w w'

set_option maxHeartbeats 1000000 in
theorem pages_any (l : List Bl) (f : Int → Option Int) (A : Option Addr) (n c : Nat) (w : World) (B : Nat) (hB : B ≤ w.heap.size) (h : RB w B (.slice A n c) l) (hf : DepOk l f) :
    Calls Tryz.prog 15 #[.slice A n c] w (Ints1 (pagesL l f) w) := by
  have HC := treeCheck_any l f A n c w B hB h hf
  obtain ⟨V, hV⟩ : ∃ V, V = pagesL l f := ⟨_, rfl⟩
  rw [← hV]
  unfold pagesL at hV
  have HG : Hid (baseE l f = 0 → 0 < l.length) := fun h0 => by
    obtain ⟨r, hr, _⟩ := (good_of h0 hf).kids.root
    exact (List.getElem?_eq_some_iff.1 hr).1
  obtain ⟨E, hE⟩ : ∃ E, E = baseE l f := ⟨_, rfl⟩
  rw [← hE] at HC hV HG
  have HC := Lib.hid HC
  by_cases h0 : E = 0
  · rw [if_pos h0] at hV
    have hl := HG.out h0
    obtain ⟨x, hx⟩ : ∃ x, l[0]? = some x := ⟨_, List.getElem?_eq_getElem hl⟩
    have hk : kids0 l = x.kids := by unfold kids0; rw [hx]
    rw [hk] at hV
    have hn0 : 0 < n := by have := h.len.1; omega
    obtain ⟨b, off, Ak, nk, ck, Ap, np, cp, rfl, hbb, g0, g1, g2, g3, g4, hK, _⟩ := h.at_ hx
    rw [Nat.zero_mul, Nat.add_zero] at g2
    have HCK := Lib.hid fun W (hW : Below w.heap.size w W) => cloneI_any Ak nk ck x.kids W B (hK.below (hW.mono hB))
    have hn0' : (0 : Int) < (n : Int) := by omega
    subst h0
    have HV := Lib.hid hV
    clear h hf hE hV hl hx hk hK g0 g1 g3 g4
    go_enter Tryz.func15, Tryz.ntmps15
    go_wp2_with fail
    refine HC.out.mono ?_
    rintro e w1 ⟨rfl, hb1⟩
    have HB1 := Lib.hid hb1
    have g2 := (hb1.cell (p := ⟨b, off + 2, none⟩) (by show b < _; omega)).trans g2
    have HX := Lib.hid (HCK.out w1 hb1)
    have hz1 := hb1.size
    clear hb1
    go_wp2_with fail
    refine HX.out.mono ?_
    rintro e w2 ⟨⟨A', n', c', rfl, hr0, _, hr, hcc⟩, hb2⟩
    rw [← HV.out] at hr
    have HCL := Lib.hid (clipI_any A' n' c' w2 hcc hr0)
    have HB2 : Hid (Below w.heap.size w w2) := HB1.out.trans (hb2.mono hz1)
    have HR := Lib.hid (hr.weak (S' := fun b => w.heap.size ≤ b ∧ b < w2.heap.size) fun b hb => ⟨by omega, hb.2⟩)
    clear hb2 hr hr0 hcc
    go_wp2_with fail
    refine HCL.out.mono ?_
    rintro e w3 ⟨rfl, rfl⟩
    go_wp2_with fail
    go_ret
    exact ⟨⟨_, _, _, rfl, HR.out⟩, HB2.out⟩
  · rw [if_neg h0] at hV
    have h0' : (E != 0) = true := by simpa using h0
    have HV := Lib.hid hV
    clear h hf hE hV h0
    go_enter Tryz.func15, Tryz.ntmps15
    go_wp2_with fail
    refine HC.out.mono ?_
    rintro e w1 ⟨rfl, hb1⟩
    have HB1 := Lib.hid hb1
    clear hb1
    go_wp2_with fail
    go_ret
    exact ⟨⟨_, _, _, rfl, by rw [HV.out]; exact RInX.nil _ _⟩, HB1.out⟩
set_option maxHeartbeats 1000000 in
theorem order_any (l : List Bl) (f : Int → Option Int) (A : Option Addr) (n c : Nat) (w : World) (B : Nat) (hB : B ≤ w.heap.size) (h : RB w B (.slice A n c) l) (hf : DepOk l f) :
    Calls Tryz.prog 12 #[.slice A n c] w (Ints1 (orderL l f) w) := by
  have HC := treeCheck_any l f A n c w B hB h hf
  obtain ⟨V, hV⟩ : ∃ V, V = orderL l f := ⟨_, rfl⟩
  rw [← hV]
  unfold orderL at hV
  have HP : Hid (baseE l f = 0 → ∀ W, Below w.heap.size w W → Calls Tryz.prog 64 #[.slice A n c, .int .i64 0] W (IntsR (ord l 41 0) W)) := fun h0 W hW => by
    have G := good_of h0 hf
    exact treeBelow_any l G.kids G.low' A n c B 41 0 0 W .root (by omega) (Nat.le_trans hB hW.size) (h.below (hW.mono hB))
  obtain ⟨E, hE⟩ : ∃ E, E = baseE l f := ⟨_, rfl⟩
  rw [← hE] at HC hV HP
  have HC := Lib.hid HC
  clear h hf hE
  by_cases h0 : E = 0
  · rw [if_pos h0] at hV
    have HP' := Lib.hid (HP.out h0)
    subst h0
    have HV := Lib.hid hV
    clear hV
    go_enter Tryz.func12, Tryz.ntmps12
    go_wp2_with fail
    refine HC.out.mono ?_
    rintro e w1 ⟨rfl, hb1⟩
    have HB1 := Lib.hid hb1
    have HX := Lib.hid (HP'.out w1 hb1)
    have hz1 := hb1.size
    clear hb1
    go_wp2_with fail
    refine HX.out.mono ?_
    rintro e w2 ⟨⟨A', n', c', rfl, hr0, _, hr, hcc⟩, hb2⟩
    rw [← HV.out] at hr
    have HCL := Lib.hid (clipI_any A' n' c' w2 hcc hr0)
    have HB2 : Hid (Below w.heap.size w w2) := HB1.out.trans (hb2.mono hz1)
    have HR := Lib.hid (hr.weak (S' := fun b => w.heap.size ≤ b ∧ b < w2.heap.size) fun b hb => ⟨by omega, hb.2⟩)
    clear hb2 hr hr0 hcc
    go_wp2_with fail
    refine HCL.out.mono ?_
    rintro e w3 ⟨rfl, rfl⟩
    go_wp2_with fail
    go_ret
    exact ⟨⟨_, _, _, rfl, HR.out⟩, HB2.out⟩
  · rw [if_neg h0] at hV
    have h0' : (E != 0) = true := by simpa using h0
    have HV := Lib.hid hV
    clear HP h0 hV
    go_enter Tryz.func12, Tryz.ntmps12
    go_wp2_with fail
    refine HC.out.mono ?_
    rintro e w1 ⟨rfl, hb1⟩
    have HB1 := Lib.hid hb1
    clear hb1
    go_wp2_with fail
    go_ret
    exact ⟨⟨_, _, _, rfl, by rw [HV.out]; exact RInX.nil _ _⟩, HB1.out⟩

set_option maxHeartbeats 1000000 in
theorem nextId_any (l : List Bl) (A : Option Addr) (n c : Nat) (w : World) (B : Nat) (h : RB w B (.slice A n c) l) (hl : 0 < l.length) (hi : IdsIn l) :
    Calls Tryz.prog 106 #[.slice A n c] w fun e w' => e = .returned (.int .i64 (nextP l)) ∧ w' = w := by
  have hn := h.len
  obtain ⟨x, hx⟩ : ∃ x, l[l.length - 1]? = some x := ⟨_, List.getElem?_eq_getElem (by omega)⟩
  obtain ⟨b, off, Ak, nk, ck, Ap, np, cp, rfl, hbb, g0, _⟩ := h.at_ hx
  have hxi := hi x (List.mem_of_getElem? hx)
  have hla : lastId l = x.id := by unfold lastId; rw [hx]
  obtain ⟨V, hV⟩ : ∃ V, V = nextP l := ⟨_, rfl⟩
  rw [← hV]
  unfold nextP at hV
  rw [hla] at hV
  obtain ⟨q, hq⟩ : ∃ q : Nat, n = q + 1 := ⟨n - 1, by omega⟩
  have e : l.length - 1 = q := by omega
  rw [e] at g0
  have hq0 : (0 : Int) ≤ (q : Int) := by omega
  have hq1 : (q : Int) < (n : Int) := by omega
  have HQ : Hid (((n : Int) - 1) = (q : Int)) := by show _ = _; omega
  have hn1 : (1 : Int) ≤ (n : Int) := by omega
  have hnb : n * 80 ≤ 140737488351232 := hn.2.2
  have i0 : 0 ≤ x.id := hxi.1
  have i1 : x.id ≤ 1000000 := hxi.2
  clear h hl hi hn hx hla hq e hxi
  have hq' := HQ.out
  by_cases hb : 1000000 < x.id + 1
  · rw [if_pos hb] at hV
    subst hV
    go_enter Tryz.func106, Tryz.ntmps106
    go_wp2_with fail
    go_ret
    exact ⟨rfl, rfl⟩
  · rw [if_neg hb] at hV
    have HV := Lib.hid hV
    clear hV
    go_enter Tryz.func106, Tryz.ntmps106
    go_wp2_with fail
    go_ret
    exact ⟨by rw [HV.out]; rfl, rfl⟩
set_option maxHeartbeats 1000000 in
theorem nextOf_any (l : List Bl) (A : Option Addr) (n c : Nat) (w : World) (B : Nat) (h : RB w B (.slice A n c) l) (hl : 0 < l.length) (hi : IdsIn l) :
    Calls Tryz.prog 111 #[.slice A n c] w fun e w' => e = .returned (.int .i64 (nextP l)) ∧ w' = w := by
  have hn := h.len
  obtain ⟨x, hx⟩ : ∃ x, l[l.length - 1]? = some x := ⟨_, List.getElem?_eq_getElem (by omega)⟩
  obtain ⟨b, off, Ak, nk, ck, Ap, np, cp, rfl, hbb, g0, _⟩ := h.at_ hx
  have hxi := hi x (List.mem_of_getElem? hx)
  have hla : lastId l = x.id := by unfold lastId; rw [hx]
  obtain ⟨V, hV⟩ : ∃ V, V = nextP l := ⟨_, rfl⟩
  rw [← hV]
  unfold nextP at hV
  rw [hla] at hV
  obtain ⟨q, hq⟩ : ∃ q : Nat, n = q + 1 := ⟨n - 1, by omega⟩
  have e : l.length - 1 = q := by omega
  rw [e] at g0
  have hq0 : (0 : Int) ≤ (q : Int) := by omega
  have hq1 : (q : Int) < (n : Int) := by omega
  have HQ : Hid (((n : Int) - 1) = (q : Int)) := by show _ = _; omega
  have hn1 : (1 : Int) ≤ (n : Int) := by omega
  have hnb : n * 80 ≤ 140737488351232 := hn.2.2
  have i0 : 0 ≤ x.id := hxi.1
  have i1 : x.id ≤ 1000000 := hxi.2
  clear h hl hi hn hx hla hq e hxi
  have hq' := HQ.out
  by_cases hb : 1000000 < x.id + 1
  · rw [if_pos hb] at hV
    subst hV
    go_enter Tryz.func111, Tryz.ntmps111
    go_wp2_with fail
    go_ret
    exact ⟨rfl, rfl⟩
  · rw [if_neg hb] at hV
    have HV := Lib.hid hV
    clear hV
    go_enter Tryz.func111, Tryz.ntmps111
    go_wp2_with fail
    go_ret
    exact ⟨by rw [HV.out]; rfl, rfl⟩
set_option maxHeartbeats 1000000 in
theorem nextId2_any (l : List Bl) (f : Int → Option Int) (A : Option Addr) (n c : Nat) (w : World) (B : Nat) (hB : B ≤ w.heap.size) (h : RB w B (.slice A n c) l) (hf : DepOk l f) :
    Calls Tryz.prog 55 #[.slice A n c] w fun e w' => e = .returned (.int .i64 (nextV l f)) ∧ Below w.heap.size w w' := by
  have HC := treeCheck_any l f A n c w B hB h hf
  obtain ⟨V, hV⟩ : ∃ V, V = nextV l f := ⟨_, rfl⟩
  rw [← hV]
  unfold nextV at hV
  have HP : Hid (baseE l f = 0 → ∀ W, Below w.heap.size w W → Calls Tryz.prog 106 #[.slice A n c] W _) := fun h0 W hW => by
    have G := good_of h0 hf
    obtain ⟨r, hr, _⟩ := G.kids.root
    exact nextId_any l A n c W B (h.below (hW.mono hB)) (List.getElem?_eq_some_iff.1 hr).1 G.kids.ids
  obtain ⟨E, hE⟩ : ∃ E, E = baseE l f := ⟨_, rfl⟩
  rw [← hE] at HC hV HP
  have HC := Lib.hid HC
  clear h hf hE
  by_cases h0 : E = 0
  · rw [if_pos h0] at hV
    have HP' := Lib.hid (HP.out h0)
    subst h0
    have HV := Lib.hid hV
    clear hV
    go_enter Tryz.func55, Tryz.ntmps55
    go_wp2_with fail
    refine HC.out.mono ?_
    rintro e w1 ⟨rfl, hb1⟩
    have HB1 := Lib.hid hb1
    have HX := Lib.hid (HP'.out w1 hb1)
    clear hb1
    go_wp2_with fail
    refine HX.out.mono ?_
    rintro e w2 ⟨rfl, rfl⟩
    go_wp2_with fail
    go_ret
    exact ⟨by rw [HV.out]; rfl, HB1.out⟩
  · rw [if_neg h0] at hV
    have h0' : (E != 0) = true := by simpa using h0
    subst hV
    clear HP h0
    go_enter Tryz.func55, Tryz.ntmps55
    go_wp2_with fail
    refine HC.out.mono ?_
    rintro e w1 ⟨rfl, hb1⟩
    have HB1 := Lib.hid hb1
    clear hb1
    go_wp2_with fail
    go_ret
    exact ⟨rfl, HB1.out⟩
/-- the base of the root alone in a row -/
theorem empty_row (w : World) : RB (w.alloc (.cells #[.int .i64 0, .int .i64 0, .slice none 0 0, .string ⟨#[]⟩, .slice none 0 0] 38)) (w.heap.size + 1) (.slice (some ⟨w.heap.size, 0, none⟩) 1 1) [zB] :=
  ⟨some ⟨w.heap.size, 0, none⟩, 1, 1, [(zB, .slice none 0 0, .slice none 0 0)], rfl, rfl, rfl, ⟨Nat.le_refl _, by omega⟩, Reads.blk (Blk.new w 38 _) rfl, fun x hx => by
    obtain rfl : x = (zB, Value.slice none 0 0, Value.slice none 0 0) := by simpa using hx
    exact ⟨(RInX.nil w (fun _ => True)).imp fun _ h => by
      obtain ⟨n, c, h⟩ := h
      exact ⟨n, c, h.1, h.2.1, h.2.2.1, ⟨h.2.2.2.1.1, fun hn => absurd hn (by rw [h.2.1]; simp)⟩, h.2.2.2.2⟩, ⟨none, 0, 0, [], rfl, rfl, rfl, ⟨Nat.le_refl _, by omega⟩, ⟨rfl, fun h => absurd h (by omega)⟩, fun x hx => by cases hx⟩⟩⟩
set_option maxHeartbeats 400000 in
theorem empty_any (w : World) :
    Calls Tryz.prog 56 #[] w fun e w' => e = .returned (.slice (some ⟨w.heap.size, 0, none⟩) 1 1) ∧ w' = w.alloc (.cells #[.int .i64 0, .int .i64 0, .slice none 0 0, .string ⟨#[]⟩, .slice none 0 0] 38) := by
  go_enter Tryz.func56, Tryz.ntmps56
  go_wp2_with fail
  go_ret
  exact ⟨rfl, rfl⟩
end Go.Proofs.YtmkicfjcgbfaaaaGreat
namespace Go.Proofs.YtmkicfjcgbfaaaaGreat
open Go.RowKit

theorem empty_tree : Tree [zB] (fun _ => 0) where
  rise := List.pairwise_singleton _ _
  ids x hx := by obtain rfl := List.mem_singleton.1 hx; exact ⟨by decide, by decide⟩
  short := by decide
  root := ⟨zB, [], rfl, rfl, rfl, by show (⟨#[]⟩ : ByteArray).toList = []; rw [ByteArray.toList_eq], rfl⟩
  loc x hx := by
    obtain rfl := List.mem_singleton.1 hx
    refine ⟨?_, by decide, ?_⟩
    · show txErr ⟨#[]⟩ = 0
      unfold txErr
      rw [if_neg (by decide), if_neg (by decide)]
    · show cpErr [] = 0
      unfold cpErr
      rw [if_neg (by decide), prsErr]
  kid b hb k hk := by obtain rfl := List.mem_singleton.1 hb; cases hk
  nod b hb := by obtain rfl := List.mem_singleton.1 hb; exact List.nodup_nil
  par x hx h0 := by obtain rfl := List.mem_singleton.1 hx; exact absurd rfl h0
  zero := rfl
  deep _ _ := by decide
theorem empty_good : ∃ f, DepOk [zB] f ∧ Good [zB] f := by
  obtain ⟨f, hf⟩ := IsDep.exists empty_tree.kids
  exact ⟨f, fun _ => hf, empty_tree.good hf⟩
set_option maxHeartbeats 1000000 in
theorem awakeTree_any (w : World) : Calls Tryz.prog 9 #[] w fun e w' => e = .returned (.bool true) ∧ Below w.heap.size w w' := by
  have HE := Lib.hid fun W => empty_any W
  obtain ⟨f, hf, G⟩ := empty_good
  have hv : nextV [zB] f = 1 := by unfold nextV; rw [if_pos G.clean]; rfl
  have HN := Lib.hid fun W => nextId2_any [zB] f (some ⟨W.heap.size, 0, none⟩) 1 1 (W.alloc (.cells #[.int .i64 0, .int .i64 0, .slice none 0 0, .string ⟨#[]⟩, .slice none 0 0] 38)) (W.heap.size + 1) (by simp) (empty_row W) hf
  rw [hv] at HN
  clear hv G hf
  go_enter Tryz.func9, Tryz.ntmps9
  go_wp2_with fail
  refine (HE.out w).mono ?_
  rintro e w1 ⟨rfl, rfl⟩
  go_wp2_with fail
  refine (HN.out w).mono ?_
  rintro e w2 ⟨rfl, hb⟩
  have HB : Hid (Below w.heap.size w w2) := ((Below.refl w.heap.size w).alloc (Nat.le_refl _) _).trans (hb.mono (by simp))
  clear hb
  go_wp2_with fail
  go_ret
  exact ⟨rfl, HB.out⟩
end Go.Proofs.YtmkicfjcgbfaaaaGreat
namespace Go.Proofs.YtmkicfjcgbfaaaaGreat
open Go.RowKit

section
variable {l : List Bl} {f : Int → Option Int}
theorem ord_blk (K : Kids l) (n : Nat) {b : Bl} (hb : b ∈ l) : ord l (n + 1) b.id = b.kids.flatMap fun k => k :: ord l n k := by
  obtain ⟨p, hp, e⟩ := List.mem_iff_getElem.1 hb
  have h : l[p]? = some b := by rw [List.getElem?_eq_getElem hp, e]
  exact ord_at (posOf_of K.rise h) h n
theorem sub_flat {α β : Type} {g : α → List β} {x : α} : ∀ {L : List α}, x ∈ L → (g x).Sublist (L.flatMap g)
  | a :: L, h => by
    rw [List.flatMap_cons]
    rcases List.mem_cons.1 h with rfl | h
    · exact List.sublist_append_left _ _
    · exact (sub_flat h).trans (List.sublist_append_right _ _)
/-- a block's kid stands behind it -/
theorem ord_kid (K : Kids l) {b : Bl} (hb : b ∈ l) {k : Int} (hk : k ∈ b.kids) : ∀ (n : Nat) {id : Int} {d : Nat}, Dp l id d → b.id ∈ ord l n id → [b.id, k].Sublist (ord l (n + 1) id)
  | 0, _, _, _, h => by cases h
  | n + 1, id, d, hd, h => by
    obtain ⟨p, c, h1, h2, h3⟩ := hd.blk K
    have hc := List.mem_of_getElem? h2
    rw [ord_at h1 h2, List.mem_flatMap] at h
    rw [ord_at h1 h2]
    obtain ⟨k', hk', hx⟩ := h
    refine List.Sublist.trans ?_ (sub_flat (g := fun k => k :: ord l (n + 1) k) hk')
    rcases List.mem_cons.1 hx with e | hx
    · rw [← e]
      refine List.Sublist.cons_cons _ (List.singleton_sublist.2 ?_)
      rw [ord_blk K n hb]
      exact List.mem_flatMap.2 ⟨k, hk, List.mem_cons_self⟩
    · have hdk : Dp l k' (d + 1) := .step c d k' (h3 ▸ hd) hc hk'
      exact List.Sublist.cons _ (ord_kid K hb hk n hdk hx)
/-- each block below the root is in the order -/
theorem ord_has (K : Kids l) : ∀ {id : Int} {d : Nat}, Dp l id d → ∀ n, d ≤ n → id ≠ 0 → id ∈ ord l n 0 := by
  intro id d h
  induction h with
  | root => intro n _ h0; exact absurd rfl h0
  | step b d k hd hb hk ih =>
    intro n hn _
    obtain ⟨m, rfl⟩ : ∃ m, n = m + 1 := ⟨n - 1, by omega⟩
    by_cases h0 : b.id = 0
    · have := ord_blk K m hb
      rw [h0] at this
      rw [this]
      exact List.mem_flatMap.2 ⟨k, hk, List.mem_cons_self⟩
    · exact (ord_kid K hb hk m .root (ih m (by omega) h0)).subset (by simp)
theorem ord_zero (K : Kids l) (n : Nat) : (0 : Int) ∉ ord l n 0 := fun h => by
  obtain ⟨j, h1, _⟩ := ord_mem K n .root h
  have := h1.zero K
  omega
/-- the order has each block but the root -/
theorem ord_full (G : Good l f) : (ord l 41 0).length = l.length - 1 := by
  obtain ⟨r, hr, hr0, _⟩ := G.kids.root
  have hl := (List.getElem?_eq_some_iff.1 hr).1
  obtain ⟨c, t, rfl⟩ : ∃ c t, l = c :: t := by
    cases l with
    | nil => simp at hl
    | cons c t => exact ⟨c, t, rfl⟩
  obtain rfl : c = r := by simpa using hr
  have hnd : (t.map (·.id)).Nodup := by
    refine List.pairwise_iff_getElem.2 fun i j hi hj hij => ?_
    rw [List.length_map] at hi hj
    rw [List.getElem_map, List.getElem_map]
    intro e
    have := G.kids.rise (i + 1) (j + 1) t[i] t[j] (by omega) (by rw [List.getElem?_cons_succ, List.getElem?_eq_getElem]) (by rw [List.getElem?_cons_succ, List.getElem?_eq_getElem])
    omega
  have h1 := nodup_short (M := t.map (·.id)) (ord_nodup G.kids 41 .root) fun x hx => by
    obtain ⟨j, h, _⟩ := ord_mem G.kids 41 .root hx
    obtain ⟨y, hy, e⟩ := h.mem G.kids
    rcases List.mem_cons.1 hy with rfl | hy
    · rw [hr0] at e
      subst e
      exact absurd hx (ord_zero G.kids 41)
    · exact List.mem_map.2 ⟨y, hy, e⟩
  have h2 := nodup_short (M := ord (c :: t) 41 0) hnd fun x hx => by
    obtain ⟨y, hy, rfl⟩ := List.mem_map.1 hx
    obtain ⟨d, _, hd, h40⟩ := G.dp (List.mem_cons_of_mem _ hy)
    refine ord_has G.kids hd 41 (by omega) fun e => ?_
    obtain ⟨i, hi, e2⟩ := List.mem_iff_getElem.1 hy
    have := G.kids.rise 0 (i + 1) c y (by omega) rfl (by rw [List.getElem?_cons_succ, List.getElem?_eq_getElem hi, e2])
    omega
  rw [List.length_map] at h1 h2
  rw [List.length_cons]
  omega
/-- a parent stands ahead of its kid -/
theorem ord_par (G : Good l f) {x : Bl} (hx : x ∈ l) (h0 : x.id ≠ 0) (hp : x.parent ≠ 0) : [x.parent, x.id].Sublist (ord l 41 0) := by
  obtain ⟨d, _, hd, h40⟩ := G.dp hx
  generalize he : x.id = e at hd
  cases hd with
  | root => exact absurd he h0
  | step b d k h hb hk =>
    subst he
    have e := parOf_kid G.kids hb hk
    rw [parOf_eq G.kids hx] at e
    rw [e] at hp ⊢
    exact ord_kid G.kids hb hk 40 .root (ord_has G.kids h 40 (by omega) hp)
/-- a path ends at its block -/
theorem pth_last (d : Nat) (id : Int) : (pth l (d + 1) id)[d]? = some id := by
  rw [pth, List.getElem?_append_right (by rw [pth_len]; exact Nat.le_refl _), pth_len, Nat.sub_self]; rfl
/-- a path begins at a page -/
theorem pth_first (K : Kids l) {r : Bl} (hr : l[0]? = some r) (hr0 : r.id = 0) : ∀ (d : Nat) {id : Int}, Dp l id (d + 1) → ∃ x, (pth l (d + 1) id)[0]? = some x ∧ x ∈ r.kids
  | 0, id, h => by
    refine ⟨id, rfl, ?_⟩
    generalize hn : 0 + 1 = n at h
    cases h with
    | root => omega
    | step b d k h hb hk =>
      obtain rfl : d = 0 := by omega
      have hb0 : b.id = 0 := (h.zero_iff K).2 rfl
      have : b = r := K.rise.inj hb (List.mem_of_getElem? hr) (by rw [hb0, hr0])
      rw [← this]; exact hk
  | d + 1, id, h => by
    obtain ⟨x, h1, h2⟩ := pth_first K hr hr0 d (h.up K).2
    refine ⟨x, ?_, h2⟩
    rw [pth, List.getElem?_append_left (by rw [pth_len]; omega)]
    exact h1
end
end Go.Proofs.YtmkicfjcgbfaaaaGreat
namespace Go.Proofs.YtmkicfjcgbfaaaaGreat
open Go.RowKit

/-- the place of the first such number, from a place on -/
def ixFrom : List Int → Int → Nat → Int
  | [], _, _ => -1
  | a :: l, x, k => if x = a then (k : Int) else ixFrom l x (k + 1)
def ixOf (l : List Int) (x : Int) : Int := ixFrom l x 0
theorem ixFrom_at {l : List Int} {k : Nat} {a : Int} (h : l[k]? = some a) (x : Int) : ixFrom (l.drop k) x k = if x = a then (k : Int) else ixFrom (l.drop (k + 1)) x (k + 1) := by
  obtain ⟨hk, e⟩ := List.getElem?_eq_some_iff.1 h
  rw [List.drop_eq_getElem_cons hk, ixFrom, e]
theorem ixFrom_spec : ∀ (l : List Int) (x : Int) (k : Nat), (ixFrom l x k = -1 ∧ x ∉ l) ∨ ∃ i : Nat, ixFrom l x k = ((k + i : Nat) : Int) ∧ l[i]? = some x ∧ x ∉ l.take i
  | [], x, k => .inl ⟨rfl, by simp⟩
  | a :: l, x, k => by
    rw [ixFrom]
    by_cases h : x = a
    · rw [if_pos h]; exact .inr ⟨0, rfl, by rw [h]; rfl, by simp⟩
    · rw [if_neg h]
      rcases ixFrom_spec l x (k + 1) with ⟨h1, h2⟩ | ⟨i, h1, h2, h3⟩
      · exact .inl ⟨h1, by rw [List.mem_cons]; exact fun e => e.elim h h2⟩
      · exact .inr ⟨i + 1, by rw [h1]; congr 1; omega, by simpa using h2, by rw [List.take_succ_cons, List.mem_cons]; exact fun e => e.elim h h3⟩
theorem ixOf_spec (l : List Int) (x : Int) : (ixOf l x = -1 ∧ x ∉ l) ∨ ∃ i : Nat, ixOf l x = (i : Int) ∧ l[i]? = some x ∧ x ∉ l.take i := by
  rcases ixFrom_spec l x 0 with h | ⟨i, h1, h2⟩
  · exact .inl h
  · exact .inr ⟨i, by rw [ixOf, h1]; congr 1; omega, h2⟩
theorem ixOf_has (l : List Int) (x : Int) : decide (0 ≤ ixOf l x) = decide (x ∈ l) := by
  rcases ixOf_spec l x with ⟨h1, h2⟩ | ⟨i, h1, h2, _⟩
  · rw [decide_eq_false (by omega), decide_eq_false h2]
  · rw [decide_eq_true (by omega), decide_eq_true (List.mem_of_getElem? h2)]

set_option maxHeartbeats 1000000 in
/-- slices.Index at ints -/
theorem indexI_any (l : List Int) (A : Option Addr) (n c : Nat) (x : Int) (w : World) (B : Nat) (h : RIn w B (.slice A n c) l) :
    Calls Tryz.prog 16 #[.slice A n c, .int .i64 x] w fun e w' => e = .returned (.int .i64 (ixOf l x)) ∧ w' = w := by
  obtain ⟨V, hV⟩ : ∃ V, V = ixOf l x := ⟨_, rfl⟩
  rw [← hV]
  have HV : Hid (V = ixFrom (l.drop 0) x 0) := hV
  have HN := Lib.hid h.len
  have H := Lib.hid h
  clear h hV
  go_enter Tryz.func16, Tryz.ntmps16
  go_wp2_with fail
  go_loopg [8] n (fun gg s8 wr => ∃ k : Nat, k + gg = n ∧ s8 = .int .i64 (k : Int) ∧ Hid (V = ixFrom (l.drop k) x k) ∧ Hid (wr = w))
  case atStart => exact ⟨0, by omega, rfl, HV, rfl⟩
  case round =>
    obtain ⟨k, hkg, rfl, hno, hw⟩ := hrel
    obtain rfl : w = wr := hw.out.symm
    clear hw
    have hbg : n ≤ c ∧ n * 8 ≤ 140737488351232 := HN.out.2
    by_cases hk : k < n
    · obtain ⟨a, ha⟩ : ∃ a, l[k]? = some a := ⟨_, List.getElem?_eq_getElem (by have := HN.out.1; omega)⟩
      obtain ⟨b, off, rfl, hbb, g0⟩ := H.out.at_ ha
      have hst := hno.out.trans (ixFrom_at ha x)
      have j0 : (0 : Int) ≤ (k : Int) := by omega
      have j1 : (k : Int) < (n : Int) := by omega
      clear ha
      by_cases he : x = a
      · have HL := Lib.hid (hst.trans (if_pos he))
        have he' : (x == a) = true := by simpa using he
        clear hst he
        go_wp2_with fail
        go_ret
        exact ⟨by rw [HL.out]; rfl, rfl⟩
      · have HL := Lib.hid (hst.trans (if_neg he))
        have he' : (x == a) = false := by simpa using he
        clear hst he
        go_wp2_with fail
        go_roundg (n - (k + 1))
        case measure => omega
        case rel => exact ⟨k + 1, by omega, by go_num, HL, rfl⟩
    · obtain rfl : k = n := by omega
      have HZ : Hid (V = -1) := hno.out.trans (by rw [List.drop_of_length_le (by rw [← HN.out.1]; exact Nat.le_refl _)]; rfl)
      go_wp2_with fail
      go_ret
      exact ⟨by rw [HZ.out]; rfl, rfl⟩
set_option maxHeartbeats 400000 in
/-- slices.Contains at ints -/
theorem containsI_any (l : List Int) (A : Option Addr) (n c : Nat) (x : Int) (w : World) (B : Nat) (h : RIn w B (.slice A n c) l) :
    Calls Tryz.prog 14 #[.slice A n c, .int .i64 x] w fun e w' => e = .returned (.bool (decide (x ∈ l))) ∧ w' = w := by
  have HX := Lib.hid (indexI_any l A n c x w B h)
  rw [← ixOf_has]
  obtain ⟨V, hV⟩ : ∃ V, V = ixOf l x := ⟨_, rfl⟩
  rw [← hV] at HX ⊢
  clear h hV
  go_enter Tryz.func14, Tryz.ntmps14
  go_wp2_with fail
  refine HX.out.mono ?_
  rintro e w1 ⟨rfl, hw⟩
  rw [hw]
  clear hw
  go_wp2_with fail
  go_ret
  exact ⟨rfl, rfl⟩
set_option maxHeartbeats 1000000 in
/-- the reference's hasNumber -/
theorem hasNumber_any (l : List Int) (A : Option Addr) (n c : Nat) (x : Int) (w : World) (B : Nat) (h : RIn w B (.slice A n c) l) :
    Calls Tryz.prog 77 #[.slice A n c, .int .i64 x] w fun e w' => e = .returned (.bool (decide (x ∈ l))) ∧ w' = w := by
  rw [← ixOf_has]
  obtain ⟨V, hV⟩ : ∃ V, V = ixOf l x := ⟨_, rfl⟩
  rw [← hV]
  have HV : Hid (V = ixFrom (l.drop 0) x 0) := hV
  have HN := Lib.hid h.len
  have H := Lib.hid h
  clear h hV
  go_enter Tryz.func77, Tryz.ntmps77
  go_wp2_with fail
  go_loopg [9] n (fun gg s9 wr => ∃ k : Nat, k + gg = n ∧ s9 = .int .i64 (k : Int) ∧ Hid (V = ixFrom (l.drop k) x k) ∧ Hid (wr = w))
  case atStart => exact ⟨0, by omega, rfl, HV, rfl⟩
  case round =>
    obtain ⟨k, hkg, rfl, hno, hw⟩ := hrel
    obtain rfl : w = wr := hw.out.symm
    clear hw
    have hbg : n ≤ c ∧ n * 8 ≤ 140737488351232 := HN.out.2
    by_cases hk : k < n
    · obtain ⟨a, ha⟩ : ∃ a, l[k]? = some a := ⟨_, List.getElem?_eq_getElem (by have := HN.out.1; omega)⟩
      obtain ⟨b, off, rfl, hbb, g0⟩ := H.out.at_ ha
      have hst := hno.out.trans (ixFrom_at ha x)
      have j0 : (0 : Int) ≤ (k : Int) := by omega
      have j1 : (k : Int) < (n : Int) := by omega
      clear ha
      by_cases he : x = a
      · have HL : Hid (decide (0 ≤ V) = true) := decide_eq_true (by have := hst.trans (if_pos he); omega)
        have he' : (a == x) = true := by simpa using he.symm
        clear hst he
        go_wp2_with fail
        go_ret
        exact ⟨by rw [HL.out]; rfl, rfl⟩
      · have HL := Lib.hid (hst.trans (if_neg he))
        have he' : (a == x) = false := by simpa using fun e => he e.symm
        clear hst he
        go_wp2_with fail
        go_roundg (n - (k + 1))
        case measure => omega
        case rel => exact ⟨k + 1, by omega, by go_num, HL, rfl⟩
    · obtain rfl : k = n := by omega
      have HZ : Hid (V = -1) := hno.out.trans (by rw [List.drop_of_length_le (by rw [← HN.out.1]; exact Nat.le_refl _)]; rfl)
      have HL : Hid (decide (0 ≤ V) = false) := decide_eq_false (by have := HZ.out; omega)
      go_wp2_with fail
      go_ret
      exact ⟨by rw [HL.out]; rfl, rfl⟩
theorem less_snoc (l : List Int) (a x : Int) : lessK (l ++ [a]) x = lessK l x ++ if a = x then [] else [a] := by
  unfold lessK
  rw [List.filter_append, List.filter_cons, List.filter_nil]
  by_cases h : a = x
  · rw [if_neg (by simpa using h), if_pos h]
  · rw [if_pos (by simpa using h), if_neg h]
set_option maxHeartbeats 2000000 in
/-- the reference's without -/
theorem without_any (l : List Int) (A : Option Addr) (n c : Nat) (x : Int) (w : World) (B : Nat) (hB : B ≤ w.heap.size) (h : RIn w B (.slice A n c) l) (hs : n ≤ 100000) :
    Calls Tryz.prog 76 #[.slice A n c, .int .i64 x] w (IntsR (lessK l x) w) := by
  obtain ⟨i0, hi, hq0, hq1, hq2⟩ := info_parts int_info
  have HN := Lib.hid h.len
  have H64 : Hid (∀ y ∈ l, I64 y) := fun y hy => h.i64 hy
  have H := Lib.hid h
  clear h
  go_enter Tryz.func76, Tryz.ntmps76
  go_wp2_with fail
  go_loopg [5, 10] n (fun gg s5 s10 wr => ∃ (k t : Nat) (v : Value), k + gg = n ∧ v = s5 ∧ s10 = .int .i64 (k : Int) ∧ Hid (t = (lessK (l.take k) x).length) ∧ Hid (wr.ownsRow w.heap.size 3 1 v t ((lessK (l.take k) x).map (Value.int .i64))) ∧ Hid (Below w.heap.size w wr))
  case atStart => exact ⟨0, 0, _, by omega, rfl, rfl, rfl, World.ownsRow_nil _ _ _ _, Below.refl _ _⟩
  case round =>
    obtain ⟨k, t, v, hkg, rfl, rfl, ht, hown, hbel⟩ := hrel
    obtain ⟨W1, rfl⟩ : ∃ W1, W1 = wr := ⟨_, rfl⟩
    have hzr : w.heap.size ≤ W1.heap.size := hbel.out.size
    have htk : t ≤ k := by
      have h1 := less_len (l.take k) x
      have h2 : (l.take k).length ≤ k := List.length_take_le _ _
      have := ht.out
      omega
    by_cases hk : k < n
    · obtain ⟨a, ha⟩ : ∃ a, l[k]? = some a := ⟨_, List.getElem?_eq_getElem (by have := HN.out.1; omega)⟩
      have HT : Hid (lessK (l.take (k + 1)) x = lessK (l.take k) x ++ if a = x then [] else [a]) := by
        show _ = _
        rw [List.take_add_one, ha]
        exact less_snoc _ _ _
      obtain ⟨b, off, rfl, hbb, g0⟩ := H.out.at_ ha
      have g0 := (hbel.out.cell (p := ⟨b, off + k, none⟩) (by show b < _; omega)).trans g0
      have j0 : (0 : Int) ≤ (k : Int) := by omega
      have j1 : (k : Int) < (n : Int) := by omega
      clear ha
      by_cases he : a = x
      · have he' : (a != x) = false := by simpa using he
        have HL : Hid (lessK (l.take (k + 1)) x = lessK (l.take k) x) := HT.out.trans (by rw [if_pos he, List.append_nil])
        clear he
        go_wp2_with fail
        go_roundg (n - (k + 1))
        case measure => omega
        case rel => exact ⟨k + 1, t, v, by omega, rfl, by go_num, by rw [HL.out]; exact ht, by rw [HL.out]; exact hown, hbel⟩
      · have he' : (a != x) = true := by simpa using he
        have HL : Hid (lessK (l.take (k + 1)) x = lessK (l.take k) x ++ [a]) := HT.out.trans (by rw [if_neg he])
        have hb1 : t + 1 ≤ maxLen := by unfold maxLen; omega
        have hb2 : (t + 1) * 8 ≤ 140737488355328 := by omega
        have HR1 : Hid (Reads (W1.alloc (.cells #[.int .i64 a] 3)) (W1.heap.size + 1) 1 (some ⟨W1.heap.size, 0, none⟩) 1 [.int .i64 a]) := Reads.blk (Blk.new _ _ _) rfl
        have hbase : w.heap.size ≤ (W1.alloc (.cells #[.int .i64 a] 3)).heap.size := by simp; omega
        have hone : ∀ u ∈ [Value.int .i64 a], u.oneCell' = true := ints_one [a]
        have HOW := Lib.hid (hown.out.alloc (.cells #[.int .i64 a] 3))
        have HBA := Lib.hid (hbel.out.alloc hzr (.cells #[.int .i64 a] 3))
        have HVB : Hid (∀ g, v.ownBlock = some g → w.heap.size ≤ g) := fun g hg => (own_block_lt hown.out g hg).1
        clear he
        go_wp2_with (at_builtin; refine wpList_append_any _ rfl _ _ 34 rfl w.heap.size 3 i0 (.int .i64 0) 1 8 Tryz.underlying34 hi hq0 hq1 hq2 rfl (by decide) v t _ rfl HOW.out _ _ 1 1 _ rfl HR1.out hone hb1 hb2 hbase ?_)
        intro v2 w2 hown2 hg2 hat2
        have HO2 : Hid (w2.ownsRow w.heap.size 3 1 v2 (t + 1) ((lessK (l.take (k + 1)) x).map (Value.int .i64))) := by rw [HL.out, List.map_append]; exact hown2
        have HB2 : Hid (Below w.heap.size w w2) := HBA.out.grown hg2 (Nat.le_trans hzr (by simp)) (fun g hg => HVB.out g hg)
        have HT2 : Hid (t + 1 = (lessK (l.take (k + 1)) x).length) := by show _ = _; rw [HL.out, List.length_append, ← ht.out]; rfl
        clear hown2 hg2 hat2
        go_wp2_with fail
        go_roundg (n - (k + 1))
        case measure => omega
        case rel => exact ⟨k + 1, t + 1, v2, by omega, rfl, by go_num, HT2, HO2, HB2⟩
    · obtain rfl : n = k := by omega
      have HF : Hid (IntsR (lessK l x) w (.returned v) W1) := by
        show IntsR _ _ _ _
        have e : l.take n = l := List.take_of_length_le (by rw [← HN.out.1]; exact Nat.le_refl _)
        have h1 := hown.out
        have h2 := ht.out
        rw [e] at h1 h2
        exact IntsR.of_own h1 h2 (by omega) (fun y hy => H64.out y ((less_mem _ _ _).1 hy).1) hbel.out
      go_wp2_with fail
      go_ret
      exact HF.out
end Go.Proofs.YtmkicfjcgbfaaaaGreat
namespace Go.Proofs.YtmkicfjcgbfaaaaGreat
open Go.RowKit

theorem ix_sub {L : List Int} (hn : L.Nodup) {a b : Int} (h : [a, b].Sublist L) : ixOf L a < ixOf L b := by
  have hne : a ≠ b := fun e => by
    have := h.nodup hn
    rw [e] at this
    simp at this
  rcases ixOf_spec L b with ⟨_, hb⟩ | ⟨j, hj, hbj, _⟩
  · exact absurd (h.subset (by simp)) hb
  rcases ixOf_spec L a with ⟨hi, ha⟩ | ⟨i, hi, hai, hat⟩
  · exact absurd (h.subset (by simp)) ha
  rw [hi, hj]
  refine Int.ofNat_lt.2 (Nat.lt_of_not_le fun hle => ?_)
  -- b at j, a at i, j ≤ i: then [a, b] is no part
  obtain ⟨hjl, e1⟩ := List.getElem?_eq_some_iff.1 hbj
  obtain ⟨hil, e2⟩ := List.getElem?_eq_some_iff.1 hai
  have hlt : j < i := Nat.lt_of_le_of_ne hle fun e => by
    subst e
    rw [e1] at e2
    exact hne e2.symm
  have hsplit : L = L.take i ++ a :: L.drop (i + 1) := by
    conv => lhs; rw [← List.take_append_drop i L, List.drop_eq_getElem_cons hil, e2]
  have hbt : b ∈ L.take i := List.mem_iff_getElem?.2 ⟨j, by rw [List.getElem?_take, if_pos hlt]; exact hbj⟩
  rw [hsplit] at h hn
  have hbd : b ∉ L.drop (i + 1) := fun hb => by
    have := (List.nodup_append.1 hn).2.2 b hbt b (List.mem_cons_of_mem _ hb)
    exact this rfl
  -- a is not in the part ahead: so b stands behind a
  have key : ∀ {P Q : List Int}, a ∉ P → [a, b].Sublist (P ++ a :: Q) → b ∈ Q ∨ b = a := by
    intro P
    induction P with
    | nil =>
      intro Q _ h
      cases h with
      | cons _ h => exact .inl (h.subset (by simp))
      | cons_cons _ h => exact .inl (h.subset (by simp))
    | cons p P ih =>
      intro Q hp h
      rw [List.cons_append] at h
      cases h with
      | cons _ h => exact ih (fun e => hp (List.mem_cons_of_mem _ e)) h
      | cons_cons _ h => exact absurd (List.mem_cons_self) hp
  rcases key hat h with h | h
  · exact hbd h
  · exact hne h.symm
theorem Good.pos_at {l : List Bl} {f : Int → Option Int} (G : Good l f) {x : Bl} (hx : x ∈ l) : ∃ k : Nat, posOf l x.id = (k : Int) ∧ l[k]? = some x := by
  obtain ⟨k, hk⟩ := List.mem_iff_getElem?.1 hx
  exact ⟨k, posOf_of G.kids.rise hk, hk⟩
end Go.Proofs.YtmkicfjcgbfaaaaGreat
namespace Go.Proofs.YtmkicfjcgbfaaaaGreat
open Go.RowKit

def bZ : Value := .agg #[.int .i64 0, .int .i64 0, .slice none 0 0, .string ⟨#[]⟩, .slice none 0 0]
theorem block_info : (Tryz.prog.info? 38).map (fun i => (i.zero, i.size, i.bytes)) = some (some bZ, 5, 80) := by kernel_rfl
abbrev BK := Bl × Value × Value
/-- blocks in block g, with room for cap -/
structure RowB (w : World) (g cap : Nat) (M : List BK) : Prop where
  row : ∃ sp : List Value, Blk w g 38 (M.flatMap blV ++ sp).toArray ∧ M.length * 5 + sp.length = cap * 5
  room : cap ≤ maxLen
  few : M.length ≤ 100000
  nest : ∀ x ∈ M, NB w (fun b => b < w.heap.size ∧ b ≠ g) x
theorem fmB_len (M : List BK) : (M.flatMap blV).length = M.length * 5 := by
  induction M with
  | nil => rfl
  | cons a M ih => rw [List.flatMap_cons, List.length_append, ih, List.length_cons, blV_len]; omega
theorem szB (M : List BK) (sp : List Value) : (M.flatMap blV ++ sp).toArray.size = M.length * 5 + sp.length := by rw [List.size_toArray, List.length_append, fmB_len]
theorem fmB_set : ∀ (M : List BK) (k j : Nat) (x y : BK) (u : Value), M[k]? = some x → j < 5 → blV y = (blV x).set j u → (M.flatMap blV).set (k * 5 + j) u = (M.set k y).flatMap blV
  | [], k, j, x, y, u, h, _, _ => by simp at h
  | a :: M, 0, j, x, y, u, h, hj, e => by
    obtain rfl : a = x := by simpa using h
    rw [List.set_cons_zero, List.flatMap_cons, List.flatMap_cons, Nat.zero_mul, Nat.zero_add, List.set_append_left _ _ (by rw [blV_len]; exact hj), e]
  | a :: M, k + 1, j, x, y, u, h, hj, e => by
    rw [List.set_cons_succ, List.flatMap_cons, List.flatMap_cons, List.set_append_right _ _ (by rw [blV_len]; omega), blV_len, show (k + 1) * 5 + j - 5 = k * 5 + j by omega, fmB_set M k j x y u (by simpa using h) hj e]
section
variable {w w' : World} {g cap : Nat} {M : List BK}
theorem RowB.lt (h : RowB w g cap M) : g < w.heap.size := by
  obtain ⟨sp, h1, _⟩ := h.row
  exact h1.lt
theorem RowB.len (h : RowB w g cap M) : M.length ≤ cap := by
  obtain ⟨sp, _, h2⟩ := h.row
  omega
theorem RowB.below (h : RowB w g cap M) (hb : Below w.heap.size w w') : RowB w' g cap M := by
  obtain ⟨sp, h1, h2⟩ := h.row
  exact ⟨⟨sp, h1.below hb h1.lt, h2⟩, h.room, h.few, fun x hx => NB_ok _ _ _ _ x (h.nest x hx) (fun p hp => hb.cell hp.1) fun b hb' => ⟨Nat.lt_of_lt_of_le hb'.1 hb.size, hb'.2⟩⟩
theorem RowB.frozen (h : RowB w g cap M) (i : Nat) : w.frozen? ⟨g, i, none⟩ = false := by
  obtain ⟨sp, h1, _⟩ := h.row
  exact h1.frozen i
theorem RowB.some_ (h : RowB w g cap M) {i : Nat} (hi : i < cap * 5) : (w.cell? ⟨g, i, none⟩).isSome = true := by
  obtain ⟨sp, h1, h2⟩ := h.row
  rw [h1.cell, Array.getElem?_eq_getElem (by rw [szB]; omega)]; rfl
theorem RowB.shape (h : RowB w g cap M) : w.shape? g = some (38, cap * 5) := by
  obtain ⟨sp, h1, h2⟩ := h.row
  unfold Blk at h1
  unfold World.shape?
  rw [h1]
  show some (_, _) = _
  rw [szB, h2]
theorem RowB.cells (h : RowB w g cap M) {j : Nat} {u : Value} (hu : (M.flatMap blV)[j]? = some u) : w.cell? ⟨g, j, none⟩ = some u := by
  obtain ⟨sp, h1, h2⟩ := h.row
  have hj := (List.getElem?_eq_some_iff.1 hu).1
  rw [h1.cell, List.getElem?_toArray, List.getElem?_append_left hj, hu]
theorem RowB.cell (h : RowB w g cap M) {k : Nat} {x : BK} (hx : M[k]? = some x) {i : Nat} {u : Value} (hu : (blV x)[i]? = some u) : w.cell? ⟨g, k * 5 + i, none⟩ = some u := by
  refine h.cells ?_
  have hi := (List.getElem?_eq_some_iff.1 hu).1
  rw [blV_len] at hi
  rw [fm_get blV 5 blV_len M k i x hx hi, hu]
theorem RowB.reads (h : RowB w g cap M) : Reads w w.heap.size 5 (some ⟨g, 0, none⟩) M.length (M.flatMap blV) :=
  ⟨fmB_len M, fun _ => ⟨_, rfl, h.lt, fun j u hu => by rw [Addr.add_lit, Nat.zero_add]; exact h.cells hu⟩⟩
/-- read as a base -/
theorem RowB.rb (h : RowB w g cap M) : RB w w.heap.size (.slice (some ⟨g, 0, none⟩) M.length cap) (M.map Prod.fst) :=
  ⟨_, _, _, M, rfl, rfl, rfl, ⟨h.len, by have := h.few; omega⟩, h.reads, fun x hx => ⟨(h.nest x hx).1.reads fun b hb => hb.1, (h.nest x hx).2.reads fun b hb => hb.1⟩⟩
/-- a field is stored -/
theorem RowB.store (h : RowB w g cap M) {k j : Nat} {x y : BK} {u : Value} (hx : M[k]? = some x) (hj : j < 5) (he : blV y = (blV x).set j u) (hn : NB w (fun b => b < w.heap.size ∧ b ≠ g) y) : RowB (w.setCell ⟨g, k * 5 + j, none⟩ u) g cap (M.set k y) := by
  obtain ⟨sp, h1, h2⟩ := h.row
  have hk := (List.getElem?_eq_some_iff.1 hx).1
  have hsz : (w.setCell ⟨g, k * 5 + j, none⟩ u).heap.size = w.heap.size := by simp [World.setCell]
  have hkeep : ∀ p : Addr, p.block < w.heap.size ∧ p.block ≠ g → (w.setCell ⟨g, k * 5 + j, none⟩ u).cell? p = w.cell? p := fun p hp => World.cell?_setCell_other _ _ p _ (by intro e; subst e; exact hp.2 rfl)
  refine ⟨⟨sp, ?_, by rw [List.length_set]; exact h2⟩, h.room, by rw [List.length_set]; exact h.few, fun z hz => ?_⟩
  · have := h1.set_ (k * 5 + j) u
    rw [List.setIfInBounds_toArray, List.set_append_left _ _ (by rw [fmB_len]; omega), fmB_set M k j x y u hx hj he] at this
    exact this
  · rw [hsz]
    rcases List.mem_or_eq_of_mem_set hz with hz | rfl
    · exact NB_ok _ _ _ _ z (h.nest z hz) hkeep fun b hb => hb
    · exact NB_ok _ _ _ _ z hn hkeep fun b hb => hb
/-- a whole row anew -/
theorem RowB.setRow (h : RowB w g cap M) {M' : List BK} {sp : List Value} (hl : M'.length * 5 + sp.length = cap * 5) (hf : M'.length ≤ 100000) (hn : ∀ x ∈ M', NB w (fun b => b < w.heap.size ∧ b ≠ g) x) : RowB (w.setRow g (M'.flatMap blV ++ sp).toArray) g cap M' := by
  obtain ⟨sp0, h1, h2⟩ := h.row
  have hkeep : ∀ p : Addr, p.block < w.heap.size ∧ p.block ≠ g → (w.setRow g (M'.flatMap blV ++ sp).toArray).cell? p = w.cell? p := fun p hp => cell_setRow_other _ _ _ _ hp.2
  exact ⟨⟨sp, setRow_heap w g _ _ _ _ h1, hl⟩, h.room, hf, fun x hx => by rw [setRow_size]; exact NB_ok _ _ _ _ x (hn x hx) hkeep fun b hb => hb⟩
/-- a row of the call's own, as the append's law has it -/
theorem RowB.own (h : RowB w g cap M) {base : Nat} (hb : base ≤ g) : w.ownsRow base 38 5 (.slice (some ⟨g, 0, none⟩) M.length cap) M.length (M.flatMap blV) := by
  obtain ⟨sp, h1, h2⟩ := h.row
  refine ⟨fmB_len M, .inr ⟨g, cap, _, rfl, hb, h1, h.len, h.room, by rw [szB, h2], ?_⟩⟩
  rw [List.toList_toArray, List.take_append_of_le_length (by rw [fmB_len]; exact Nat.le_refl _), List.take_of_length_le (by rw [fmB_len]; exact Nat.le_refl _)]
theorem RowB.of_own {base : Nat} {v : Value} (h : w.ownsRow base 38 5 v M.length (M.flatMap blV)) (h0 : 0 < M.length) (hf : M.length ≤ 100000) (hn : ∀ x ∈ M, NB w (fun b => b < w.heap.size ∧ v.ownBlock ≠ some b) x) : ∃ g cap, v = .slice (some ⟨g, 0, none⟩) M.length cap ∧ base ≤ g ∧ RowB w g cap M := by
  rcases h.2 with ⟨_, h1⟩ | ⟨g, cap, cur, rfl, hb, hh, hl, hm, hs, ht⟩
  · omega
  · refine ⟨g, cap, rfl, hb, ⟨⟨cur.toList.drop (M.length * 5), ?_, by
      have e : cur.toList.length = cap * 5 := by rw [Array.length_toList]; exact hs
      rw [List.length_drop, e]; omega⟩, hm, hf, fun x hx => NB_ok _ _ _ _ x (hn x hx) (fun _ _ => rfl) fun b hb => ⟨hb.1, fun e => hb.2 (by rw [e]; rfl)⟩⟩⟩
    show w.heap[g]? = _
    rw [hh, ← ht, List.take_append_drop]
end

/-- copy between rows whose elements take more than one cell -/
theorem run_copy_rowN {P : Program} (w : World) (dT sT ty elem : TypeId) (g o dLen dCap : Nat) (a : Addr) (sLen sCap size : Nat) (cur : Array Value) (t : TypeId) (cs : List Value)
    (hu : P.underlying dT = some (.slice elem)) (hs : (P.info? elem).map (·.size) = some size)
    (hg : w.heap[g]? = some (.cells cur t (0, 0))) (hn : cs.length = Nat.min sLen dLen * size)
    (hsrc : ∀ j v, cs[j]? = some v → w.cell? (a.add j) = some v) (hfit : o + cs.length ≤ cur.size) (h1 : ∀ v ∈ cs, v.oneCell' = true) :
    (Builtin.copy_ #[dT, sT] ty #[.slice (some ⟨g, o, none⟩) dLen dCap, .slice (some a) sLen sCap]).run P w =
      .ok (goInt (Nat.min sLen dLen)) (w.setRow g (cur.toList.take o ++ cs ++ cur.toList.drop (o + cs.length)).toArray) := by
  have hl := run_loadCells_list (P := P) w a cs hsrc
  have hst := run_storeCells_at P g o t cs 0 cur w hg (by simpa using hfit) h1
  cases hq : P.info? elem with
  | none => simp [hq] at hs
  | some i =>
    have hi : i.size = size := by simpa [hq] using hs
    simp [Builtin.copy_, run_underlying hu, Builtin.lenOf, Builtin.firstCells, sizeOf, typeInfo, hq, hi, ← hn, hl, hst]
end Go.Proofs.YtmkicfjcgbfaaaaGreat
