/-
  DERIVED. The walks of tree.Pages, Order, NextId, Empty and the reference's NextOf. Conditions: sizes. By an AI agent.
-/
import Derived.Test.YtbkhnfdfdgdfkaaBsTop2
namespace Go.Proofs.Ytbkhnfdfdgdfkaa
open Go.RowKit

def kids0 (l : List Bl) : List Int := match l[0]? with | some x => x.kids | none => []
def pagesL (l : List Bl) (f : Int → Option Int) : List Int := if baseE l f = 0 then kids0 l else []
def orderL (l : List Bl) (f : Int → Option Int) : List Int := if baseE l f = 0 then ord l 41 0 else []
def lastId (l : List Bl) : Int := match l[l.length - 1]? with | some x => x.id | none => 0
def nextP (l : List Bl) : Int := if 1000000 < lastId l + 1 then -1 else lastId l + 1
def nextV (l : List Bl) (f : Int → Option Int) : Int := if baseE l f = 0 then nextP l else -1
/-- ints that are returned -/
def Ints1 (L : List Int) (w : World) (e : Ending) (w' : World) : Prop := (∃ A n c, e = .returned (.slice A n c) ∧ RInX w' (fun b => w.heap.size ≤ b ∧ b < w'.heap.size) (.slice A n c) L) ∧ Below w.heap.size w w'

set_option maxHeartbeats 1000000 in
theorem pages_any (l : List Bl) (f : Int → Option Int) (A : Option Addr) (n c : Nat) (w : World) (B : Nat) (hB : B ≤ w.heap.size) (h : RB w B (.slice A n c) l) (hf : DepOk l f) :
    Calls Try.prog 17 #[.slice A n c] w (Ints1 (pagesL l f) w) := by
  have HC := treeCheck_any l f A n c w B hB h hf
  obtain ⟨V, hV⟩ : ∃ V, V = pagesL l f := ⟨_, rfl⟩
  rw [← hV]
  unfold pagesL at hV
  have HG : Hid (baseE l f = 0 → 0 < l.length) := fun h0 => by
    obtain ⟨r, hr, _⟩ := (good_of h0 hf).kids.root
    exact (List.getElem?_eq_some_iff.1 hr).1
  obtain ⟨E, hE⟩ : ∃ E, E = baseE l f := ⟨_, rfl⟩
  rw [← hE] at HC hV HG
  have HC := Lib.hid HC
  by_cases h0 : E = 0
  · rw [if_pos h0] at hV
    have hl := HG.out h0
    obtain ⟨x, hx⟩ : ∃ x, l[0]? = some x := ⟨_, List.getElem?_eq_getElem hl⟩
    have hk : kids0 l = x.kids := by unfold kids0; rw [hx]
    rw [hk] at hV
    have hn0 : 0 < n := by have := h.len.1; omega
    obtain ⟨b, off, Ak, nk, ck, Ap, np, cp, rfl, hbb, g0, g1, g2, g3, g4, hK, _⟩ := h.at_ hx
    rw [Nat.zero_mul, Nat.add_zero] at g2
    have HCK := Lib.hid fun W (hW : Below w.heap.size w W) => cloneI_any Ak nk ck x.kids W B (hK.below (hW.mono hB))
    have hn0' : (0 : Int) < (n : Int) := by omega
    subst h0
    have HV := Lib.hid hV
    clear h hf hE hV hl hx hk hK g0 g1 g3 g4
    go_enter Try.func17, Try.ntmps17
    go_wp2_with fail
    refine HC.out.mono ?_
    rintro e w1 ⟨rfl, hb1⟩
    have HB1 := Lib.hid hb1
    have g2 := (hb1.cell (p := ⟨b, off + 2, none⟩) (by show b < _; omega)).trans g2
    have HX := Lib.hid (HCK.out w1 hb1)
    have hz1 := hb1.size
    clear hb1
    go_wp2_with fail
    refine HX.out.mono ?_
    rintro e w2 ⟨⟨A', n', c', rfl, hr0, _, hr, hcc⟩, hb2⟩
    rw [← HV.out] at hr
    have HCL := Lib.hid (clipI_any A' n' c' w2 hcc hr0)
    have HB2 : Hid (Below w.heap.size w w2) := HB1.out.trans (hb2.mono hz1)
    have HR := Lib.hid (hr.weak (S' := fun b => w.heap.size ≤ b ∧ b < w2.heap.size) fun b hb => ⟨by omega, hb.2⟩)
    clear hb2 hr hr0 hcc
    go_wp2_with fail
    refine HCL.out.mono ?_
    rintro e w3 ⟨rfl, rfl⟩
    go_wp2_with fail
    go_ret
    exact ⟨⟨_, _, _, rfl, HR.out⟩, HB2.out⟩
  · rw [if_neg h0] at hV
    have h0' : (E != 0) = true := by simpa using h0
    have HV := Lib.hid hV
    clear h hf hE hV h0
    go_enter Try.func17, Try.ntmps17
    go_wp2_with fail
    refine HC.out.mono ?_
    rintro e w1 ⟨rfl, hb1⟩
    have HB1 := Lib.hid hb1
    clear hb1
    go_wp2_with fail
    go_ret
    exact ⟨⟨_, _, _, rfl, by rw [HV.out]; exact RInX.nil _ _⟩, HB1.out⟩
set_option maxHeartbeats 1000000 in
theorem order_any (l : List Bl) (f : Int → Option Int) (A : Option Addr) (n c : Nat) (w : World) (B : Nat) (hB : B ≤ w.heap.size) (h : RB w B (.slice A n c) l) (hf : DepOk l f) :
    Calls Try.prog 18 #[.slice A n c] w (Ints1 (orderL l f) w) := by
  have HC := treeCheck_any l f A n c w B hB h hf
  obtain ⟨V, hV⟩ : ∃ V, V = orderL l f := ⟨_, rfl⟩
  rw [← hV]
  unfold orderL at hV
  have HP : Hid (baseE l f = 0 → ∀ W, Below w.heap.size w W → Calls Try.prog 44 #[.slice A n c, .int .i64 0] W (IntsR (ord l 41 0) W)) := fun h0 W hW => by
    have G := good_of h0 hf
    exact treeBelow_any l G.kids G.low' A n c B 41 0 0 W .root (by omega) (Nat.le_trans hB hW.size) (h.below (hW.mono hB))
  obtain ⟨E, hE⟩ : ∃ E, E = baseE l f := ⟨_, rfl⟩
  rw [← hE] at HC hV HP
  have HC := Lib.hid HC
  clear h hf hE
  by_cases h0 : E = 0
  · rw [if_pos h0] at hV
    have HP' := Lib.hid (HP.out h0)
    subst h0
    have HV := Lib.hid hV
    clear hV
    go_enter Try.func18, Try.ntmps18
    go_wp2_with fail
    refine HC.out.mono ?_
    rintro e w1 ⟨rfl, hb1⟩
    have HB1 := Lib.hid hb1
    have HX := Lib.hid (HP'.out w1 hb1)
    have hz1 := hb1.size
    clear hb1
    go_wp2_with fail
    refine HX.out.mono ?_
    rintro e w2 ⟨⟨A', n', c', rfl, hr0, _, hr, hcc⟩, hb2⟩
    rw [← HV.out] at hr
    have HCL := Lib.hid (clipI_any A' n' c' w2 hcc hr0)
    have HB2 : Hid (Below w.heap.size w w2) := HB1.out.trans (hb2.mono hz1)
    have HR := Lib.hid (hr.weak (S' := fun b => w.heap.size ≤ b ∧ b < w2.heap.size) fun b hb => ⟨by omega, hb.2⟩)
    clear hb2 hr hr0 hcc
    go_wp2_with fail
    refine HCL.out.mono ?_
    rintro e w3 ⟨rfl, rfl⟩
    go_wp2_with fail
    go_ret
    exact ⟨⟨_, _, _, rfl, HR.out⟩, HB2.out⟩
  · rw [if_neg h0] at hV
    have h0' : (E != 0) = true := by simpa using h0
    have HV := Lib.hid hV
    clear HP h0 hV
    go_enter Try.func18, Try.ntmps18
    go_wp2_with fail
    refine HC.out.mono ?_
    rintro e w1 ⟨rfl, hb1⟩
    have HB1 := Lib.hid hb1
    clear hb1
    go_wp2_with fail
    go_ret
    exact ⟨⟨_, _, _, rfl, by rw [HV.out]; exact RInX.nil _ _⟩, HB1.out⟩

set_option maxHeartbeats 1000000 in
theorem nextId_any (l : List Bl) (A : Option Addr) (n c : Nat) (w : World) (B : Nat) (h : RB w B (.slice A n c) l) (hl : 0 < l.length) (hi : IdsIn l) :
    Calls Try.prog 47 #[.slice A n c] w fun e w' => e = .returned (.int .i64 (nextP l)) ∧ w' = w := by
  have hn := h.len
  obtain ⟨x, hx⟩ : ∃ x, l[l.length - 1]? = some x := ⟨_, List.getElem?_eq_getElem (by omega)⟩
  obtain ⟨b, off, Ak, nk, ck, Ap, np, cp, rfl, hbb, g0, _⟩ := h.at_ hx
  have hxi := hi x (List.mem_of_getElem? hx)
  have hla : lastId l = x.id := by unfold lastId; rw [hx]
  obtain ⟨V, hV⟩ : ∃ V, V = nextP l := ⟨_, rfl⟩
  rw [← hV]
  unfold nextP at hV
  rw [hla] at hV
  obtain ⟨q, hq⟩ : ∃ q : Nat, n = q + 1 := ⟨n - 1, by omega⟩
  have e : l.length - 1 = q := by omega
  rw [e] at g0
  have hq0 : (0 : Int) ≤ (q : Int) := by omega
  have hq1 : (q : Int) < (n : Int) := by omega
  have HQ : Hid (((n : Int) - 1) = (q : Int)) := by show _ = _; omega
  have hn1 : (1 : Int) ≤ (n : Int) := by omega
  have hnb : n * 80 ≤ 140737488351232 := hn.2.2
  have i0 : 0 ≤ x.id := hxi.1
  have i1 : x.id ≤ 1000000 := hxi.2
  clear h hl hi hn hx hla hq e hxi
  have hq' := HQ.out
  by_cases hb : 1000000 < x.id + 1
  · rw [if_pos hb] at hV
    subst hV
    go_enter Try.func47, Try.ntmps47
    go_wp2_with fail
    go_ret
    exact ⟨rfl, rfl⟩
  · rw [if_neg hb] at hV
    have HV := Lib.hid hV
    clear hV
    go_enter Try.func47, Try.ntmps47
    go_wp2_with fail
    go_ret
    exact ⟨by rw [HV.out]; rfl, rfl⟩
set_option maxHeartbeats 1000000 in
theorem nextOf_any (l : List Bl) (A : Option Addr) (n c : Nat) (w : World) (B : Nat) (h : RB w B (.slice A n c) l) (hl : 0 < l.length) (hi : IdsIn l) :
    Calls Try.prog 22 #[.slice A n c] w fun e w' => e = .returned (.int .i64 (nextP l)) ∧ w' = w := by
  have hn := h.len
  obtain ⟨x, hx⟩ : ∃ x, l[l.length - 1]? = some x := ⟨_, List.getElem?_eq_getElem (by omega)⟩
  obtain ⟨b, off, Ak, nk, ck, Ap, np, cp, rfl, hbb, g0, _⟩ := h.at_ hx
  have hxi := hi x (List.mem_of_getElem? hx)
  have hla : lastId l = x.id := by unfold lastId; rw [hx]
  obtain ⟨V, hV⟩ : ∃ V, V = nextP l := ⟨_, rfl⟩
  rw [← hV]
  unfold nextP at hV
  rw [hla] at hV
  obtain ⟨q, hq⟩ : ∃ q : Nat, n = q + 1 := ⟨n - 1, by omega⟩
  have e : l.length - 1 = q := by omega
  rw [e] at g0
  have hq0 : (0 : Int) ≤ (q : Int) := by omega
  have hq1 : (q : Int) < (n : Int) := by omega
  have HQ : Hid (((n : Int) - 1) = (q : Int)) := by show _ = _; omega
  have hn1 : (1 : Int) ≤ (n : Int) := by omega
  have hnb : n * 80 ≤ 140737488351232 := hn.2.2
  have i0 : 0 ≤ x.id := hxi.1
  have i1 : x.id ≤ 1000000 := hxi.2
  clear h hl hi hn hx hla hq e hxi
  have hq' := HQ.out
  by_cases hb : 1000000 < x.id + 1
  · rw [if_pos hb] at hV
    subst hV
    go_enter Try.func22, Try.ntmps22
    go_wp2_with fail
    go_ret
    exact ⟨rfl, rfl⟩
  · rw [if_neg hb] at hV
    have HV := Lib.hid hV
    clear hV
    go_enter Try.func22, Try.ntmps22
    go_wp2_with fail
    go_ret
    exact ⟨by rw [HV.out]; rfl, rfl⟩
set_option maxHeartbeats 1000000 in
theorem nextId2_any (l : List Bl) (f : Int → Option Int) (A : Option Addr) (n c : Nat) (w : World) (B : Nat) (hB : B ≤ w.heap.size) (h : RB w B (.slice A n c) l) (hf : DepOk l f) :
    Calls Try.prog 19 #[.slice A n c] w fun e w' => e = .returned (.int .i64 (nextV l f)) ∧ Below w.heap.size w w' := by
  have HC := treeCheck_any l f A n c w B hB h hf
  obtain ⟨V, hV⟩ : ∃ V, V = nextV l f := ⟨_, rfl⟩
  rw [← hV]
  unfold nextV at hV
  have HP : Hid (baseE l f = 0 → ∀ W, Below w.heap.size w W → Calls Try.prog 47 #[.slice A n c] W _) := fun h0 W hW => by
    have G := good_of h0 hf
    obtain ⟨r, hr, _⟩ := G.kids.root
    exact nextId_any l A n c W B (h.below (hW.mono hB)) (List.getElem?_eq_some_iff.1 hr).1 G.kids.ids
  obtain ⟨E, hE⟩ : ∃ E, E = baseE l f := ⟨_, rfl⟩
  rw [← hE] at HC hV HP
  have HC := Lib.hid HC
  clear h hf hE
  by_cases h0 : E = 0
  · rw [if_pos h0] at hV
    have HP' := Lib.hid (HP.out h0)
    subst h0
    have HV := Lib.hid hV
    clear hV
    go_enter Try.func19, Try.ntmps19
    go_wp2_with fail
    refine HC.out.mono ?_
    rintro e w1 ⟨rfl, hb1⟩
    have HB1 := Lib.hid hb1
    have HX := Lib.hid (HP'.out w1 hb1)
    clear hb1
    go_wp2_with fail
    refine HX.out.mono ?_
    rintro e w2 ⟨rfl, rfl⟩
    go_wp2_with fail
    go_ret
    exact ⟨by rw [HV.out]; rfl, HB1.out⟩
  · rw [if_neg h0] at hV
    have h0' : (E != 0) = true := by simpa using h0
    subst hV
    clear HP h0
    go_enter Try.func19, Try.ntmps19
    go_wp2_with fail
    refine HC.out.mono ?_
    rintro e w1 ⟨rfl, hb1⟩
    have HB1 := Lib.hid hb1
    clear hb1
    go_wp2_with fail
    go_ret
    exact ⟨rfl, HB1.out⟩
/-- the base of the root alone in a row -/
theorem empty_row (w : World) : RB (w.alloc (.cells #[.int .i64 0, .int .i64 0, .slice none 0 0, .string ⟨#[]⟩, .slice none 0 0] 30)) (w.heap.size + 1) (.slice (some ⟨w.heap.size, 0, none⟩) 1 1) [zB] :=
  ⟨some ⟨w.heap.size, 0, none⟩, 1, 1, [(zB, .slice none 0 0, .slice none 0 0)], rfl, rfl, rfl, ⟨Nat.le_refl _, by omega⟩, Reads.blk (Blk.new w 30 _) rfl, fun x hx => by
    obtain rfl : x = (zB, Value.slice none 0 0, Value.slice none 0 0) := by simpa using hx
    exact ⟨(RInX.nil w (fun _ => True)).imp fun _ h => by
      obtain ⟨n, c, h⟩ := h
      exact ⟨n, c, h.1, h.2.1, h.2.2.1, ⟨h.2.2.2.1.1, fun hn => absurd hn (by rw [h.2.1]; simp [zB])⟩, h.2.2.2.2⟩, ⟨none, 0, 0, [], rfl, rfl, rfl, ⟨Nat.le_refl _, by omega⟩, ⟨rfl, fun h => absurd h (by omega)⟩, fun x hx => by cases hx⟩⟩⟩
set_option maxHeartbeats 400000 in
theorem empty_any (w : World) :
    Calls Try.prog 8 #[] w fun e w' => e = .returned (.slice (some ⟨w.heap.size, 0, none⟩) 1 1) ∧ w' = w.alloc (.cells #[.int .i64 0, .int .i64 0, .slice none 0 0, .string ⟨#[]⟩, .slice none 0 0] 30) := by
  go_enter Try.func8, Try.ntmps8
  go_wp2_with fail
  go_ret
  exact ⟨rfl, rfl⟩
end Go.Proofs.Ytbkhnfdfdgdfkaa
