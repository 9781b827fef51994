/-
  DERIVED. Operations on a base in memory; the walk of tree.noValue. Conditions: sizes.
  An operation stored whole in a block of the call's own. Conditions: none.
  The walk of the reference's used. Conditions: sizes.
  The contract of the iterator that slices.Backward hands back, over ids of a base. Conditions: sizes.
  Properties sorted by their names behind an append: what prop.with makes. Conditions: none.
  An append of one property to a row of the call's own that has room. Conditions: sizes.
  The walk of the reference's setProp. Conditions: sizes; the properties are right.
  By an AI agent.
-/
import Derived.Test.YtmkicfjcgbfaaaaGreatDoorTc25
import Derived.Test.YtmkicfjcgbfaaaaGreatDoorTc10
import Derived.Test.YtmkicfjcgbfaaaaGreatDoorTc08
import Derived.Test.YtmkicfjcgbfaaaaGreatDoorChecked
import Derived.Test.YtmkicfjcgbfaaaaGreatDoorTc19
import Derived.Deep.DeepCutAuto
import Derived.RangeFuncNested
import Derived.RangeFuncBound
import Derived.RangeFuncCalls
import Derived.RangeFuncLeaves
import Derived.RangeFuncBox
import Derived.Shelf.Abstract
import Derived.Shelf.RegionOpen
import Derived.WalkKit
import Derived.OwnWalkIn
import Derived.TacticsInMore
import Derived.LoopNIn
import Derived.LoopIn
import Derived.Test.YtmkicfjcgbfaaaaGreatDoorTc26
namespace Go.Proofs.YtmkicfjcgbfaaaaGreatDoor
open Go.RowKit

/-- thirteen cells: an operation, its value's items told apart -/
def opV (x : Opn × Value) : List Value := [.int .i64 x.1.kind, .int .i64 x.1.id, .int .i64 x.1.parent, .int .i64 x.1.at_, .int .i64 x.1.from_, .int .i64 x.1.to_, .string x.1.text, .string x.1.name, .int .i64 x.1.val.kind, .int .i64 x.1.val.int_, .int .i64 x.1.val.to_, .string x.1.val.text, x.2]
theorem opV_len (x : Opn × Value) : (opV x).length = 13 := rfl
/-- an operation as an aggregate -/
def AO (x : Opn × Value) : Value := .agg #[.int .i64 x.1.kind, .int .i64 x.1.id, .int .i64 x.1.parent, .int .i64 x.1.at_, .int .i64 x.1.from_, .int .i64 x.1.to_, .string x.1.text, .string x.1.name, .int .i64 x.1.val.kind, .int .i64 x.1.val.int_, .int .i64 x.1.val.to_, .string x.1.val.text, x.2]
/-- numbers that an int holds -/
def OI (o : Opn) : Prop := I64 o.id ∧ I64 o.parent ∧ I64 o.at_ ∧ I64 o.from_ ∧ I64 o.to_ ∧ o.text.size ≤ 140737488351232
/-- a list of operations in memory -/
def ROs (W : World) (B : Nat) (v : Value) (l : List Opn) : Prop := ∃ A n c, ∃ M : List (Opn × Value), M.map Prod.fst = l ∧ v = .slice A n c ∧ n = M.length ∧ (n ≤ c ∧ n * 144 ≤ 140737488351232) ∧ Reads W B 13 A n (M.flatMap opV) ∧ ∀ x ∈ M, RV W B x.2 x.1.val.items ∧ OI x.1
theorem ROs.below {W W' : World} {B : Nat} {v : Value} {l : List Opn} (h : ROs W B v l) (hb : Below B W W') : ROs W' B v l := by
  obtain ⟨A, n, c, M, h1, h2, h3, h4, h5, h6⟩ := h
  exact ⟨A, n, c, M, h1, h2, h3, h4, h5.below hb, fun x hx => ⟨(h6 x hx).1.below hb, (h6 x hx).2⟩⟩
theorem ROs.more {W : World} {B B' : Nat} {v : Value} {l : List Opn} (h : ROs W B v l) (hB : B ≤ B') : ROs W B' v l := by
  obtain ⟨A, n, c, M, h1, h2, h3, h4, h5, h6⟩ := h
  exact ⟨A, n, c, M, h1, h2, h3, h4, h5.more hB, fun x hx => ⟨(h6 x hx).1.more hB, (h6 x hx).2⟩⟩
theorem ROs.len {W : World} {B n c : Nat} {A : Option Addr} {l : List Opn} (h : ROs W B (.slice A n c) l) : n = l.length ∧ n ≤ c ∧ n * 144 ≤ 140737488351232 := by
  obtain ⟨A', n', c', M, h1, e, h2, h3, _⟩ := h
  injection e with e1 e2 e3
  subst e2 e3
  exact ⟨by rw [h2, ← h1, List.length_map], h3⟩
theorem ROs.slice {W : World} {B : Nat} {v : Value} {l : List Opn} (h : ROs W B v l) : ∃ A n c, v = .slice A n c := by
  obtain ⟨A, n, c, M, _, h1, _⟩ := h
  exact ⟨A, n, c, h1⟩
/-- an operation in a row -/
theorem ROs.at_ {W : World} {B n c : Nat} {A : Option Addr} {l : List Opn} (h : ROs W B (.slice A n c) l) {k : Nat} {o : Opn} (hk : l[k]? = some o) :
    ∃ b off Av nv cv, A = some ⟨b, off, none⟩ ∧ b < B ∧ (∀ i u, (opV (o, .slice Av nv cv))[i]? = some u → W.cell? ⟨b, off + k * 13 + i, none⟩ = some u) ∧ RV W B (.slice Av nv cv) o.val.items ∧ OI o := by
  obtain ⟨A', n', c', M, h1, e, h2, h3, h4, h5⟩ := h
  injection e with e1 e2 e3
  subst e1 e2 e3
  obtain ⟨y, hy, rfl⟩ : ∃ y, M[k]? = some y ∧ y.1 = o := by
    rw [← h1, List.getElem?_map, Option.map_eq_some_iff] at hk
    exact hk
  obtain ⟨b, off, e, hb, hc⟩ := h4.plain_at (by omega) opV_len h2 hy
  obtain ⟨k1, k2⟩ := h5 y (List.mem_of_getElem? hy)
  obtain ⟨o, v⟩ := y
  obtain ⟨Av, nv, cv, rfl⟩ := k1.slice
  exact ⟨b, off, Av, nv, cv, e, hb, hc, k1, k2⟩
theorem noV_eq (v : Vl) : noV v = sameV v zV := by
  rw [sameV_eq]
  unfold noV zV
  show _ = ((v.kind == 0) && (v.int_ == 0) && (v.to_ == 0) && decide (v.text = ⟨#[]⟩) && sameL v.items [])
  have e1 : decide (v.text = ⟨#[]⟩) = v.text.toList.isEmpty := by
    rw [dec_toList, show (⟨#[]⟩ : ByteArray).toList = [] from ByteArray.toList_eq _]
    cases h : v.text.toList with
    | nil => rfl
    | cons a l => rfl
  have e2 : sameL v.items [] = ((v.items.length : Int) == 0) := by
    cases h : v.items with
    | nil => rw [sameL]; rfl
    | cons a l =>
      rw [sameL]
      · have : ((a :: l).length : Int) ≠ 0 := by rw [List.length_cons]; omega
        exact (beq_eq_false_iff_ne.2 this).symm
      · intro h; cases h
      · intro x y z h1 h2 h3; cases h3
  rw [e1, e2]
theorem RV.nil (w : World) (B : Nat) : RV w B (.slice none 0 0) [] := ⟨0, rfl, none, 0, rfl⟩

set_option maxHeartbeats 400000 in
/-- tree.noValue -/
theorem noValue_any (x : Vl) (A : Option Addr) (n c : Nat) (w : World) (B : Nat) (hB : B ≤ w.heap.size) (h : RV w B (.slice A n c) x.items) :
    Calls Tryz.prog 83 #[AV (x, .slice A n c)] w fun e w' => e = .returned (.bool (noV x)) ∧ Below w.heap.size w w' := by
  obtain ⟨d, hd⟩ := h
  have HX := Lib.hid fun W (hW : Below w.heap.size w W) => sameVal_any d (x, .slice A n c) (zV, .slice none 0 0) W B (Nat.le_trans hB hW.size) (hd.below (hW.mono hB)) (RVd.up (d := 0) ⟨rfl, none, 0, rfl⟩ (Nat.zero_le d))
  dsimp only at HX
  rw [← noV_eq] at HX
  dsimp only [AV] at HX ⊢
  have ez : zV.kind = 0 ∧ zV.int_ = 0 ∧ zV.to_ = 0 ∧ zV.text = ⟨#[]⟩ := ⟨rfl, rfl, rfl, rfl⟩
  rw [ez.1, ez.2.1, ez.2.2.1, ez.2.2.2] at HX
  clear hd ez
  go_enter Tryz.func83, Tryz.ntmps83
  go_wp2_with fail
  first
    | refine (HX.out _ ((Below.refl _ _).alloc (Nat.le_refl _) _)).mono ?_
    | refine (HX.out _ (Below.refl _ _)).mono ?_
  rintro e w2 ⟨rfl, hb⟩
  go_wp2_with fail
  go_ret
  first
    | exact ⟨rfl, ((Below.refl _ _).alloc (Nat.le_refl _) _).trans (hb.mono (by simp))⟩
    | exact ⟨rfl, hb⟩
end Go.Proofs.YtmkicfjcgbfaaaaGreatDoor
namespace Go.Proofs.YtmkicfjcgbfaaaaGreatDoor
open Go.RowKit

theorem Below.setCells {B : Nat} {a : World} {g : Nat} (hg : B ≤ g) : ∀ (vs : List Value) (o : Nat) (w : World), Below B a w → Below B a (w.setCells g o vs)
  | [], _, _, h => h
  | v :: r, o, _, h => Below.setCells hg r (o + 1) _ (h.setCell (p := ⟨g, o, none⟩) hg v)
end Go.Proofs.YtmkicfjcgbfaaaaGreatDoor
namespace Go.Proofs.YtmkicfjcgbfaaaaGreatDoor
open Go.RowKit

end Go.Proofs.YtmkicfjcgbfaaaaGreatDoor
namespace Go.Proofs.YtmkicfjcgbfaaaaGreatDoor
open Go.RowKit Go.Shelf

attribute [local go_sem] Oper.semAt_some

/-- two blocks are kept, and the heap does not shrink -/
structure K2 (a b : Nat) (W W' : World) : Prop where
  size : W.heap.size ≤ W'.heap.size
  fst : W'.heap[a]? = W.heap[a]?
  snd : W'.heap[b]? = W.heap[b]?
theorem K2.trans {a b : Nat} {A B C : World} (h : K2 a b A B) (k : K2 a b B C) : K2 a b A C := ⟨Nat.le_trans h.size k.size, k.fst.trans h.fst, k.snd.trans h.snd⟩
theorem K2.put {a b : Nat} {w : World} (ha : a < w.heap.size) (hb : b < w.heap.size) (W : World) (l : Nat) (o o' : Obj) (hl : w.heap.size ≤ l) (_ : W.heap[l]? = some o) (_ : o.isCells = false) (_ : o.isWalk = false) : K2 a b W (W.putObj l o') :=
  ⟨by simp, World.putObj_heap_other (by omega), World.putObj_heap_other (by omega)⟩
end Go.Proofs.YtmkicfjcgbfaaaaGreatDoor
namespace Go.Proofs.YtmkicfjcgbfaaaaGreatDoor
open Go.RowKit Go.Sort

theorem pr_unique : ∀ {l m : List Pr}, (l.Pairwise fun x y => blt x.name y.name) → (m.Pairwise fun x y => blt x.name y.name) → (∀ x, x ∈ l ↔ x ∈ m) → l = m
  | [], [], _, _, _ => rfl
  | [], y :: m, _, _, h => by have := (h y).2 List.mem_cons_self; cases this
  | x :: l, [], _, _, h => by have := (h x).1 List.mem_cons_self; cases this
  | x :: l, y :: m, hl, hm, h => by
    obtain ⟨a1, a2⟩ := List.pairwise_cons.1 hl
    obtain ⟨b1, b2⟩ := List.pairwise_cons.1 hm
    have hxy : x = y := by
      rcases List.mem_cons.1 ((h x).1 List.mem_cons_self) with e | hx
      · exact e
      · rcases List.mem_cons.1 ((h y).2 List.mem_cons_self) with e | hy
        · exact e.symm
        · exact absurd (blt_trans (b1 _ hx) (a1 _ hy)) (blt_irr _)
    subst hxy
    rw [pr_unique a2 b2 fun z => ?_]
    constructor
    · intro hz
      rcases List.mem_cons.1 ((h z).1 (List.mem_cons_of_mem _ hz)) with e | h'
      · subst e; exact absurd (a1 _ hz) (blt_irr _)
      · exact h'
    · intro hz
      rcases List.mem_cons.1 ((h z).2 (List.mem_cons_of_mem _ hz)) with e | h'
      · subst e; exact absurd (b1 _ hz) (blt_irr _)
      · exact h'
theorem blt_of {a b : ByteArray} (h : ¬ blt b a) (hn : a ≠ b) : blt a b := by
  refine less_total _ _ ?_ fun e => hn (tl_eq e.symm)
  exact Bool.eq_false_iff.2 h
/-- sorted by the name, one a name: what has the same properties in order -/
theorem srt_eq {M : List SPr} {d' : Array SPr} (hp : PermIn 0 M.length M.toArray d') (hs : SortedIn (ltOf cfS) 0 M.length d') (hnd : (M.map fun x => x.1.name).Nodup) {L : List Pr}
    (hL : L.Pairwise fun x y => blt x.name y.name) (hmem : ∀ x, x ∈ L ↔ x ∈ M.map Prod.fst) : d'.toList.map Prod.fst = L ∧ (∀ x ∈ d'.toList, x ∈ M) ∧ d'.size = M.length := by
  obtain ⟨hz, _, hperm⟩ := hp
  have hz : d'.size = M.length := by simpa using hz
  have e1 : (d'.extract 0 M.length).toList = d'.toList := by rw [← hz]; simp
  have e2 : (M.toArray.extract 0 M.length).toList = M := by simp
  rw [e1, e2] at hperm
  have hnd' : (d'.toList.map fun x => x.1.name).Nodup := (hperm.map _).nodup_iff.2 hnd
  refine ⟨pr_unique ?_ hL fun x => ?_, fun x hx => hperm.mem_iff.1 hx, hz⟩
  · rw [List.pairwise_map, List.pairwise_iff_getElem]
    intro i j hi hj hij
    have h1 := hs i j (Nat.zero_le _) hij (by simpa [hz] using hj)
    rw [ltS] at h1
    have gi : d'[i]! = d'.toList[i] := by simp at hi ⊢; simp [hi]
    have gj : d'[j]! = d'.toList[j] := by simp at hj ⊢; simp [hj]
    rw [gi, gj] at h1
    refine blt_of (Bool.eq_false_iff.1 h1) ?_
    have hp := List.pairwise_iff_getElem.1 hnd' i j (by simpa using hi) (by simpa using hj) hij
    simp only [List.getElem_map] at hp
    exact hp
  · rw [hmem]; exact (hperm.map Prod.fst).mem_iff
/-- what prop.with puts in order is setPr -/
theorem setPr_srt {l : List Pr} {s : ByteArray} {v : Vl} (h : cpErr l = 0) (hk : v.kind ≠ 0) {M : List SPr} (hM : M.map Prod.fst = (l.filter fun p => !decide (p.name = s)) ++ [⟨s, v⟩]) {d' : Array SPr} (hp : PermIn 0 M.length M.toArray d') (hs : SortedIn (ltOf cfS) 0 M.length d') :
    d'.toList.map Prod.fst = setPr l s v ∧ (∀ x ∈ d'.toList, x ∈ M) ∧ d'.size = M.length := by
  obtain ⟨_, h2, _⟩ := cp_ok h
  have hnm : (M.map fun x => x.1.name) = (M.map Prod.fst).map Pr.name := by rw [List.map_map]; rfl
  refine srt_eq hp hs ?_ ?_ fun x => ?_
  · rw [hnm, hM, List.map_append, List.nodup_append]
    refine ⟨?_, by simp, fun a ha b hb => ?_⟩
    · have : ((l.filter fun p => !decide (p.name = s)).map Pr.name).Pairwise blt := by
        rw [List.pairwise_map]
        exact h2.sublist List.filter_sublist
      exact this.imp fun h e => by subst e; exact blt_irr _ h
    · obtain ⟨p, hp, rfl⟩ := List.mem_map.1 ha
      have hb : b = s := by simpa using hb
      subst hb
      simpa using (List.mem_filter.1 hp).2
  · unfold setPr
    rw [if_neg hk, List.pairwise_append]
    refine ⟨h2.sublist List.filter_sublist, List.pairwise_cons.2 ⟨fun y hy => (List.mem_filter.1 hy).2, h2.sublist List.filter_sublist⟩, fun x hx y hy => ?_⟩
    have hxs : blt x.name s := (List.mem_filter.1 hx).2
    rcases List.mem_cons.1 hy with rfl | hy
    · exact hxs
    · exact blt_trans hxs (List.mem_filter.1 hy).2
  · unfold setPr
    rw [if_neg hk, hM, List.mem_append, List.mem_cons, List.mem_append, List.mem_singleton, List.mem_filter, List.mem_filter, List.mem_filter]
    constructor
    · rintro (⟨a, b⟩ | rfl | ⟨a, b⟩)
      · exact .inl ⟨a, by simp; intro e; rw [e, less_irr] at b; exact absurd b (by decide)⟩
      · exact .inr rfl
      · exact .inl ⟨a, by simp; intro e; rw [e, less_irr] at b; exact absurd b (by decide)⟩
    · rintro (⟨a, b⟩ | rfl)
      · have b : x.name ≠ s := by simpa using b
        by_cases hb : blt x.name s
        · exact .inl ⟨a, hb⟩
        · exact .inr (.inr ⟨a, blt_of hb fun e => b e.symm⟩)
      · exact .inr (.inl rfl)
/-- without a value nothing is put in -/
theorem setPr_none {l : List Pr} {s : ByteArray} {v : Vl} (hk : v.kind = 0) : setPr l s v = l.filter fun p => !decide (p.name = s) := by
  unfold setPr
  rw [if_pos hk]
  refine List.filter_congr fun x _ => ?_
  rw [dec_toList]
end Go.Proofs.YtmkicfjcgbfaaaaGreatDoor
namespace Go.Proofs.YtmkicfjcgbfaaaaGreatDoor
open Go.RowKit

/-- an append of one property where there is room -/
theorem run_appP_room (w : World) (g c base : Nat) (M : List (Pr × Value)) (hge : base ≤ g) (hR : CRp w g M) (hF : FRp w g c) (hl : M.length + 1 ≤ c) (ad : Addr) (x : Pr × Value) (hx1 : ∀ u ∈ prV x, u.oneCell' = true) (hx : ∀ j u, (prV x)[j]? = some u → w.cell? (ad.add j) = some u) :
    ∃ w', (∀ ty, (Builtin.append_ #[50, 50] ty #[.slice (some ⟨g, 0, none⟩) M.length c, .slice (some ad) 1 1]).run Tryz.prog w = .ok (.slice (some ⟨g, 0, none⟩) (M.length + 1) c) w') ∧ RowP w' base (some ⟨g, 0, none⟩) c (M ++ [x]) ∧ w.grownBy w' (some g) := by
  obtain ⟨i0, hi0, hz0, hz1, hz2⟩ := info_parts prop_info
  obtain ⟨cur, hb, hs⟩ := hF
  obtain ⟨R, hR1⟩ : ∃ R, R = cur.toList.take (M.length * 6) ++ prV x ++ cur.toList.drop (M.length * 6 + 6) := ⟨_, rfl⟩
  have hcl : cur.toList.length = cur.size := Array.length_toList
  have htk : cur.toList.take (M.length * 6) = M.flatMap prV := hR.take hb (by omega)
  have hRl : R.length = cur.size := by
    rw [hR1, List.length_append, List.length_append, List.length_take, List.length_drop, prV_len, hcl]; omega
  have hb' : Blk (w.setRow g R.toArray) g 129 R.toArray := setRow_heap w g _ _ _ _ hb
  refine ⟨w.setRow g R.toArray, fun ty => ?_, ⟨by simpa using hl, .inr ⟨g, rfl, hge, fun k y hy j u hu => ?_, ⟨_, hb', by rw [List.size_toArray, hRl]; exact hs⟩⟩⟩, ⟨rfl, rfl, rfl, by rw [setRow_size]; exact Nat.le_refl _, fun k hk hne => setRow_other _ _ _ _ (fun e => hne (by rw [e]))⟩⟩
  · have := run_append_room (P := Tryz.prog) (ty := ty) w 50 129 i0 Tryz.underlying50 hi0 g M.length c cur hb ad 1 1 (prV x) (by rw [prV_len, hz1]) hx hx1 hl (by rw [prV_len, hz1]; omega)
    rw [hz1, prV_len, ← hR1] at this
    exact this
  · have hj := (List.getElem?_eq_some_iff.1 hu).1
    rw [prV_len] at hj
    have hk := (List.getElem?_eq_some_iff.1 hy).1
    rw [List.length_append, List.length_singleton] at hk
    have h5 := fm_get prV 6 prV_len (M ++ [x]) k j y hy hj
    rw [hb'.cell, ← hu, ← h5, hR1, htk, List.flatMap_append, List.flatMap_singleton, List.getElem?_toArray, List.getElem?_append_left (by rw [List.length_append, prs_cells, prV_len]; omega)]
/-- properties in a new row -/
theorem rowP_new (w : World) (base G : Nat) (M : List (Pr × Value)) (z : Array Value) (hb : base ≤ w.heap.size) (hG : M.length ≤ G) (hz : z.size = (G - M.length) * 6) :
    RowP (w.drew.alloc (.cells ((M.flatMap prV).toArray ++ z) 129)) base (some ⟨w.heap.size, 0, none⟩) G M := by
  have hk : Blk (w.drew.alloc (.cells ((M.flatMap prV).toArray ++ z) 129)) w.heap.size 129 ((M.flatMap prV).toArray ++ z) := Blk.new w.drew _ _
  refine ⟨hG, .inr ⟨_, rfl, hb, fun k y hy j u hu => ?_, ⟨_, hk, by rw [Array.size_append, List.size_toArray, prs_cells, hz]; omega⟩⟩⟩
  have hj := (List.getElem?_eq_some_iff.1 hu).1
  rw [prV_len] at hj
  have hkl := (List.getElem?_eq_some_iff.1 hy).1
  have h5 := fm_get prV 6 prV_len M k j y hy hj
  rw [hk.cell, ← hu, ← h5, Array.getElem?_append_left (by rw [List.size_toArray, prs_cells]; omega), List.getElem?_toArray]
theorem run_appP_grow (w : World) (A : Option Addr) (c base : Nat) (M : List (Pr × Value)) (hb : base ≤ w.heap.size) (h : RowP w base A c M) (hl : c = M.length) (hm : M.length ≤ 1000) (ad : Addr) (x : Pr × Value) (hx : ∀ j u, (prV x)[j]? = some u → w.cell? (ad.add j) = some u) :
    ∃ (G : Nat) (w' : World), (∀ ty, (Builtin.append_ #[50, 50] ty #[.slice A M.length c, .slice (some ad) 1 1]).run Tryz.prog w = .ok (.slice (some ⟨w.heap.size, 0, none⟩) (M.length + 1) G) w') ∧ RowP w' base (some ⟨w.heap.size, 0, none⟩) G (M ++ [x]) ∧ w.grownBy w' none := by
  obtain ⟨i0, hi0, hz0, hz1, hz2⟩ := info_parts prop_info
  have hgr : ∀ cs, w.grownBy (w.drew.alloc (.cells cs 129)) none := fun cs => ⟨rfl, rfl, rfl, by simp, fun k hk _ => by
    show (w.heap.push _)[k]? = _
    rw [Array.getElem?_push, if_neg (by omega)]⟩
  have hzs : ∀ n, (Builtin.zeroCells pZ.cells n).size = n * 6 := fun n => by simp [Builtin.zeroCells, pZ, Value.cells]
  have hfl : (M ++ [x]).flatMap prV = M.flatMap prV ++ prV x := by rw [List.flatMap_append, List.flatMap_singleton]
  rcases h.2 with ⟨rfl, h0⟩ | ⟨g, rfl, hge, hR, hF⟩
  · subst h0
    obtain rfl : M = [] := List.eq_nil_of_length_eq_zero hl.symm
    refine ⟨grownCap w 1 0 129, _, fun ty => run_append_nil (P := Tryz.prog) w 50 ty 129 i0 pZ Tryz.underlying50 hi0 hz0 ad 1 1 (prV x) (by rw [prV_len, hz1]) hx (by omega) (by omega) (by rw [hz2]; omega), ?_, hgr _⟩
    have := rowP_new w base (grownCap w 1 0 129) ([] ++ [x]) (Builtin.zeroCells pZ.cells (grownCap w 1 0 129 - 1)) hb (grownCap_ge w _ _ _) (hzs _)
    rw [hfl] at this
    exact this
  · refine ⟨grownCap w (M.length + 1) c 129, _, fun ty => run_append_grow (P := Tryz.prog) w 50 ty 129 i0 pZ Tryz.underlying50 hi0 hz0 ⟨g, 0, none⟩ M.length c (M.flatMap prV) (by rw [prs_cells, hz1]) (fun j v hj => ?_) ad 1 1 (prV x) (by rw [prV_len, hz1]) hx (by omega) (by omega) (by rw [hz2]; exact growslice_fits (by omega) (by omega)), ?_, hgr _⟩
    · obtain ⟨a, e, _, hc⟩ := (h.reads.2 (by have := (List.getElem?_eq_some_iff.1 hj).1; rw [prs_cells] at this; omega))
      have e : a = ⟨g, 0, none⟩ := (Option.some.inj e).symm
      rw [← e]
      exact hc j v hj
    · have := rowP_new w base (grownCap w (M.length + 1) c 129) (M ++ [x]) (Builtin.zeroCells pZ.cells (grownCap w (M.length + 1) c 129 - (M.length + 1))) hb (by rw [List.length_append]; exact grownCap_ge w _ _ _) (by rw [hzs, List.length_append]; rfl)
      rw [hfl] at this
      simpa using this
end Go.Proofs.YtmkicfjcgbfaaaaGreatDoor
namespace Go.Proofs.YtmkicfjcgbfaaaaGreatDoor
open Go.RowKit

/-- properties in a row of the call's own whose items lie in blocks of a sort that stand -/
structure OutPS (S : Nat → Prop) (w : World) (base : Nat) (v : Value) (M : List (Pr × Value)) : Prop where
  own : w.ownsRow base 129 6 v M.length (M.flatMap prV)
  nest : ∀ x ∈ M, RVX w S x.2 x.1.val.items
theorem OutPS.start (S : Nat → Prop) (w : World) (base : Nat) : OutPS S w base (.slice none 0 0) [] := ⟨World.ownsRow_nil w base _ 6, fun x hx => by cases hx⟩
theorem OutPS.below {S : Nat → Prop} {w w' : World} {base : Nat} {v : Value} {M : List (Pr × Value)} (h : OutPS S w base v M) (hb : Below w.heap.size w w') (hS : ∀ b, S b → b < w.heap.size) : OutPS S w' base v M :=
  ⟨own_below h.own hb, fun x hx => (h.nest x hx).keep fun _ hp => hb.cell (hS _ hp)⟩
theorem OutPS.blocks {S : Nat → Prop} {w : World} {base : Nat} {v : Value} {M : List (Pr × Value)} (h : OutPS S w base v M) : ∀ g, v.ownBlock = some g → base ≤ g ∧ g < w.heap.size := own_block_lt h.own
/-- one property put behind the row: what holds ahead of the append, and behind it -/
structure SpApp (S : Nat → Prop) (wb wn : World) (u : Value) (L : List (Pr × Value)) (x : Pr × Value) : Prop where
  own : wn.ownsRow wb.heap.size 129 6 u L.length (L.flatMap prV)
  base : wb.heap.size ≤ wn.heap.size
  len : L.length + 1 ≤ maxLen
  bytes : (L.length + 1) * 80 ≤ 140737488355328
  post : ∀ v' w', w'.ownsRow wb.heap.size 129 6 v' (L.length + 1) (L.flatMap prV ++ prV x) → wn.grownBy w' u.ownBlock → (v'.ownBlock = u.ownBlock ∨ v'.ownBlock = some wn.heap.size) → OutPS S w' wb.heap.size v' (L ++ [x]) ∧ Below wb.heap.size wb w'
end Go.Proofs.YtmkicfjcgbfaaaaGreatDoor
