/-
  DERIVED. Operations on a base in memory; the walk of tree.noValue. Conditions: sizes.
  slices.SortFunc at properties by their names, over a row of the call's own. Conditions: sizes.
  Properties sorted by their names behind an append: what prop.with makes. Conditions: none.
  The walk of prop.without. Conditions: sizes.
  An append of one property to a row of the call's own that has room. Conditions: sizes.
  By an AI agent.
-/
import Derived.Test.YtmkicfjcgbfaaaaGreatTg25
import Derived.Test.YtmkicfjcgbfaaaaGreatTg10
import Derived.Test.YtmkicfjcgbfaaaaGreatTg09
import Derived.Test.YtmkicfjcgbfaaaaGreatChecked
import Derived.Test.YtmkicfjcgbfaaaaGreatTg13
import Derived.Test.YtmkicfjcgbfaaaaGreatTg23
namespace Go.Proofs.YtmkicfjcgbfaaaaGreat
open Go.RowKit

/-- thirteen cells: an operation, its value's items told apart -/
def opV (x : Opn × Value) : List Value := [.int .i64 x.1.kind, .int .i64 x.1.id, .int .i64 x.1.parent, .int .i64 x.1.at_, .int .i64 x.1.from_, .int .i64 x.1.to_, .string x.1.text, .string x.1.name, .int .i64 x.1.val.kind, .int .i64 x.1.val.int_, .int .i64 x.1.val.to_, .string x.1.val.text, x.2]
theorem opV_len (x : Opn × Value) : (opV x).length = 13 := rfl
/-- an operation as an aggregate -/
def AO (x : Opn × Value) : Value := .agg #[.int .i64 x.1.kind, .int .i64 x.1.id, .int .i64 x.1.parent, .int .i64 x.1.at_, .int .i64 x.1.from_, .int .i64 x.1.to_, .string x.1.text, .string x.1.name, .int .i64 x.1.val.kind, .int .i64 x.1.val.int_, .int .i64 x.1.val.to_, .string x.1.val.text, x.2]
/-- numbers that an int holds -/
def OI (o : Opn) : Prop := I64 o.id ∧ I64 o.parent ∧ I64 o.at_ ∧ I64 o.from_ ∧ I64 o.to_ ∧ o.text.size ≤ 140737488351232
/-- a list of operations in memory -/
def ROs (W : World) (B : Nat) (v : Value) (l : List Opn) : Prop := ∃ A n c, ∃ M : List (Opn × Value), M.map Prod.fst = l ∧ v = .slice A n c ∧ n = M.length ∧ (n ≤ c ∧ n * 144 ≤ 140737488351232) ∧ Reads W B 13 A n (M.flatMap opV) ∧ ∀ x ∈ M, RV W B x.2 x.1.val.items ∧ OI x.1
theorem ROs.below {W W' : World} {B : Nat} {v : Value} {l : List Opn} (h : ROs W B v l) (hb : Below B W W') : ROs W' B v l := by
  obtain ⟨A, n, c, M, h1, h2, h3, h4, h5, h6⟩ := h
  exact ⟨A, n, c, M, h1, h2, h3, h4, h5.below hb, fun x hx => ⟨(h6 x hx).1.below hb, (h6 x hx).2⟩⟩
theorem ROs.more {W : World} {B B' : Nat} {v : Value} {l : List Opn} (h : ROs W B v l) (hB : B ≤ B') : ROs W B' v l := by
  obtain ⟨A, n, c, M, h1, h2, h3, h4, h5, h6⟩ := h
  exact ⟨A, n, c, M, h1, h2, h3, h4, h5.more hB, fun x hx => ⟨(h6 x hx).1.more hB, (h6 x hx).2⟩⟩
theorem ROs.len {W : World} {B n c : Nat} {A : Option Addr} {l : List Opn} (h : ROs W B (.slice A n c) l) : n = l.length ∧ n ≤ c ∧ n * 144 ≤ 140737488351232 := by
  obtain ⟨A', n', c', M, h1, e, h2, h3, _⟩ := h
  injection e with e1 e2 e3
  subst e2 e3
  exact ⟨by rw [h2, ← h1, List.length_map], h3⟩
theorem ROs.slice {W : World} {B : Nat} {v : Value} {l : List Opn} (h : ROs W B v l) : ∃ A n c, v = .slice A n c := by
  obtain ⟨A, n, c, M, _, h1, _⟩ := h
  exact ⟨A, n, c, h1⟩
/-- an operation in a row -/
theorem ROs.at_ {W : World} {B n c : Nat} {A : Option Addr} {l : List Opn} (h : ROs W B (.slice A n c) l) {k : Nat} {o : Opn} (hk : l[k]? = some o) :
    ∃ b off Av nv cv, A = some ⟨b, off, none⟩ ∧ b < B ∧ (∀ i u, (opV (o, .slice Av nv cv))[i]? = some u → W.cell? ⟨b, off + k * 13 + i, none⟩ = some u) ∧ RV W B (.slice Av nv cv) o.val.items ∧ OI o := by
  obtain ⟨A', n', c', M, h1, e, h2, h3, h4, h5⟩ := h
  injection e with e1 e2 e3
  subst e1 e2 e3
  obtain ⟨y, hy, rfl⟩ : ∃ y, M[k]? = some y ∧ y.1 = o := by
    rw [← h1, List.getElem?_map, Option.map_eq_some_iff] at hk
    exact hk
  obtain ⟨b, off, e, hb, hc⟩ := h4.plain_at (by omega) opV_len h2 hy
  obtain ⟨k1, k2⟩ := h5 y (List.mem_of_getElem? hy)
  obtain ⟨o, v⟩ := y
  obtain ⟨Av, nv, cv, rfl⟩ := k1.slice
  exact ⟨b, off, Av, nv, cv, e, hb, hc, k1, k2⟩
theorem noV_eq (v : Vl) : noV v = sameV v zV := by
  rw [sameV_eq]
  unfold noV zV
  show _ = ((v.kind == 0) && (v.int_ == 0) && (v.to_ == 0) && decide (v.text = ⟨#[]⟩) && sameL v.items [])
  have e1 : decide (v.text = ⟨#[]⟩) = v.text.toList.isEmpty := by
    rw [dec_toList, show (⟨#[]⟩ : ByteArray).toList = [] from ByteArray.toList_eq _]
    cases h : v.text.toList with
    | nil => rfl
    | cons a l => rfl
  have e2 : sameL v.items [] = ((v.items.length : Int) == 0) := by
    cases h : v.items with
    | nil => rw [sameL]; rfl
    | cons a l =>
      rw [sameL]
      · have : ((a :: l).length : Int) ≠ 0 := by rw [List.length_cons]; omega
        exact (beq_eq_false_iff_ne.2 this).symm
      · intro h; cases h
      · intro x y z h1 h2 h3; cases h3
  rw [e1, e2]
theorem RV.nil (w : World) (B : Nat) : RV w B (.slice none 0 0) [] := ⟨0, rfl, none, 0, rfl⟩

set_option maxHeartbeats 400000 in
/-- tree.noValue -/
theorem noValue_any (x : Vl) (A : Option Addr) (n c : Nat) (w : World) (B : Nat) (hB : B ≤ w.heap.size) (h : RV w B (.slice A n c) x.items) :
    Calls Tryz.prog 154 #[AV (x, .slice A n c)] w fun e w' => e = .returned (.bool (noV x)) ∧ Below w.heap.size w w' := by
  obtain ⟨d, hd⟩ := h
  have HX := Lib.hid fun W (hW : Below w.heap.size w W) => sameVal_any d (x, .slice A n c) (zV, .slice none 0 0) W B (Nat.le_trans hB hW.size) (hd.below (hW.mono hB)) (RVd.up (d := 0) ⟨rfl, none, 0, rfl⟩ (Nat.zero_le d))
  dsimp only at HX
  rw [← noV_eq] at HX
  dsimp only [AV] at HX ⊢
  have ez : zV.kind = 0 ∧ zV.int_ = 0 ∧ zV.to_ = 0 ∧ zV.text = ⟨#[]⟩ := ⟨rfl, rfl, rfl, rfl⟩
  rw [ez.1, ez.2.1, ez.2.2.1, ez.2.2.2] at HX
  clear hd ez
  go_enter Tryz.func154, Tryz.ntmps154
  go_wp2_with fail
  first
    | refine (HX.out _ ((Below.refl _ _).alloc (Nat.le_refl _) _)).mono ?_
    | refine (HX.out _ (Below.refl _ _)).mono ?_
  rintro e w2 ⟨rfl, hb⟩
  go_wp2_with fail
  go_ret
  first
    | exact ⟨rfl, ((Below.refl _ _).alloc (Nat.le_refl _) _).trans (hb.mono (by simp))⟩
    | exact ⟨rfl, hb⟩
end Go.Proofs.YtmkicfjcgbfaaaaGreat
namespace Go.Proofs
open Go.Shelf Go.RowKit Go.Lib Go.Sort
namespace YtmkicfjcgbfaaaaGreat
theorem grown_sortS {w : World} {g n : Nat} {os : Array Obj} (d : Array SPr) : w.grownBy (sortWorldK spV 6 w g 0 n d os) (some g) := by
  unfold sortWorldK putRowK
  refine ⟨rfl, rfl, rfl, by simp, fun k hk hne => ?_⟩
  rw [heap_grow_old _ _ (by simpa using hk)]
  have : g ≠ k := fun e => hne (by rw [e])
  simp [putRow, mapBlock, Sort.ahead, Array.getElem?_modify, this]
theorem heap_sortS {w : World} {g n : Nat} {os : Array Obj} {cur : Array Value} {T : TypeId} (d : Array SPr) (hb : w.heap[g]? = some (.cells cur T (0, 0))) :
    (sortWorldK spV 6 w g 0 n d os).heap[g]? = some (.cells (putCells id 0 (flatK spV 6 d) cur) T (0, 0)) := by
  unfold sortWorldK putRowK
  have hg : g < w.heap.size := (Array.getElem?_eq_some_iff.1 hb).1
  rw [heap_grow_old _ _ (by simpa using hg)]
  simp [putRow, mapBlock, Sort.ahead, Array.getElem?_modify, hb, onCells]
theorem sp_get (d : Array SPr) {k j : Nat} {x : Pr × Value} {u : Value} (hx : (d.toList.map spP)[k]? = some x) (hu : (prV x)[j]? = some u) : k < d.size ∧ j < 6 ∧ (flatK spV 6 d)[k * 6 + j]! = u := by
  have hj := (List.getElem?_eq_some_iff.1 hu).1
  rw [prV_len] at hj
  have hk := (List.getElem?_eq_some_iff.1 hx).1
  rw [List.length_map, Array.length_toList] at hk
  refine ⟨hk, hj, ?_⟩
  rw [get_flatK _ _ _ _ (by omega), show (k * 6 + j) / 6 = k by omega, show (k * 6 + j) % 6 = j by omega, getElem!_pos d k hk]
  rw [List.getElem?_map, Array.getElem?_toList, Array.getElem?_eq_getElem hk] at hx
  obtain rfl := Option.some.inj hx
  show (prV (spP d[k]))[j]! = u
  rw [List.getElem!_eq_getElem?_getD, hu]; rfl
theorem sortP_any (g c : Nat) (M : List SPr) (w : World) (hR : CRp w g (M.map spP)) (hF : FRp w g c) (hl : M.length ≤ c) (hn : M.length ≤ 100000) :
    Calls Tryz.prog 179 #[.slice (some ⟨g, 0, none⟩) M.length c, .func (.func 180) #[] #[]] w fun e w' => e = .returned (.tuple #[]) ∧
      ∃ d' : Array SPr, PermIn 0 M.length M.toArray d' ∧ SortedIn (ltOf cfS) 0 M.length d' ∧ CRp w' g (d'.toList.map spP) ∧ FRp w' g c ∧ w.grownBy w' (some g) := by
  obtain ⟨cur, hb, hs⟩ := hF
  have hH : HoldsK spV 6 w g 0 M.toArray := by
    intro j hj
    have hj' : j < M.length * 6 := by simpa using hj
    refine ⟨?_, hb.frozen _⟩
    obtain ⟨x, hx⟩ : ∃ x, (M.map spP)[j / 6]? = some x := ⟨_, List.getElem?_eq_getElem (by rw [List.length_map]; omega)⟩
    obtain ⟨u, hu⟩ : ∃ u, (prV x)[j % 6]? = some u := ⟨_, List.getElem?_eq_getElem (by rw [prV_len]; omega)⟩
    have h1 := hR _ _ hx _ _ hu
    obtain ⟨_, _, h2⟩ := sp_get M.toArray (by simpa using hx) hu
    rw [show j / 6 * 6 + j % 6 = j by omega] at h1 h2
    rw [Nat.zero_add, h2]; exact h1
  have eg : ∀ args w, (callFunc 180 args).run Tryz.prog w = .ok (.enter 180 args) w := enters_of Tryz.func180 (by kernel_rfl) rfl
  have h := AnyQ.slices_SortFunc Tryz.sortPr 6 Tryz.isAgg116 Tryz.sizeOf116 spV (fun _ => rfl) sp_one cfS swoS 180 #[] g 0 c M.toArray w eg (cmpLaysS g 0 _ w) hH hb.lt (by simp; omega)
  change Calls Tryz.prog 179 _ _ _ at h
  rw [List.size_toArray] at h
  refine h.mono ?_
  rintro e w' ⟨he, d', n, os, hp, hsd, rfl⟩
  have hh := heap_sortS (n := n) (os := os) d' hb
  have hds : d'.size = M.length := by have := hp.1; simpa using this
  refine ⟨he, d', hp, hsd, fun k x hx j u hu => ?_, ⟨_, hh, by simpa [putCells] using hs⟩, grown_sortS d'⟩
  obtain ⟨hk, hj, h2⟩ := sp_get d' hx hu
  rw [Blk.cell (t := 116) hh, ← h2]
  simp [putCells, show k * 6 + j < cur.size by omega, show k * 6 + j < d'.size * 6 by omega]
end YtmkicfjcgbfaaaaGreat
end Go.Proofs
namespace Go.Proofs.YtmkicfjcgbfaaaaGreat
open Go.RowKit Go.Sort

theorem pr_unique : ∀ {l m : List Pr}, (l.Pairwise fun x y => blt x.name y.name) → (m.Pairwise fun x y => blt x.name y.name) → (∀ x, x ∈ l ↔ x ∈ m) → l = m
  | [], [], _, _, _ => rfl
  | [], y :: m, _, _, h => by have := (h y).2 List.mem_cons_self; cases this
  | x :: l, [], _, _, h => by have := (h x).1 List.mem_cons_self; cases this
  | x :: l, y :: m, hl, hm, h => by
    obtain ⟨a1, a2⟩ := List.pairwise_cons.1 hl
    obtain ⟨b1, b2⟩ := List.pairwise_cons.1 hm
    have hxy : x = y := by
      rcases List.mem_cons.1 ((h x).1 List.mem_cons_self) with e | hx
      · exact e
      · rcases List.mem_cons.1 ((h y).2 List.mem_cons_self) with e | hy
        · exact e.symm
        · exact absurd (blt_trans (b1 _ hx) (a1 _ hy)) (blt_irr _)
    subst hxy
    rw [pr_unique a2 b2 fun z => ?_]
    constructor
    · intro hz
      rcases List.mem_cons.1 ((h z).1 (List.mem_cons_of_mem _ hz)) with e | h'
      · subst e; exact absurd (a1 _ hz) (blt_irr _)
      · exact h'
    · intro hz
      rcases List.mem_cons.1 ((h z).2 (List.mem_cons_of_mem _ hz)) with e | h'
      · subst e; exact absurd (b1 _ hz) (blt_irr _)
      · exact h'
theorem blt_of {a b : ByteArray} (h : ¬ blt b a) (hn : a ≠ b) : blt a b := by
  refine less_total _ _ ?_ fun e => hn (tl_eq e.symm)
  exact Bool.eq_false_iff.2 h
/-- sorted by the name, one a name: what has the same properties in order -/
theorem srt_eq {M : List SPr} {d' : Array SPr} (hp : PermIn 0 M.length M.toArray d') (hs : SortedIn (ltOf cfS) 0 M.length d') (hnd : (M.map fun x => x.1.name).Nodup) {L : List Pr}
    (hL : L.Pairwise fun x y => blt x.name y.name) (hmem : ∀ x, x ∈ L ↔ x ∈ M.map Prod.fst) : d'.toList.map Prod.fst = L ∧ (∀ x ∈ d'.toList, x ∈ M) ∧ d'.size = M.length := by
  obtain ⟨hz, _, hperm⟩ := hp
  have hz : d'.size = M.length := by simpa using hz
  have e1 : (d'.extract 0 M.length).toList = d'.toList := by rw [← hz]; simp
  have e2 : (M.toArray.extract 0 M.length).toList = M := by simp
  rw [e1, e2] at hperm
  have hnd' : (d'.toList.map fun x => x.1.name).Nodup := (hperm.map _).nodup_iff.2 hnd
  refine ⟨pr_unique ?_ hL fun x => ?_, fun x hx => hperm.mem_iff.1 hx, hz⟩
  · rw [List.pairwise_map, List.pairwise_iff_getElem]
    intro i j hi hj hij
    have h1 := hs i j (Nat.zero_le _) hij (by simpa [hz] using hj)
    rw [ltS] at h1
    have gi : d'[i]! = d'.toList[i] := by simp at hi ⊢; simp [hi]
    have gj : d'[j]! = d'.toList[j] := by simp at hj ⊢; simp [hj]
    rw [gi, gj] at h1
    refine blt_of (Bool.eq_false_iff.1 h1) ?_
    have hp := List.pairwise_iff_getElem.1 hnd' i j (by simpa using hi) (by simpa using hj) hij
    simp only [List.getElem_map] at hp
    exact hp
  · rw [hmem]; exact (hperm.map Prod.fst).mem_iff
/-- what prop.with puts in order is setPr -/
theorem setPr_srt {l : List Pr} {s : ByteArray} {v : Vl} (h : cpErr l = 0) (hk : v.kind ≠ 0) {M : List SPr} (hM : M.map Prod.fst = (l.filter fun p => !decide (p.name = s)) ++ [⟨s, v⟩]) {d' : Array SPr} (hp : PermIn 0 M.length M.toArray d') (hs : SortedIn (ltOf cfS) 0 M.length d') :
    d'.toList.map Prod.fst = setPr l s v ∧ (∀ x ∈ d'.toList, x ∈ M) ∧ d'.size = M.length := by
  obtain ⟨_, h2, _⟩ := cp_ok h
  have hnm : (M.map fun x => x.1.name) = (M.map Prod.fst).map Pr.name := by rw [List.map_map]; rfl
  refine srt_eq hp hs ?_ ?_ fun x => ?_
  · rw [hnm, hM, List.map_append, List.nodup_append]
    refine ⟨?_, by simp, fun a ha b hb => ?_⟩
    · have : ((l.filter fun p => !decide (p.name = s)).map Pr.name).Pairwise blt := by
        rw [List.pairwise_map]
        exact h2.sublist List.filter_sublist
      exact this.imp fun h e => by subst e; exact blt_irr _ h
    · obtain ⟨p, hp, rfl⟩ := List.mem_map.1 ha
      have hb : b = s := by simpa using hb
      subst hb
      simpa using (List.mem_filter.1 hp).2
  · unfold setPr
    rw [if_neg hk, List.pairwise_append]
    refine ⟨h2.sublist List.filter_sublist, List.pairwise_cons.2 ⟨fun y hy => (List.mem_filter.1 hy).2, h2.sublist List.filter_sublist⟩, fun x hx y hy => ?_⟩
    have hxs : blt x.name s := (List.mem_filter.1 hx).2
    rcases List.mem_cons.1 hy with rfl | hy
    · exact hxs
    · exact blt_trans hxs (List.mem_filter.1 hy).2
  · unfold setPr
    rw [if_neg hk, hM, List.mem_append, List.mem_cons, List.mem_append, List.mem_singleton, List.mem_filter, List.mem_filter, List.mem_filter]
    constructor
    · rintro (⟨a, b⟩ | rfl | ⟨a, b⟩)
      · exact .inl ⟨a, by simp; intro e; rw [e, less_irr] at b; exact absurd b (by decide)⟩
      · exact .inr rfl
      · exact .inl ⟨a, by simp; intro e; rw [e, less_irr] at b; exact absurd b (by decide)⟩
    · rintro (⟨a, b⟩ | rfl)
      · have b : x.name ≠ s := by simpa using b
        by_cases hb : blt x.name s
        · exact .inl ⟨a, hb⟩
        · exact .inr (.inr ⟨a, blt_of hb fun e => b e.symm⟩)
      · exact .inr (.inl rfl)
/-- without a value nothing is put in -/
theorem setPr_none {l : List Pr} {s : ByteArray} {v : Vl} (hk : v.kind = 0) : setPr l s v = l.filter fun p => !decide (p.name = s) := by
  unfold setPr
  rw [if_pos hk]
  refine List.filter_congr fun x _ => ?_
  rw [dec_toList]
end Go.Proofs.YtmkicfjcgbfaaaaGreat
namespace Go.Proofs.YtmkicfjcgbfaaaaGreat
open Go.RowKit

theorem RowP.reads {w : World} {base c : Nat} {A : Option Addr} {M : List (Pr × Value)} (h : RowP w base A c M) : Reads w w.heap.size 6 A M.length (M.flatMap prV) := by
  refine ⟨prs_cells M, fun hp => ?_⟩
  rcases h.2 with h0 | ⟨g, rfl, _, h3, h4⟩
  · have := h.1; omega
  · refine ⟨_, rfl, h4.lt, fun j u hu => ?_⟩
    have hj := (List.getElem?_eq_some_iff.1 hu).1
    rw [prs_cells] at hj
    obtain ⟨x, hx⟩ : ∃ x, M[j / 6]? = some x := ⟨_, List.getElem?_eq_getElem (by omega)⟩
    have h5 := fm_get prV 6 prV_len M (j / 6) (j % 6) x hx (by omega)
    rw [show j / 6 * 6 + j % 6 = j by omega, hu] at h5
    have := h3 _ x hx _ u h5.symm
    rw [show j / 6 * 6 + j % 6 = j by omega] at this
    rw [Addr.add_lit, Nat.zero_add]; exact this
theorem RowP.rpr {w : World} {base c : Nat} {A : Option Addr} {M : List (Pr × Value)} (h : RowP w base A c M) (hb : M.length * 80 ≤ 140737488351232) (hn : ∀ x ∈ M, NP w (fun b => base ≤ b ∧ b < w.heap.size ∧ A.map Addr.block ≠ some b) x) : RPr w w.heap.size (.slice A M.length c) (M.map Prod.fst) :=
  ⟨A, M.length, c, M, rfl, rfl, rfl, ⟨h.1, hb⟩, h.reads, fun x hx => (hn x hx).reads fun _b hb => hb.2.1⟩
/-- properties in a row of the call's own, what they lead to in other blocks of the call's own -/
structure OwnP (w : World) (base : Nat) (A : Option Addr) (c : Nat) (M : List (Pr × Value)) : Prop where
  row : RowP w base A c M
  nest : ∀ x ∈ M, NP w (fun b => base ≤ b ∧ b < w.heap.size ∧ A.map Addr.block ≠ some b) x
theorem OwnP.grown {w w' : World} {base c : Nat} {A : Option Addr} {M M' : List (Pr × Value)} (h : OwnP w base A c M) (hg : w.grownBy w' (A.map Addr.block)) (hr : RowP w' base A c M') (hm : ∀ x ∈ M', x ∈ M) : OwnP w' base A c M' :=
  ⟨hr, fun x hx => ((h.nest x (hm x hx)).keep fun p hp => World.cell?_of_block (hg.block p.block hp.2.1 fun e => hp.2.2 e.symm)).weak fun _b hb => ⟨hb.1, Nat.lt_of_lt_of_le hb.2.1 hg.size, hb.2.2⟩⟩
theorem keepP_map (M : List (Pr × Value)) (s : ByteArray) : (keepP M s).map Prod.fst = (M.map Prod.fst).filter fun p => !decide (p.name = s) := by
  unfold keepP; rw [List.filter_map]; rfl
/-- what without leaves -/
def WoR (l : List Pr) (s : ByteArray) (w : World) (e : Ending) (w' : World) : Prop := (∃ (A : Option Addr) (c : Nat) (M : List (Pr × Value)), e = .returned (.slice A M.length c) ∧ c = l.length ∧ M.map Prod.fst = (l.filter fun p => !decide (p.name = s)) ∧ OwnP w' w.heap.size A c M) ∧ Below w.heap.size w w'

set_option maxRecDepth 100000 in
set_option maxHeartbeats 1000000 in
/-- prop.without -/
theorem withoutP_any (A : Option Addr) (n c : Nat) (l : List Pr) (s : ByteArray) (w : World) (B : Nat) (hB : B ≤ w.heap.size) (h : RPr w B (.slice A n c) l) :
    Calls Tryz.prog 178 #[.slice A n c, .string s] w (WoR l s w) := by
  have hbig := h.len.2.2
  have hnl := Lib.hid h.len.1
  have HCP := Lib.hid (copyPropsO_any A n c l (w.alloc (.cells #[.string s] 9)) B (by simp; omega) (h.below ((Below.refl _ _).alloc hB _)))
  have HAL : Hid (Below w.heap.size w (w.alloc (.cells #[.string s] 9))) := (Below.refl _ _).alloc (Nat.le_refl _) _
  have HC0 : Hid ((w.alloc (.cells #[.string s] 9)).cell? ⟨w.heap.size, 0, none⟩ = some (.string s)) := (Blk.new w 9 #[.string s]).cell 0
  have hz : (w.alloc (.cells #[.string s] 9)).heap.size = w.heap.size + 1 := by simp
  clear h
  go_enter Tryz.func178, Tryz.ntmps178
  go_wp2_with fail
  refine HCP.out.mono ?_
  rintro e w1 ⟨⟨A1, L, rfl, hLl, hrow, hnest⟩, hb1⟩
  have hlen : L.length = l.length := by rw [← hLl, List.length_map]
  have HO1 : Hid (OwnP w1 _ A1 L.length L) := ⟨hrow, hnest⟩
  have HB1 : Hid (Below w.heap.size w w1) := HAL.out.trans (hb1.mono HAL.out.size)
  have hz1 := hb1.size
  have HDW := Lib.hid (delW_any L A1 L.length L.length w.heap.size (w.alloc (.cells #[.string s] 9)).heap.size s w1 hrow rfl (by rw [hlen, ← hnl.out]; exact hbig) hb1.size (by rw [hz]; omega)
    (by rw [hb1.cell (p := ⟨w.heap.size, 0, none⟩) (by rw [hz]; show w.heap.size < _; omega)]; exact HC0.out) (hrow.rpr (by rw [hlen, ← hnl.out]; exact hbig) hnest) (fun x hx => (hnest x hx).slice))
  have HLL := Lib.hid hLl
  have HLEN := Lib.hid hlen
  clear hrow hnest hb1 hLl hlen
  go_wp2_with fail
  refine HDW.out.mono ?_
  rintro e w2 ⟨rfl, hr2, hg2⟩
  have HO2 : Hid (OwnP w2 w.heap.size A1 L.length (keepP L s)) := by
    have h1 := HO1.out.grown hg2 hr2 fun x hx => (List.mem_filter.1 hx).1
    refine ⟨⟨h1.row.1, h1.row.2.imp id fun ⟨g, a, b, c, d⟩ => ⟨g, a, by omega, c, d⟩⟩, fun x hx => (h1.nest x hx).weak fun b hb => ⟨by omega, hb.2⟩⟩
  have HB2 : Hid (Below w.heap.size w w2) := by
    refine HB1.out.trans ⟨hg2.os, hg2.tape, hg2.output, hg2.size, fun k hk => hg2.block k (by have := HB1.out.size; omega) fun e => ?_⟩
    rcases HO1.out.row.2 with ⟨h0, _⟩ | ⟨g, h0, hg, _⟩
    · rw [h0] at e; cases e
    · rw [h0] at e; injection e with e; have e : k = g := e; rw [hz] at hg; omega
  clear hr2 hg2
  go_wp2_with fail
  go_ret
  exact ⟨⟨A1, L.length, keepP L s, rfl, HLEN.out, by rw [keepP_map, HLL.out], HO2.out⟩, HB2.out⟩
end Go.Proofs.YtmkicfjcgbfaaaaGreat
namespace Go.Proofs.YtmkicfjcgbfaaaaGreat
open Go.RowKit

/-- an append of one property where there is room -/
theorem run_appP_room (w : World) (g c base : Nat) (M : List (Pr × Value)) (hge : base ≤ g) (hR : CRp w g M) (hF : FRp w g c) (hl : M.length + 1 ≤ c) (ad : Addr) (x : Pr × Value) (hx1 : ∀ u ∈ prV x, u.oneCell' = true) (hx : ∀ j u, (prV x)[j]? = some u → w.cell? (ad.add j) = some u) :
    ∃ w', (∀ ty, (Builtin.append_ #[36, 36] ty #[.slice (some ⟨g, 0, none⟩) M.length c, .slice (some ad) 1 1]).run Tryz.prog w = .ok (.slice (some ⟨g, 0, none⟩) (M.length + 1) c) w') ∧ RowP w' base (some ⟨g, 0, none⟩) c (M ++ [x]) ∧ w.grownBy w' (some g) := by
  obtain ⟨i0, hi0, hz0, hz1, hz2⟩ := info_parts prop_info
  obtain ⟨cur, hb, hs⟩ := hF
  obtain ⟨R, hR1⟩ : ∃ R, R = cur.toList.take (M.length * 6) ++ prV x ++ cur.toList.drop (M.length * 6 + 6) := ⟨_, rfl⟩
  have hcl : cur.toList.length = cur.size := Array.length_toList
  have htk : cur.toList.take (M.length * 6) = M.flatMap prV := hR.take hb (by omega)
  have hRl : R.length = cur.size := by
    rw [hR1, List.length_append, List.length_append, List.length_take, List.length_drop, prV_len, hcl]; omega
  have hb' : Blk (w.setRow g R.toArray) g 116 R.toArray := setRow_heap w g _ _ _ _ hb
  refine ⟨w.setRow g R.toArray, fun ty => ?_, ⟨by simpa using hl, .inr ⟨g, rfl, hge, fun k y hy j u hu => ?_, ⟨_, hb', by rw [List.size_toArray, hRl]; exact hs⟩⟩⟩, ⟨rfl, rfl, rfl, by rw [setRow_size]; exact Nat.le_refl _, fun k hk hne => setRow_other _ _ _ _ (fun e => hne (by rw [e]))⟩⟩
  · have := run_append_room (P := Tryz.prog) (ty := ty) w 36 116 i0 Tryz.underlying36 hi0 g M.length c cur hb ad 1 1 (prV x) (by rw [prV_len, hz1]) hx hx1 hl (by rw [prV_len, hz1]; omega)
    rw [hz1, prV_len, ← hR1] at this
    exact this
  · have hj := (List.getElem?_eq_some_iff.1 hu).1
    rw [prV_len] at hj
    have hk := (List.getElem?_eq_some_iff.1 hy).1
    rw [List.length_append, List.length_singleton] at hk
    have h5 := fm_get prV 6 prV_len (M ++ [x]) k j y hy hj
    rw [hb'.cell, ← hu, ← h5, hR1, htk, List.flatMap_append, List.flatMap_singleton, List.getElem?_toArray, List.getElem?_append_left (by rw [List.length_append, prs_cells, prV_len]; omega)]
/-- properties in a new row -/
theorem rowP_new (w : World) (base G : Nat) (M : List (Pr × Value)) (z : Array Value) (hb : base ≤ w.heap.size) (hG : M.length ≤ G) (hz : z.size = (G - M.length) * 6) :
    RowP (w.drew.alloc (.cells ((M.flatMap prV).toArray ++ z) 116)) base (some ⟨w.heap.size, 0, none⟩) G M := by
  have hk : Blk (w.drew.alloc (.cells ((M.flatMap prV).toArray ++ z) 116)) w.heap.size 116 ((M.flatMap prV).toArray ++ z) := Blk.new w.drew _ _
  refine ⟨hG, .inr ⟨_, rfl, hb, fun k y hy j u hu => ?_, ⟨_, hk, by rw [Array.size_append, List.size_toArray, prs_cells, hz]; omega⟩⟩⟩
  have hj := (List.getElem?_eq_some_iff.1 hu).1
  rw [prV_len] at hj
  have hkl := (List.getElem?_eq_some_iff.1 hy).1
  have h5 := fm_get prV 6 prV_len M k j y hy hj
  rw [hk.cell, ← hu, ← h5, Array.getElem?_append_left (by rw [List.size_toArray, prs_cells]; omega), List.getElem?_toArray]
theorem run_appP_grow (w : World) (A : Option Addr) (c base : Nat) (M : List (Pr × Value)) (hb : base ≤ w.heap.size) (h : RowP w base A c M) (hl : c = M.length) (hm : M.length ≤ 1000) (ad : Addr) (x : Pr × Value) (hx : ∀ j u, (prV x)[j]? = some u → w.cell? (ad.add j) = some u) :
    ∃ (G : Nat) (w' : World), (∀ ty, (Builtin.append_ #[36, 36] ty #[.slice A M.length c, .slice (some ad) 1 1]).run Tryz.prog w = .ok (.slice (some ⟨w.heap.size, 0, none⟩) (M.length + 1) G) w') ∧ RowP w' base (some ⟨w.heap.size, 0, none⟩) G (M ++ [x]) ∧ w.grownBy w' none := by
  obtain ⟨i0, hi0, hz0, hz1, hz2⟩ := info_parts prop_info
  have hgr : ∀ cs, w.grownBy (w.drew.alloc (.cells cs 116)) none := fun cs => ⟨rfl, rfl, rfl, by simp, fun k hk _ => by
    show (w.heap.push _)[k]? = _
    rw [Array.getElem?_push, if_neg (by omega)]⟩
  have hzs : ∀ n, (Builtin.zeroCells pZ.cells n).size = n * 6 := fun n => by simp [Builtin.zeroCells, pZ, Value.cells]
  have hfl : (M ++ [x]).flatMap prV = M.flatMap prV ++ prV x := by rw [List.flatMap_append, List.flatMap_singleton]
  rcases h.2 with ⟨rfl, h0⟩ | ⟨g, rfl, hge, hR, hF⟩
  · subst h0
    obtain rfl : M = [] := List.eq_nil_of_length_eq_zero hl.symm
    refine ⟨grownCap w 1 0 116, _, fun ty => run_append_nil (P := Tryz.prog) w 36 ty 116 i0 pZ Tryz.underlying36 hi0 hz0 ad 1 1 (prV x) (by rw [prV_len, hz1]) hx (by omega) (by omega) (by rw [hz2]; omega), ?_, hgr _⟩
    have := rowP_new w base (grownCap w 1 0 116) ([] ++ [x]) (Builtin.zeroCells pZ.cells (grownCap w 1 0 116 - 1)) hb (grownCap_ge w _ _ _) (hzs _)
    rw [hfl] at this
    exact this
  · refine ⟨grownCap w (M.length + 1) c 116, _, fun ty => run_append_grow (P := Tryz.prog) w 36 ty 116 i0 pZ Tryz.underlying36 hi0 hz0 ⟨g, 0, none⟩ M.length c (M.flatMap prV) (by rw [prs_cells, hz1]) (fun j v hj => ?_) ad 1 1 (prV x) (by rw [prV_len, hz1]) hx (by omega) (by omega) (by rw [hz2]; exact growslice_fits (by omega) (by omega)), ?_, hgr _⟩
    · obtain ⟨a, e, _, hc⟩ := (h.reads.2 (by have := (List.getElem?_eq_some_iff.1 hj).1; rw [prs_cells] at this; omega))
      have e : a = ⟨g, 0, none⟩ := (Option.some.inj e).symm
      rw [← e]
      exact hc j v hj
    · have := rowP_new w base (grownCap w (M.length + 1) c 116) (M ++ [x]) (Builtin.zeroCells pZ.cells (grownCap w (M.length + 1) c 116 - (M.length + 1))) hb (by rw [List.length_append]; exact grownCap_ge w _ _ _) (by rw [hzs, List.length_append]; rfl)
      rw [hfl] at this
      simpa using this
end Go.Proofs.YtmkicfjcgbfaaaaGreat
