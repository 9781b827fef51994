/-
  DERIVED. A base without error: what is below a block, and the way to a block. Plain law. Conditions: none.
  The walk of ask.view's mark. Conditions: sizes.
  What the law TopTree says of a base without error, in plain Lean: the order has each block but the root, each behind its parent; a path ends at its block and begins at a page. Conditions: a base without error.
  The walk of tree.Check. Conditions: sizes.
  By an AI agent.
-/
import Derived.Test.YtemngidkfgcigaaGreatDoorKa23
import Derived.Test.YtemngidkfgcigaaGreatDoorKa17
import Derived.Test.YtemngidkfgcigaaGreatDoorKa16
import Derived.Test.YtemngidkfgcigaaGreatDoorKa19
namespace Go.Proofs.YtemngidkfgcigaaGreatDoor

/-- a base without error; f says how deep its blocks are -/
structure Good (l : List Bl) (f : Int → Option Int) : Prop where
  kids : Kids l
  dep : IsDep l f
  all : ∀ x ∈ l, ∃ d : Nat, f x.id = some (d : Int) ∧ d ≤ 40
  blk : ∀ (k : Nat) (x : Bl), l[k]? = some x → blkErr (prevB l k) x = 0
theorem lvlE_zero {l : List Bl} {f : Int → Option Int} (hf : IsDep l f) : ∀ {M : List Bl}, lvlE f M = 0 → ∀ x ∈ M, ∃ d : Nat, f x.id = some (d : Int) ∧ d ≤ 40
  | [], _, x, hx => by cases hx
  | a :: M, h, x, hx => by
    rw [lvlE] at h
    cases hfa : f a.id with
    | none => rw [hfa, if_pos rfl] at h; omega
    | some d =>
      rw [hfa, if_neg (by simp)] at h
      by_cases hd : 40 < d
      · rw [Option.getD_some, if_pos hd] at h; omega
      · rw [Option.getD_some, if_neg hd] at h
        rcases List.mem_cons.1 hx with rfl | hx
        · obtain ⟨n, rfl, _⟩ := (hf _ _).1 hfa
          exact ⟨n, hfa, by omega⟩
        · exact lvlE_zero hf h x hx
theorem good_of {l : List Bl} {f : Int → Option Int} (h : baseE l f = 0) (hf : DepOk l f) : Good l f := by
  unfold baseE at h
  by_cases h0 : l.length = 0
  · rw [if_pos h0] at h; omega
  rw [if_neg h0] at h
  by_cases h1 : 2000 < l.length
  · rw [if_pos h1] at h; omega
  rw [if_neg h1] at h
  by_cases h2 : blksErr none l = 0
  case neg => rw [if_pos h2] at h; exact absurd h h2
  rw [if_neg (fun e => e h2)] at h
  by_cases h3 : allKids l l = 0
  case neg => rw [if_pos h3] at h; exact absurd h h3
  rw [if_neg (fun e => e h3)] at h
  have K := kids_of h0 h1 h2 h3
  exact ⟨K, hf K, lvlE_zero (hf K) h, blks_zero h2⟩
section
variable {l : List Bl} {f : Int → Option Int}
theorem Good.dp (G : Good l f) {x : Bl} (hx : x ∈ l) : ∃ d : Nat, f x.id = some (d : Int) ∧ Dp l x.id d ∧ d ≤ 40 := by
  obtain ⟨d, h1, h2⟩ := G.all x hx
  obtain ⟨n, e, h3⟩ := (G.dep _ _).1 h1
  obtain rfl : d = n := by omega
  exact ⟨d, h1, h3, h2⟩
theorem Good.low (G : Good l f) {id : Int} {d : Nat} (h : Dp l id d) : d ≤ 40 := by
  obtain ⟨y, hy, e⟩ := h.mem G.kids
  obtain ⟨d', h1, h2, h3⟩ := G.dp hy
  rw [e] at h2
  rw [h.fun_ G.kids h2]; exact h3
/-- the parent of the block with an id -/
def parOf (l : List Bl) (id : Int) : Int := parAt l (posOf l id)
theorem parOf_eq (K : Kids l) {y : Bl} (hy : y ∈ l) : parOf l y.id = y.parent := by
  obtain ⟨p, hp, e⟩ := List.mem_iff_getElem.1 hy
  have h : l[p]? = some y := by rw [List.getElem?_eq_getElem hp, e]
  unfold parOf parAt
  rw [posOf_of K.rise h, Int.toNat_natCast, h]
theorem parOf_kid (K : Kids l) {b : Bl} (hb : b ∈ l) {k : Int} (hk : k ∈ b.kids) : parOf l k = b.id := by
  obtain ⟨_, y, hy, e1, e2⟩ := K.kid b hb k hk
  rw [← e1, parOf_eq K hy, e2]
/-- the block with an id -/
theorem Dp.blk (K : Kids l) {id : Int} {d : Nat} (h : Dp l id d) : ∃ (p : Nat) (b : Bl), posOf l id = (p : Int) ∧ l[p]? = some b ∧ b.id = id := by
  obtain ⟨b, hb, e⟩ := h.mem K
  obtain ⟨p, hp, e'⟩ := List.mem_iff_getElem.1 hb
  have h : l[p]? = some b := by rw [List.getElem?_eq_getElem hp, e']
  exact ⟨p, b, by rw [← e]; exact posOf_of K.rise h, h, e⟩
/-- the ids of all blocks below one, each ahead of its kids -/
def ord (l : List Bl) : Nat → Int → List Int
  | 0, _ => []
  | n + 1, id => match l[(posOf l id).toNat]? with
    | some b => b.kids.flatMap fun k => k :: ord l n k
    | none => []
theorem ord_at {id : Int} {p : Nat} {b : Bl} (hp : posOf l id = (p : Int)) (hb : l[p]? = some b) (n : Nat) : ord l (n + 1) id = b.kids.flatMap fun k => k :: ord l n k := by
  rw [ord, hp, Int.toNat_natCast, hb]
def upN (l : List Bl) : Nat → Int → Int
  | 0, x => x
  | j + 1, x => upN l j (parOf l x)
theorem upN_succ : ∀ (j : Nat) (x : Int), upN l (j + 1) x = parOf l (upN l j x)
  | 0, _ => rfl
  | j + 1, x => by
    show upN l (j + 1) (parOf l x) = _
    rw [upN_succ j]; rfl
theorem ord_mem (K : Kids l) : ∀ (n : Nat) {id : Int} {d : Nat} {x : Int}, Dp l id d → x ∈ ord l n id → ∃ j, Dp l x (d + (j + 1)) ∧ upN l (j + 1) x = id
  | 0, _, _, _, _, h => by cases h
  | n + 1, id, d, x, hd, h => by
    obtain ⟨p, b, h1, h2, h3⟩ := hd.blk K
    have hb := List.mem_of_getElem? h2
    rw [ord_at h1 h2, List.mem_flatMap] at h
    obtain ⟨k, hk, hx⟩ := h
    have hdk : Dp l k (d + 1) := .step b d k (h3 ▸ hd) hb hk
    rcases List.mem_cons.1 hx with rfl | hx
    · exact ⟨0, hdk, (parOf_kid K hb hk).trans h3⟩
    · obtain ⟨j, h4, h5⟩ := ord_mem K n hdk hx
      refine ⟨j + 1, by rw [show d + (j + 1 + 1) = d + 1 + (j + 1) by omega]; exact h4, ?_⟩
      rw [upN_succ, h5, parOf_kid K hb hk, h3]
theorem ord_nodup (K : Kids l) : ∀ (n : Nat) {id : Int} {d : Nat}, Dp l id d → (ord l n id).Nodup
  | 0, _, _, _ => List.nodup_nil
  | n + 1, id, d, hd => by
    obtain ⟨p, b, h1, h2, h3⟩ := hd.blk K
    have hb := List.mem_of_getElem? h2
    rw [ord_at h1 h2]
    have part : ∀ k ∈ b.kids, ∀ x ∈ k :: ord l n k, ∃ j, Dp l x (d + 1 + j) ∧ upN l j x = k := fun k hk x hx => by
      have hdk : Dp l k (d + 1) := .step b d k (h3 ▸ hd) hb hk
      rcases List.mem_cons.1 hx with rfl | hx
      · exact ⟨0, hdk, rfl⟩
      · obtain ⟨j, h4, h5⟩ := ord_mem K n hdk hx
        exact ⟨j + 1, h4, h5⟩
    unfold List.Nodup
    rw [List.pairwise_flatMap]
    refine ⟨fun k hk => ?_, ?_⟩
    · have hdk : Dp l k (d + 1) := .step b d k (h3 ▸ hd) hb hk
      refine List.nodup_cons.2 ⟨fun hm => ?_, ord_nodup K n hdk⟩
      obtain ⟨j, h4, _⟩ := ord_mem K n hdk hm
      have := h4.fun_ K hdk
      omega
    · refine List.Pairwise.imp_of_mem ?_ (K.nod b hb)
      intro k1 k2 hk1 hk2 hne x hx y hy e
      subst e
      obtain ⟨j1, a1, a2⟩ := part k1 hk1 x hx
      obtain ⟨j2, b1, b2⟩ := part k2 hk2 x hy
      have := a1.fun_ K b1
      obtain rfl : j1 = j2 := by omega
      exact hne (a2.symm.trans b2)
theorem nodup_short : ∀ {L M : List Int}, L.Nodup → (∀ x ∈ L, x ∈ M) → L.length ≤ M.length
  | [], _, _, _ => Nat.zero_le _
  | a :: L, M, h, hm => by
    have ha := hm a (by simp)
    have hn := List.nodup_cons.1 h
    have := nodup_short (M := M.erase a) hn.2 fun x hx => by
      rw [List.mem_erase_of_ne (fun e => hn.1 (by rw [← e]; exact hx))]
      exact hm x (by simp [hx])
    rw [List.length_erase_of_mem ha] at this
    have := List.length_pos_of_mem ha
    rw [List.length_cons]
    omega
theorem ord_short (K : Kids l) (n : Nat) {id : Int} {d : Nat} (hd : Dp l id d) : (ord l n id).length ≤ l.length := by
  have := nodup_short (M := l.map (·.id)) (ord_nodup K n hd) fun x hx => by
    obtain ⟨j, h, _⟩ := ord_mem K n hd hx
    obtain ⟨y, hy, e⟩ := h.mem K
    exact List.mem_map.2 ⟨y, hy, e⟩
  rwa [List.length_map] at this
theorem flat_take_le (g : Int → List Int) (ks : List Int) (j : Nat) : ((ks.take j).flatMap g).length ≤ (ks.flatMap g).length := by
  rw [← List.take_append_drop j ks, List.flatMap_append, List.length_append, List.take_append_drop]
  omega
/-- the blocks from the page of a block to it -/
def pth (l : List Bl) : Nat → Int → List Int
  | 0, _ => []
  | d + 1, id => pth l d (parOf l id) ++ [id]
theorem pth_len : ∀ (d : Nat) (id : Int), (pth l d id).length = d
  | 0, _ => rfl
  | d + 1, id => by rw [pth, List.length_append, pth_len d]; rfl
theorem Dp.up (K : Kids l) {id : Int} {d : Nat} (h : Dp l id (d + 1)) : id ≠ 0 ∧ Dp l (parOf l id) d := by
  generalize hn : d + 1 = n at h
  cases h with
  | root => omega
  | step b d' k h hb hk =>
    obtain rfl : d = d' := by omega
    rw [parOf_kid K hb hk]
    exact ⟨(K.kid b hb _ hk).1, h⟩
theorem Dp.zero_iff (K : Kids l) {id : Int} {d : Nat} (h : Dp l id d) : id = 0 ↔ d = 0 := by
  constructor
  · rintro rfl; exact h.zero K
  · rintro rfl
    generalize hn : (0 : Nat) = n at h
    cases h with
    | root => rfl
    | step b d' k h hb hk => omega
theorem pth_i64 (K : Kids l) : ∀ {d : Nat} {id : Int}, Dp l id d → ∀ x ∈ pth l d id, I64 x
  | 0, _, _, x, hx => by cases hx
  | d + 1, id, h, x, hx => by
    rw [pth, List.mem_append] at hx
    rcases hx with hx | hx
    · exact pth_i64 K (h.up K).2 x hx
    · obtain rfl : x = id := by simpa using hx
      obtain ⟨y, hy, rfl⟩ := h.mem K
      have := K.ids y hy
      unfold I64; omega
end
end Go.Proofs.YtemngidkfgcigaaGreatDoor
namespace Go.Proofs.YtemngidkfgcigaaGreatDoor
open Go.RowKit

theorem vw_int_info : (Tryz.prog.info? 3).map (fun i => (i.zero, i.size, i.bytes)) = some (some (.int .i64 0), 1, 8) := by kernel_rfl
theorem newCellsV (w : World) (cs : List Value) (t : TypeId) : ∀ j u, cs[j]? = some u → (w.alloc (.cells cs.toArray t)).cell? ((⟨w.heap.size, 0, none⟩ : Addr).add j) = some u := by
  intro j u hu
  rw [Addr.add_lit, Nat.zero_add, (Blk.new w t cs.toArray).cell j]
  simpa using hu
section
variable {X w w' : World} {vb g0 g1 g2 g3 na K : Nat} {bs : Value} {fa fp fd fg fd' fg' : Int → Option Int} {os : List Int}
end
theorem gr_transV {w w1 w2 : World} {r : Option Nat} (h : w.grownBy w1 r) (k : w1.grownBy w2 r) : w.grownBy w2 r :=
  ⟨k.os.trans h.os, k.tape.trans h.tape, k.output.trans h.output, Nat.le_trans h.size k.size, fun i hi hn => (k.block i (Nat.lt_of_lt_of_le hi h.size) hn).trans (h.block i hi hn)⟩
/-- an entry that has been reached, to be written -/
def EP (cur : World) (g n st : Nat) (f : Int → Option Int) (x a : Int) : Prop := ∀ w2 : World, w2.heap[g]? = cur.heap[g]? → ∃ w3, (Instr.entryStore 52 (.map (some g)) (.int .i64 (st : Int)) (.int .i64 a)).run Tryz.prog w2 = .ok () w3 ∧ VM w3 g (n + 1) (putF f x a) ∧ w2.grownBy w3 (some g)
theorem EP.same {cur cur' : World} {g n st : Nat} {f : Int → Option Int} {x a : Int} (h : EP cur g n st f x a) (e : cur'.heap[g]? = cur.heap[g]?) : EP cur' g n st f x a := fun w2 h2 => h w2 (h2.trans e)
theorem EP.go {cur : World} {g n st : Nat} {f : Int → Option Int} {x a : Int} (h : EP cur g n st f x a) : ∃ w3, (Instr.entryStore 52 (.map (some g)) (.int .i64 (st : Int)) (.int .i64 a)).run Tryz.prog cur = .ok () w3 ∧ VM w3 g (n + 1) (putF f x a) ∧ cur.grownBy w3 (some g) := h cur rfl
theorem reach_entry {w : World} {g n : Nat} {f : Int → Option Int} (h : VM w g n f) (hn : n ≤ 1000000) {x a : Int} (hx : I64 x) (ha : I64 a) : ∃ (v0 : Value) (st : Nat) (w1 : World), (Instr.mapEntry 52 (.map (some g)) (.int .i64 x)).run Tryz.prog w = .ok (.tuple #[v0, .int .i64 (st : Int)]) w1 ∧ w.grownBy w1 (some g) ∧ EP w1 g n st f x a := by
  obtain ⟨v0, st, w1, q1, q2, _, q4⟩ := MapIn.entry h vw_elem Tryz.underlying3 Tryz.underlying52 (by unfold maxLen; omega) hx
  exact ⟨v0, st, w1, q1, q2, fun w2 h2 => q4 w2 a ha h2⟩

/-- how deep a block lies -/
def dpI (f : Int → Option Int) (x : Int) : Int := (f x).getD 0
theorem flat_succ (g : Int → List Int) {ks : List Int} {j : Nat} {k : Int} (h : ks[j]? = some k) : (ks.take (j + 1)).flatMap g = (ks.take j).flatMap g ++ g k := by
  rw [List.take_add_one, h, List.flatMap_append]
  simp
set_option maxHeartbeats 8000000 in
set_option maxRecDepth 100000 in
theorem mark_any {X : World} {vb g0 g1 g2 g3 na : Nat} {A : Option Addr} {n c : Nat} {fa : Int → Option Int} (l : List Bl) (f : Int → Option Int) (G : Good l f) (hb : RB X X.heap.size (.slice A n c) l) (hfa : ∀ (p : Nat) (b : Bl), l[p]? = some b → fa b.id = some (p : Int)) :
    ∀ (m : Nat) (id pg : Int) (d : Nat) (w : World) (K : Nat) (os : List Int) (fp fd fg : Int → Option Int), Dp l id d → d + m = 41 → I64 pg → K + 3 * (id :: ord l m id).length ≤ 100000 → os.length + (id :: ord l m id).length ≤ 100000 → VW X w vb g0 g1 g2 g3 (.slice A n c) na K fa os fp fd fg →
    Calls Tryz.prog 38 #[.pointer (some ⟨vb, 0, none⟩), .int .i64 id, .int .i64 pg, .int .i64 (d : Int)] w fun e w' => e = .returned (.tuple #[]) ∧ VW X w' vb g0 g1 g2 g3 (.slice A n c) na (K + 3 * (id :: ord l m id).length) fa (os ++ id :: ord l m id) (plF (id :: ord l m id) os.length fp) (gnF (dpI f) (id :: ord l m id) fd) (cnF pg (id :: ord l m id) fg) := by
  intro m
  induction m with
  | zero =>
    intro id pg d w K os fp fd fg hdp hdm
    have := G.low hdp
    omega
  | succ m ih =>
  intro id pg d w K os fp fd fg hdp hdm hpg hK0 ho0 h
  obtain ⟨p, bb, hpo, hbl, hbid⟩ := hdp.blk G.kids
  have hbm := List.mem_of_getElem? hbl
  have hd40 := G.low hdp
  have hid : I64 id := by
    have := G.kids.ids bb hbm
    rw [hbid] at this
    unfold I64; omega
  have hdf : dpI f id = (d : Int) := by
    unfold dpI
    rw [(G.dep id d).2 ⟨d, rfl, hdp⟩]
    rfl
  have hoe := ord_at hpo hbl m
  have HIH := Lib.hid ih
  have HOE := Lib.hid hoe
  have HDF := Lib.hid hdf
  have HFA : Hid (fa id = some (p : Int)) := by have := hfa p bb hbl; rw [hbid] at this; exact this
  have HKD : Hid (∀ k ∈ bb.kids, Dp l k (d + 1)) := fun k hk => .step bb d k (hbid ▸ hdp) hbm hk
  have HBL := Lib.hid hbl
  rw [hoe, List.length_cons] at hK0 ho0
  have HK0 := Lib.hid hK0
  have HO0 := Lib.hid ho0
  have hK : K ≤ 100000 := by omega
  have ho : os.length ≤ 100000 := by omega
  have hd : d ≤ 1000 := by omega
  rw [hoe]
  clear ih hoe hdf hbl hbid hpo hbm hdp hK0 ho0
  obtain ⟨i0, hi, xq0, xq1, xq2⟩ := info_parts vw_int_info
  have h0 : VW X w.drew vb g0 g1 g2 g3 (.slice A n c) na K fa os fp fd fg := h.step (Below.refl _ _).drew
  obtain ⟨v, k1, k2, k3⟩ := h0.ex
  obtain ⟨A1, c1, rfl⟩ : ∃ A1 c1, v = .slice A1 os.length c1 := by
    obtain ⟨A1, c1, e, _⟩ := own_reads k2
    exact ⟨A1, c1, e⟩
  obtain ⟨n1, hn1, m1⟩ := h0.mp
  have hol : I64 (os.length : Int) := by unfold I64; omega
  obtain ⟨w1, hup, hm1, hg1⟩ := m1.put vw_elem Tryz.underlying3 Tryz.underlying52 (by unfold maxLen; omega) hid (a := (os.length : Int)) hol
  have h1 := h0.putP hg1 hm1 (by omega)
  have x2 : w.drew.cell? ⟨vb, 2, none⟩ = some (.slice A1 os.length c1) := k1.cell 2
  have x3 : w.drew.cell? ⟨vb, 3, none⟩ = some (.map (some g1)) := k1.cell 3
  have HH1 := Lib.hid h1
  have HB := Lib.hid hb
  have jd : (d : Int) ≤ 1000 := by omega
  have jd0 : (0 : Int) ≤ (d : Int) := by omega
  clear h h0 k1 k2 k3 m1 hm1 hg1 h1 hb hol
  go_enter Tryz.func38, Tryz.ntmps38
  go_upto_region 0 with fail
  go_cut [] (fun wc => wc = w1)
  case first =>
    go_region_with fail
    all_goals
      go_wp2_with fail
      go_meet
      rfl
  case rest =>
  obtain rfl := hcut
  obtain ⟨v, k1, k2, k3⟩ := HH1.out.ex
  obtain ⟨A2, c2, rfl⟩ : ∃ A1 c1, v = .slice A1 os.length c1 := by
    obtain ⟨A1, c1, e, _⟩ := own_reads k2
    exact ⟨A1, c1, e⟩
  have x5 : wc.cell? ⟨vb, 2, none⟩ = some (.slice A2 os.length c2) := k1.cell 2
  have x5f : wc.frozen? ⟨vb, 2, none⟩ = false := k1.frozen 2
  have HK1 := Lib.hid k1
  have HK2 := Lib.hid k2
  have HK3 := Lib.hid k3
  have hzX : X.heap.size ≤ wc.heap.size := HH1.out.below.size
  have hkm : os.length + 1 ≤ maxLen := by unfold maxLen; omega
  have hkb : (os.length + 1) * 8 ≤ 140737488355328 := by omega
  clear k1 k2 k3 x2 x3 hup
  go_upto_region 1 with fail
  go_wp2_with (at_builtin; refine wpList_append_own_at _ rfl _ _ 23 rfl X.heap.size 3 i0 (.int .i64 0) 1 8 Tryz.underlying23 hi xq0 xq1 xq2 rfl (by decide) _ os.length _ rfl (HK2.out.alloc _) ⟨wc.heap.size, 0, none⟩ 1 1 [.int .i64 id] rfl rfl (newCellsV _ _ _) (by intro u hu; simp at hu; subst hu; rfl) hkm hkb (by simp; omega) ?_)
  intro v' w3 hown3 hg3 hxx3 hat3
  clear hxx3
  obtain ⟨A3, c3, rfl⟩ : ∃ A1 c1, v' = .slice A1 (os.length + 1) c1 := by
    obtain ⟨A1, c1, e, _⟩ := own_reads hown3
    exact ⟨A1, c1, e⟩
  obtain ⟨⟨y2, y2f⟩, h3⟩ := HH1.out.push HK1.out (fun b hb => (own_block_lt HK2.out b hb).1) HK3.out hown3 hg3 (by simpa using hat3)
  have HH3 := Lib.hid h3
  clear hown3 hg3 hat3 HK1 HK2 HK3 h3 HH1 x5 x5f
  go_upto_region 2 with fail
  clear y2 y2f
  generalize w3.setCell ⟨vb, 2, none⟩ (.slice A3 (os.length + 1) c3) = W3 at HH3 ⊢
  -- page and depth: the order is forced: the pages' entry, its store, the depths' entry, its store
  have h5 : VW X W3.drew vb g0 g1 g2 g3 (.slice A n c) na (K + 1) fa (os ++ [id]) (putF fp id (os.length : Int)) fd fg := HH3.out.step (Below.refl _ _).drew
  obtain ⟨n3, hn3, m3⟩ := h5.mg
  obtain ⟨ve3, st3, w5, q5, b5, P3⟩ := reach_entry (a := pg) m3 (by omega) hid hpg
  obtain ⟨w6, q6, m6, b6⟩ := EP.go P3
  have h6 := h5.putG (gr_transV b5 b6) m6 (by omega)
  obtain ⟨n2, hn2, m2⟩ := h6.md
  have hdd : I64 (d : Int) := by unfold I64; omega
  obtain ⟨ve2, st2, w7, q7, b7, P2⟩ := reach_entry (a := (d : Int)) m2 (by omega) hid hdd
  obtain ⟨w8, q8, m8, b8⟩ := EP.go P2
  have h8 := h6.putD (gr_transV b7 b8) m8 (by omega)
  obtain ⟨vv, kk, _, _⟩ := h5.ex
  have p4 : W3.drew.cell? ⟨vb, 4, none⟩ = some (.map (some g2)) := kk.cell 4
  have p5 : W3.drew.cell? ⟨vb, 5, none⟩ = some (.map (some g3)) := kk.cell 5
  have H8 := Lib.hid h8
  clear h5 m3 P3 m6 h6 m2 P2 m8 b5 b6 b7 b8 h8 kk HH3
  go_cut [] (fun wx => Hid (VW X wx vb g0 g1 g2 g3 (.slice A n c) na (K + 3) fa (os ++ [id]) (putF fp id (os.length : Int)) (putF fd id (d : Int)) (putF fg id pg)))
  case first =>
    go_region_with fail
    all_goals
      clear q5 q6 q7 q8 p4 p5
      go_wp2_with fail
      go_meet
      exact H8
  case rest =>
  have HW := hcut
  clear hcut H8 q5 q6 q7 q8 p4 p5
  obtain ⟨wd, rfl⟩ : ∃ x, x = wc := ⟨_, rfl⟩
  go_wp2_with fail
  refine (vblock_any l id p bb wd HW.out HB.out hid HFA.out HBL.out).mono ?_
  rintro e w2 ⟨Ak, nk, ck, Ap, np, cp, rfl, hk, _hpr, hb2⟩
  obtain ⟨hkn, _, hk8⟩ := hk.len
  have HKN := Lib.hid hkn
  have HK := Lib.hid hk
  have HS0 : Hid (VW X w2 vb g0 g1 g2 g3 (.slice A n c) na (K + 3 * (1 + ((bb.kids.take 0).flatMap fun k => k :: ord l m k).length)) fa (os ++ id :: ((bb.kids.take 0).flatMap fun k => k :: ord l m k)) (plF (id :: ((bb.kids.take 0).flatMap fun k => k :: ord l m k)) os.length fp) (gnF (dpI f) (id :: ((bb.kids.take 0).flatMap fun k => k :: ord l m k)) fd) (cnF pg (id :: ((bb.kids.take 0).flatMap fun k => k :: ord l m k)) fg)) := by
    have := HW.out.step hb2
    rw [← HDF.out] at this
    exact this
  clear hb2 hk hkn _hpr HW HBL HFA
  unfold AB
  dsimp only
  have hfk := fun W => field_kids (.int .i64 bb.id) (.int .i64 bb.parent) (.string bb.text) (.slice Ap np cp) Ak nk ck W
  go_wp2_with fail
  clear hfk
  go_loopg [51] nk (fun gg s51 wr => ∃ j : Nat, j + gg = nk ∧ s51 = .int .i64 (j : Int) ∧ Hid (VW X wr vb g0 g1 g2 g3 (.slice A n c) na (K + 3 * (1 + ((bb.kids.take j).flatMap fun k => k :: ord l m k).length)) fa (os ++ id :: ((bb.kids.take j).flatMap fun k => k :: ord l m k)) (plF (id :: ((bb.kids.take j).flatMap fun k => k :: ord l m k)) os.length fp) (gnF (dpI f) (id :: ((bb.kids.take j).flatMap fun k => k :: ord l m k)) fd) (cnF pg (id :: ((bb.kids.take j).flatMap fun k => k :: ord l m k)) fg)))
  case atStart => exact ⟨0, by omega, rfl, HS0⟩
  case round =>
    obtain ⟨j, hjg, rfl, hs⟩ := hrel
    by_cases hj : j < nk
    · obtain ⟨k, hkj⟩ : ∃ k, bb.kids[j]? = some k := ⟨_, List.getElem?_eq_getElem (by have := HKN.out; omega)⟩
      obtain ⟨bk, ok, rfl, hbk, hck⟩ := HK.out.at_ hkj
      have g0' : wr.cell? ⟨bk, ok + j, none⟩ = some (.int .i64 k) := (hs.out.below.cell (p := ⟨bk, ok + j, none⟩) hbk).trans hck
      have hfl := flat_succ (fun k => k :: ord l m k) hkj
      have hle := flat_take_le (fun k => k :: ord l m k) bb.kids (j + 1)
      rw [hfl, List.length_append] at hle
      have hk0 := HK0.out
      have ho1 := HO0.out
      have CM := HIH.out k pg (d + 1) wr _ _ _ _ _ (HKD.out k (List.mem_of_getElem? hkj)) (by omega) hpg (by omega) (by rw [List.length_append, List.length_cons]; omega) hs.out
      have HFL := Lib.hid hfl
      have HCM := Lib.hid CM
      have iw : IntKind.i64.wrap ((d : Int) + 1) = ((d + 1 : Nat) : Int) := by rw [IntWalk.i64_in _ (by omega)]; omega
      have j1 : (j : Int) < (nk : Int) := by omega
      clear hck hfl hle hk0 ho1 CM hkj HS0 hs
      go_wp2_with fail
      refine HCM.out.mono ?_
      rintro e w3 ⟨rfl, h3⟩
      have H3 : Hid (VW X w3 vb g0 g1 g2 g3 (.slice A n c) na (K + 3 * (1 + ((bb.kids.take (j + 1)).flatMap fun k => k :: ord l m k).length)) fa (os ++ id :: ((bb.kids.take (j + 1)).flatMap fun k => k :: ord l m k)) (plF (id :: ((bb.kids.take (j + 1)).flatMap fun k => k :: ord l m k)) os.length fp) (gnF (dpI f) (id :: ((bb.kids.take (j + 1)).flatMap fun k => k :: ord l m k)) fd) (cnF pg (id :: ((bb.kids.take (j + 1)).flatMap fun k => k :: ord l m k)) fg)) := by
        show VW _ _ _ _ _ _ _ _ _ _ _ _ _ _ _
        rw [HFL.out, ← List.cons_append, plF_app, gnF_app, cnF_app, ← List.append_assoc, List.length_append]
        rw [List.length_append] at h3
        refine h3.mono (by omega)
      clear h3 HCM
      go_wp2_with fail
      go_roundg (nk - (j + 1))
      case measure => omega
      case rel => exact ⟨j + 1, by omega, by go_num, H3⟩
    · obtain rfl : nk = j := by omega
      have ht : bb.kids.take nk = bb.kids := List.take_of_length_le (by rw [← HKN.out]; exact Nat.le_refl _)
      rw [ht] at hs
      have hs2 : Hid (VW X wr vb g0 g1 g2 g3 (.slice A n c) na (K + 3 * (id :: (bb.kids.flatMap fun k => k :: ord l m k)).length) fa (os ++ id :: (bb.kids.flatMap fun k => k :: ord l m k)) (plF (id :: (bb.kids.flatMap fun k => k :: ord l m k)) os.length fp) (gnF (dpI f) (id :: (bb.kids.flatMap fun k => k :: ord l m k)) fd) (cnF pg (id :: (bb.kids.flatMap fun k => k :: ord l m k)) fg)) := hs.out.mono (by rw [List.length_cons]; omega)
      clear hs HS0 HIH
      go_wp2_with fail
      go_end0
      exact ⟨rfl, hs2.out⟩
end Go.Proofs.YtemngidkfgcigaaGreatDoor
namespace Go.Proofs.YtemngidkfgcigaaGreatDoor
open Go.RowKit

section
variable {l : List Bl} {f : Int → Option Int}
theorem ord_blk (K : Kids l) (n : Nat) {b : Bl} (hb : b ∈ l) : ord l (n + 1) b.id = b.kids.flatMap fun k => k :: ord l n k := by
  obtain ⟨p, hp, e⟩ := List.mem_iff_getElem.1 hb
  have h : l[p]? = some b := by rw [List.getElem?_eq_getElem hp, e]
  exact ord_at (posOf_of K.rise h) h n
theorem sub_flat {α β : Type} {g : α → List β} {x : α} : ∀ {L : List α}, x ∈ L → (g x).Sublist (L.flatMap g)
  | a :: L, h => by
    rw [List.flatMap_cons]
    rcases List.mem_cons.1 h with rfl | h
    · exact List.sublist_append_left _ _
    · exact (sub_flat h).trans (List.sublist_append_right _ _)
/-- a block's kid stands behind it -/
theorem ord_kid (K : Kids l) {b : Bl} (hb : b ∈ l) {k : Int} (hk : k ∈ b.kids) : ∀ (n : Nat) {id : Int} {d : Nat}, Dp l id d → b.id ∈ ord l n id → [b.id, k].Sublist (ord l (n + 1) id)
  | 0, _, _, _, h => by cases h
  | n + 1, id, d, hd, h => by
    obtain ⟨p, c, h1, h2, h3⟩ := hd.blk K
    have hc := List.mem_of_getElem? h2
    rw [ord_at h1 h2, List.mem_flatMap] at h
    rw [ord_at h1 h2]
    obtain ⟨k', hk', hx⟩ := h
    refine List.Sublist.trans ?_ (sub_flat (g := fun k => k :: ord l (n + 1) k) hk')
    rcases List.mem_cons.1 hx with e | hx
    · rw [← e]
      refine List.Sublist.cons_cons _ (List.singleton_sublist.2 ?_)
      rw [ord_blk K n hb]
      exact List.mem_flatMap.2 ⟨k, hk, List.mem_cons_self⟩
    · have hdk : Dp l k' (d + 1) := .step c d k' (h3 ▸ hd) hc hk'
      exact List.Sublist.cons _ (ord_kid K hb hk n hdk hx)
/-- each block below the root is in the order -/
theorem ord_has (K : Kids l) : ∀ {id : Int} {d : Nat}, Dp l id d → ∀ n, d ≤ n → id ≠ 0 → id ∈ ord l n 0 := by
  intro id d h
  induction h with
  | root => intro n _ h0; exact absurd rfl h0
  | step b d k hd hb hk ih =>
    intro n hn _
    obtain ⟨m, rfl⟩ : ∃ m, n = m + 1 := ⟨n - 1, by omega⟩
    by_cases h0 : b.id = 0
    · have := ord_blk K m hb
      rw [h0] at this
      rw [this]
      exact List.mem_flatMap.2 ⟨k, hk, List.mem_cons_self⟩
    · exact (ord_kid K hb hk m .root (ih m (by omega) h0)).subset (by simp)
theorem ord_zero (K : Kids l) (n : Nat) : (0 : Int) ∉ ord l n 0 := fun h => by
  obtain ⟨j, h1, _⟩ := ord_mem K n .root h
  have := h1.zero K
  omega
end
end Go.Proofs.YtemngidkfgcigaaGreatDoor
namespace Go.Proofs.YtemngidkfgcigaaGreatDoor
open Go.RowKit

set_option maxHeartbeats 4000000 in
/-- tree.Check -/
theorem treeCheck_any (l : List Bl) (f : Int → Option Int) (A : Option Addr) (n c : Nat) (w : World) (B : Nat) (hB : B ≤ w.heap.size) (h : RB w B (.slice A n c) l) (hf : DepOk l f) :
    Calls Tryz.prog 18 #[.slice A n c] w fun e w' => e = .returned (.int .i64 (baseE l f)) ∧ Below w.heap.size w w' := by
  obtain ⟨V, hV⟩ : ∃ V, V = baseE l f := ⟨_, rfl⟩
  rw [← hV]
  unfold baseE at hV
  have hn := h.len
  rw [← hn.1] at hV
  by_cases h0 : n = 0
  · subst h0
    rw [if_pos rfl] at hV
    subst hV
    clear h hn hf
    go_enter Tryz.func18, Tryz.ntmps18
    go_wp2_with fail
    go_ret
    exact ⟨rfl, Below.refl _ _⟩
  rw [if_neg h0] at hV
  have h0' : ((n : Int) == 0) = false := by simpa using h0
  by_cases h1 : 2000 < n
  · rw [if_pos h1] at hV
    have h1' : (2000 : Int) < (n : Int) := by omega
    subst hV
    clear h hn hf h0 h1
    go_enter Tryz.func18, Tryz.ntmps18
    go_wp2_with fail
    go_ret
    exact ⟨rfl, Below.refl _ _⟩
  rw [if_neg h1] at hV
  have h1' : ¬ (2000 : Int) < (n : Int) := by omega
  have HBK := Lib.hid fun (k : Nat) (x : Bl) (W : World) (hx : l[k]? = some x) (hW : Below w.heap.size w W) => checkBlock_any l A n c k x W B (Nat.le_trans hB hW.size) (h.below (hW.mono hB)) hx
  have HCK := Lib.hid fun (W : World) (hr : Rise l) (hi : IdsIn l) (hW : Below w.heap.size w W) => checkKids_any l A n c W B (Nat.le_trans hB hW.size) (h.below (hW.mono hB)) hr hi
  have HDP := Lib.hid fun (W : World) (K : Kids l) (hW : Below w.heap.size w W) => depths_any l A n c W B (Nat.le_trans hB hW.size) (h.below (hW.mono hB)) K
  have HE := Lib.hid (intElem (P := Tryz.prog) (e := 3) Tryz.underlying3 int_zero)
  have H := Lib.hid h
  have HN := Lib.hid hn
  have HV := Lib.hid hV
  have HF := Lib.hid hf
  have H0 := Lib.hid h0
  have H1 := Lib.hid h1
  obtain ⟨U, hU⟩ : ∃ U, U = blksErr none l := ⟨_, rfl⟩
  rw [← hU] at HV
  have HU : Hid (U = blksErr (prevB l 0) (l.drop 0)) := hU
  have HU0 : Hid (U = 0 → blksErr none l = 0) := fun e => hU.symm.trans e
  clear h hn hV hf h0 hU
  go_enter Tryz.func18, Tryz.ntmps18
  go_wp2_with fail
  go_loopg [21] n (fun gg s21 wr => ∃ i : Nat, i + gg = n ∧ s21 = .int .i64 (i : Int) ∧ Hid (U = blksErr (prevB l i) (l.drop i)) ∧ Hid (Below w.heap.size w wr))
  case atStart => exact ⟨0, by omega, rfl, HU, Below.refl _ _⟩
  case round =>
    obtain ⟨i, hig, rfl, hno, hbel⟩ := hrel
    obtain ⟨W1, rfl⟩ : ∃ W1, W1 = wr := ⟨_, rfl⟩
    by_cases hk : i < n
    case pos =>
      obtain ⟨x, hx⟩ : ∃ x, l[i]? = some x := ⟨_, List.getElem?_eq_getElem (by have := HN.out.1; omega)⟩
      have hst := hno.out.trans (blksErr_at hx)
      have HX := HBK.out i x W1 hx hbel.out
      obtain ⟨e, he⟩ : ∃ e, e = blkErr (prevB l i) x := ⟨_, rfl⟩
      rw [← he] at hst HX
      have HX := Lib.hid HX
      have j0 : (0 : Int) ≤ (i : Int) := by omega
      have j1 : (i : Int) < (n : Int) := by omega
      clear hx he
      by_cases hz : e = 0
      · have HS := Lib.hid (hst.trans (if_neg (fun h => h hz)))
        subst hz
        clear hst
        go_wp2_with fail
        refine HX.out.mono ?_
        rintro e w2 ⟨rfl, hb⟩
        have HB2 : Hid (Below w.heap.size w w2) := hbel.out.trans (hb.mono hbel.out.size)
        clear hb
        go_wp2_with fail
        go_roundg (n - (i + 1))
        case measure => omega
        case rel => exact ⟨i + 1, by omega, by go_num, HS, HB2⟩
      · have hs := hst.trans (if_pos hz)
        have HZ := Lib.hid (HV.out.trans ((if_pos (by rw [hs]; exact hz)).trans hs))
        have hz' : (e != 0) = true := by simpa using hz
        clear hst hs hz
        go_wp2_with fail
        refine HX.out.mono ?_
        rintro e' w2 ⟨rfl, hb⟩
        have HB2 : Hid (Below w.heap.size w w2) := hbel.out.trans (hb.mono hbel.out.size)
        clear hb
        go_wp2_with fail
        go_ret
        exact ⟨by rw [HZ.out]; rfl, HB2.out⟩
    case neg =>
    obtain rfl : n = i := by omega
    have hu : U = 0 := hno.out.trans (by rw [List.drop_of_length_le (by rw [← HN.out.1]; exact Nat.le_refl _)]; cases prevB l n <;> rfl)
    have hb0 := HU0.out hu
    have HV2 := Lib.hid (HV.out.trans (if_neg (fun h => h hu)))
    have HX := HCK.out W1 (rise_of hb0) (ids_of hb0) hbel.out
    have HK : Hid (allKids l l = 0 → Kids l) := fun h3 => kids_of (by have := HN.out.1; have := H0.out; omega) (by have := HN.out.1; have := H1.out; omega) hb0 h3
    obtain ⟨e, he⟩ : ∃ e, e = allKids l l := ⟨_, rfl⟩
    rw [← he] at HX HV2 HK
    have HX := Lib.hid HX
    clear he hu hb0 hno
    by_cases hz : e = 0
    case neg =>
      have HZ := Lib.hid (HV2.out.trans (if_pos hz))
      have hz' : (e != 0) = true := by simpa using hz
      clear hz
      go_wp2_with fail
      refine HX.out.mono ?_
      rintro e' w2 ⟨rfl, hb⟩
      have HB2 : Hid (Below w.heap.size w w2) := hbel.out.trans (hb.mono hbel.out.size)
      clear hb
      go_wp2_with fail
      go_ret
      exact ⟨by rw [HZ.out]; rfl, HB2.out⟩
    have KK := Lib.hid (HK.out hz)
    have HV3 := Lib.hid (HV2.out.trans (if_neg (fun h => h hz)))
    subst hz
    clear HV HV2
    go_wp2_with fail
    refine HX.out.mono ?_
    rintro e' w2 ⟨rfl, hb⟩
    have HB2 : Hid (Below w.heap.size w w2) := hbel.out.trans (hb.mono hbel.out.size)
    have HY := Lib.hid (HDP.out w2 KK.out HB2.out)
    clear hb
    go_wp2_with fail
    refine HY.out.mono ?_
    rintro e' w3 ⟨⟨bm, km, f', rfl, hm, hdep⟩, hb⟩
    obtain rfl : f' = f := hdep.uniq (HF.out KK.out)
    have HB3 : Hid (Below w.heap.size w w3) := HB2.out.trans (hb.mono HB2.out.size)
    have HM := Lib.hid hm
    have HD := Lib.hid hdep
    clear hb hm hdep
    go_wp2_with fail
    go_loopg [40] n (fun gg s40 wr => ∃ i : Nat, i + gg = n ∧ s40 = .int .i64 (i : Int) ∧ Hid (V = lvlE f' (l.drop i)) ∧ Hid (IM wr bm km f') ∧ Hid (Below w.heap.size w wr))
    case atStart => exact ⟨0, by omega, rfl, HV3, HM, HB3⟩
    case round =>
      obtain ⟨i, hig, rfl, hno, hm, hbel⟩ := hrel
      by_cases hk : i < n
      case neg =>
        obtain rfl : n = i := by omega
        have hu : V = 0 := hno.out.trans (by rw [List.drop_of_length_le (by rw [← HN.out.1]; exact Nat.le_refl _)]; rfl)
        have HZ := Lib.hid hu
        clear hu
        go_wp2_with fail
        go_ret
        exact ⟨by rw [HZ.out]; rfl, hbel.out⟩
      obtain ⟨x, hx⟩ : ∃ x, l[i]? = some x := ⟨_, List.getElem?_eq_getElem (by have := HN.out.1; omega)⟩
      obtain ⟨b, off, Ak, nk, ck, Ap, np, cp, rfl, hbb, g0, g1, g2, g3, g4, _, _⟩ := (H.out.below (hbel.out.mono hB)).at_ hx
      have hst := hno.out.trans (lvlE_at hx)
      have hxi := KK.out.ids.i64 (List.mem_of_getElem? hx)
      have hlk := (hm.out.alloc (.cells #[.int .i64 x.id, .int .i64 x.parent, .slice Ak nk ck, .string x.text, .slice Ap np cp] 35)).look_ok HE.out Tryz.underlying3 Tryz.underlying52 hxi
      have HMA := Lib.hid (hm.out.alloc (.cells #[.int .i64 x.id, .int .i64 x.parent, .slice Ak nk ck, .string x.text, .slice Ap np cp] 35))
      have HAL := Lib.hid (hbel.out.alloc hbel.out.size (.cells #[.int .i64 x.id, .int .i64 x.parent, .slice Ak nk ck, .string x.text, .slice Ap np cp] 35))
      have j0 : (0 : Int) ≤ (i : Int) := by omega
      have j1 : (i : Int) < (n : Int) := by omega
      clear hx
      cases hfx : f' x.id with
      | none =>
        rw [hfx] at hlk hst
        dsimp only [Option.getD_none, Option.isSome_none] at hlk
        have HZ := Lib.hid (hst.trans (if_pos rfl))
        clear hst hfx
        go_wp2_with fail
        go_ret
        exact ⟨by rw [HZ.out]; rfl, HAL.out⟩
      | some d =>
        rw [hfx] at hlk hst
        dsimp only [Option.getD_some, Option.isSome_some] at hlk hst
        have hst := hst.trans (if_neg (by simp))
        clear hfx
        by_cases hd : 40 < d
        · have HZ := Lib.hid (hst.trans (if_pos hd))
          clear hst
          go_wp2_with fail
          go_ret
          exact ⟨by rw [HZ.out]; rfl, HAL.out⟩
        · have HZ := Lib.hid (hst.trans (if_neg hd))
          clear hst
          go_wp2_with fail
          go_roundg (n - (i + 1))
          case measure => omega
          case rel => exact ⟨i + 1, by omega, by go_num, HZ, HMA, HAL⟩
end Go.Proofs.YtemngidkfgcigaaGreatDoor
