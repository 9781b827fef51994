/-
  DERIVED. The walk of tree.prune. Conditions: sizes.
  The walk of tree.Prune. Conditions: sizes.
  By an AI agent.
-/
import Derived.Test.YtmkicfjcgbfaaaaGreatTm02
import Derived.Test.YtmkicfjcgbfaaaaGreatTg38
import Derived.Test.YtmkicfjcgbfaaaaGreatTg31
import Derived.Test.YtmkicfjcgbfaaaaGreatTg04
import Derived.Test.YtmkicfjcgbfaaaaGreatTg41
import Derived.Stop.RegionWithIn
import Derived.Sort.CutIn
namespace Go.Proofs.YtmkicfjcgbfaaaaGreat
open Go.RowKit Go.Shelf

attribute [local go_sem] Oper.semAt_some

/-- the operations that take a block away -/
def prO (l : List Bl) (k : Int) : List Opn := (blkAt l k).props.map (fun p => ⟨5, k, 0, 0, 0, 0, ⟨#[]⟩, p.name, zV⟩) ++ [⟨2, k, 0, 0, 0, 0, ⟨#[]⟩, ⟨#[]⟩, zV⟩]
theorem wpListIn_append_any {F : Fence} {n : Nat} {P : Program} (w : World) {ops : Array Oper} {rest : List Oper} {o : Oper} {a : Act} {Q : Exit → Act → World → Prop}
    (hg : o.guard = none) (s x : Operand) (t : TypeId) (hop : o.op = Op.call { callee := Callee.builtin Builtin.append, args := #[s, x], argTypes := #[t, t] })
    (base : Nat) (e : TypeId) (i : TypeInfo) (z : Value) (size bytes : Nat) (h1 : P.underlying t = some (.slice e)) (h2 : P.info? e = some i) (h3 : i.zero = some z) (h4 : i.size = size) (h5 : i.bytes = bytes) (h6 : z.cells.size = size) (h7 : 0 < size)
    (v : Value) (k : Nat) (xs : List Value) (hs : a.eval s = v) (hown : w.ownsRow base e size v k xs) (B : Nat) (A : Option Addr) (m c : Nat) (news : List Value) (hx : a.eval x = .slice A m c) (hr : Reads w B size A m news)
    (h1c : ∀ u ∈ news, u.oneCell' = true) (b1 : k + m ≤ maxLen) (b2 : (k + m) * bytes ≤ 140737488355328) (b3 : base ≤ w.heap.size)
    (hK : ∀ v' w', w'.ownsRow base e size v' (k + m) (xs ++ news) → w.grownBy w' v.ownBlock → (v'.ownBlock = v.ownBlock ∨ v'.ownBlock = some w.heap.size) → wpListIn F n P ops Q rest (a.put o.dst v') w') :
    wpListIn F n P ops Q (o :: rest) a w := by
  refine wpListIn_plain hg fun K hK' => ?_
  obtain ⟨v', w', hrun, r1, r2, r3⟩ := run_append_any (P := P) w base t o.type e i z size bytes h1 h2 h3 h4 h5 h6 h7 v k xs hown B A m c news hr h1c b1 b2 b3
  unfold Oper.wpIn
  refine ⟨?_, ?_⟩
  · simp [Oper.about, hop, resolve, Target.leads, Sem.run_pure]
  · rw [Oper.semAt_plain F _ _ (by rw [hop]; intro c hc'; cases hc')]
    simp [execOp, hop, resolve, invoke, builtin, hs, hx, hrun, Result.andThen]
    exact hK' _ _ (hK v' w' r1 r2 r3)

/-- operations of which none has items -/
def rowsO (os : List Opn) : List Value := os.flatMap fun o => opV (o, .slice none 0 0)
theorem rowsO_len (os : List Opn) : (rowsO os).length = os.length * 13 := by
  unfold rowsO
  induction os with
  | nil => rfl
  | cons a os ih => rw [List.flatMap_cons, List.length_append, ih, List.length_cons, opV_len]; omega
theorem rowsO_snoc (os : List Opn) (o : Opn) : rowsO (os ++ [o]) = rowsO os ++ opV (o, .slice none 0 0) := by simp [rowsO]
theorem own_pos {w : World} {base n size : Nat} {e : TypeId} {v : Value} {xs : List Value} (h : w.ownsRow base e size v n xs) (hn : 0 < n) : ∃ g cap, v = .slice (some ⟨g, 0, none⟩) n cap ∧ base ≤ g ∧ g < w.heap.size := by
  have hob := own_block_lt h
  rcases h.2 with ⟨_, h0⟩ | ⟨g, cap, cur, rfl, hb, _⟩
  · omega
  · exact ⟨g, cap, rfl, hb, (hob g rfl).2⟩
/-- the operations so far: in a box, in a row of the loop's own -/
structure PrS (W0 W : World) (bl : Nat) (os : List Opn) : Prop where
  box : ∃ v, Boxed W bl 23 v ∧ W.ownsRow W0.heap.size 31 13 v os.length (rowsO os) ∧ True
  bel : Below bl W0 W
section
variable {W0 W W' w1 : World} {bl a b : Nat} {os : List Opn}
theorem PrS.below (h : PrS W0 W bl os) (hb : Below W.heap.size W W') (hbl : bl < W0.heap.size) : PrS W0 W' bl os := by
  obtain ⟨v, h1, h2, _⟩ := h.box
  have hz := h.bel.size
  exact ⟨⟨v, Blk.below (B := W.heap.size) h1 hb (by omega), own_below h2 hb, trivial⟩, h.bel.trans (hb.mono (by omega))⟩
theorem PrS.app (h : PrS W0 W bl os) (hbl : bl < W0.heap.size) (ha : a < W0.heap.size) (hb2 : b < W0.heap.size) (hna : a ≠ bl) (hnb : b ≠ bl) {v v' : Value} (hv : Boxed W bl 23 v) (hrow : W.ownsRow W0.heap.size 31 13 v os.length (rowsO os)) {o : Opn}
    (hown : w1.ownsRow W0.heap.size 31 13 v' (os.length + 1) (rowsO os ++ opV (o, .slice none 0 0))) (hg : W.grownBy w1 v.ownBlock) :
    Boxed w1 bl 23 v ∧ PrS W0 (w1.setCell ⟨bl, 0, none⟩ v') bl (os ++ [o]) ∧ KeepsOthers W (w1.setCell ⟨bl, 0, none⟩ v') ∧ K2 a b W (w1.setCell ⟨bl, 0, none⟩ v') ∧ Below bl W (w1.setCell ⟨bl, 0, none⟩ v') := by
  have hz := h.bel.size
  have hob := own_block_lt hrow
  have hvb : ∀ i, i < W0.heap.size → some i ≠ v.ownBlock := fun i hi e => by have := (hob i e.symm).1; omega
  have hv1 : Boxed w1 bl 23 v := Blk.grown hv hg (hvb bl hbl)
  have hzs : (w1.setCell ⟨bl, 0, none⟩ v').heap.size = w1.heap.size := by simp [World.setCell]
  have hbA : Below bl W (w1.setCell ⟨bl, 0, none⟩ v') := ((Below.refl bl W).grown hg (by omega) (fun g hg' => by have := (hob g hg').1; omega)).setCell (p := ⟨bl, 0, none⟩) (Nat.le_refl _) v'
  refine ⟨hv1, ⟨⟨v', ?_, ?_, trivial⟩, h.bel.trans hbA⟩, ?_, ?_, hbA⟩
  · exact Blk.set_ (cs := #[v]) hv1 0 v'
  · rw [rowsO_snoc, List.length_append]
    exact ownsRow_setCell_below hown (a := ⟨bl, 0, none⟩) hbl v'
  · refine (KeepsOthers.of_grownBy hg fun j o hj ho => ?_).trans (KeepsOthers.setCell _ _ _)
    rcases hrow.2 with ⟨rfl, _⟩ | ⟨g, cap, cur, rfl, _, hh, _⟩
    · cases hj
    · have e : g = j := Option.some.inj hj
      subst e
      rw [hh] at ho
      cases ho; rfl
  · refine ⟨by rw [hzs]; exact hg.size, ?_, ?_⟩
    · rw [Below.heap_setCell w1 _ _ a hna]; exact hg.block a (by omega) (hvb a ha)
    · rw [Below.heap_setCell w1 _ _ b hnb]; exact hg.block b (by omega) (hvb b hb2)
end
theorem ros_own {W : World} {base : Nat} {v : Value} {os : List Opn} (h : W.ownsRow base 31 13 v os.length (rowsO os)) (hb : os.length * 144 ≤ 140737488351232) (hO : ∀ o ∈ os, OI o ∧ o.val.items = []) :
    ∃ A c, v = .slice A os.length c ∧ ROs W W.heap.size (.slice A os.length os.length) os ∧ os.length ≤ c ∧ (A = none → os.length = 0 ∧ c = 0) := by
  have hr : ∀ A c, v = .slice A os.length c → ROs W W.heap.size (.slice A os.length os.length) os := fun A c e => by
    obtain ⟨A', c', e', hR⟩ := own_reads h
    rw [e] at e'
    injection e' with e1 e2 e3
    subst e1
    refine ⟨A, _, _, os.map fun o => (o, .slice none 0 0), by rw [List.map_map]; exact List.map_id os, rfl, by simp, ⟨Nat.le_refl _, hb⟩, ?_, fun x hx => ?_⟩
    · rw [List.flatMap_map]; exact hR
    · obtain ⟨o, ho, rfl⟩ := List.mem_map.1 hx
      refine ⟨?_, (hO o ho).1⟩
      show RV _ _ _ o.val.items
      rw [(hO o ho).2]
      exact RV.nil _ _
  rcases h.2 with ⟨e, h0⟩ | ⟨g, cap, cur, e, hg, hh, hle, _⟩
  · refine ⟨none, 0, ?_, ?_, ?_, fun _ => ⟨?_, rfl⟩⟩
    · rw [e, h0]
    · exact hr none 0 (by rw [e, h0])
    · omega
    · omega
  · exact ⟨_, cap, e, hr _ _ e, hle, fun e => by cases e⟩
theorem prO_ok {l : List Bl} {f : Int → Option Int} (G : Good l f) {k : Int} (hk : ∃ b ∈ l, b.id = k) {o : Opn} (ho : o ∈ prO l k) : OI o ∧ o.val.items = [] := by
  have hI : I64 k := by
    obtain ⟨b, hb, rfl⟩ := hk
    have := G.kids.ids b hb
    unfold I64; omega
  have h0 : I64 0 := by unfold I64; omega
  unfold prO at ho
  rcases List.mem_append.1 ho with h | h
  · obtain ⟨p, _, rfl⟩ := List.mem_map.1 h
    exact ⟨⟨hI, h0, h0, h0, h0, Nat.zero_le _⟩, rfl⟩
  · cases List.mem_singleton.1 h
    exact ⟨⟨hI, h0, h0, h0, h0, Nat.zero_le _⟩, rfl⟩
theorem Good.pos_at' {l : List Bl} {f : Int → Option Int} (G : Good l f) {x : Bl} (hx : x ∈ l) : ∃ k : Nat, posOf l x.id = (k : Int) ∧ l[k]? = some x := by
  obtain ⟨k, hk⟩ := List.mem_iff_getElem?.1 hx
  exact ⟨k, posOf_of G.kids.rise hk, hk⟩
theorem idsOf_of {l : List Bl} : ∀ {L : List Int}, (∀ x ∈ L, ∃ b ∈ l, b.id = x) → ∃ zs : List (IdOf l), zs.map (·.1) = L
  | [], _ => ⟨[], rfl⟩
  | a :: L, h => by
    obtain ⟨zs, hz⟩ := idsOf_of (L := L) fun x hx => h x (by simp [hx])
    exact ⟨⟨a, h a (by simp)⟩ :: zs, by rw [List.map_cons, hz]⟩
theorem prO_len {l : List Bl} {f : Int → Option Int} (G : Good l f) {k : Int} (hk : ∃ b ∈ l, b.id = k) : (prO l k).length ≤ 21 := by
  obtain ⟨b, hb, rfl⟩ := hk
  obtain ⟨p, hp, hbp⟩ := G.pos_at' hb
  unfold prO
  rw [blkAt_of hp hbp, List.length_append, List.length_map]
  have := (G.tree.loc b hb).2.2
  unfold cpErr at this
  by_cases e : 20 < b.props.length
  · rw [if_pos e] at this; omega
  · show b.props.length + 1 ≤ 21; omega
theorem prs_len {l : List Bl} {f : Int → Option Int} (G : Good l f) : ∀ (pre : List (IdOf l × Nat)), (pre.flatMap fun p => prO l p.1.1).length ≤ 21 * pre.length
  | [] => Nat.zero_le _
  | p :: pre => by
    rw [List.flatMap_cons, List.length_append, List.length_cons]
    have := prO_len G p.1.2
    have := prs_len G pre
    omega
set_option maxRecDepth 100000 in
set_option maxHeartbeats 8000000 in
/-- tree.prune -/
theorem prune_any (l : List Bl) (f : Int → Option Int) (G : Good l f) (A : Option Addr) (n c : Nat) (id : Int) (hid : ∃ b ∈ l, b.id = id) (d : Nat) (hDp : Dp l id d) (hd40 : d ≤ 40) (w : World) (h : RB w w.heap.size (.slice A n c) l) :
    Calls Tryz.prog 102 #[.slice A n c, .int .i64 id] w fun e w' => (∃ A' n' c', e = .returned (.slice A' n' c') ∧ ROs w' w'.heap.size (.slice A' n' c') ((id :: ord l (41 - d) id).reverse.flatMap (prO l))) ∧ Below w.heap.size w w' := by
  obtain ⟨b, hb, hbi⟩ := hid
  obtain ⟨i0, hi, hz0, hz1, hz2⟩ := info_parts int_info
  obtain ⟨m0, mhi, mz0, mz1, mz2⟩ := info_parts op_info
  have HH := Lib.hid h
  have HB := Lib.hid fun W (hW : Below w.heap.size w W) => treeBelow_any l G.kids G.low' A n c w.heap.size (41 - d) id d W hDp (by omega) hW.size (h.below hW)
  obtain ⟨L, hL⟩ : ∃ L, L = ord l (41 - d) id := ⟨_, rfl⟩
  rw [← hL] at HB
  unfold IntsR at HB
  have hLs : L.length ≤ 2000 := by have := ord_short G.kids (41 - d) hDp; have := G.kids.short; rw [hL]; omega
  obtain ⟨zs, hzs⟩ : ∃ zs : List (IdOf l), zs.map (·.1) = id :: L := idsOf_of fun x hx => by
    rcases List.mem_cons.1 hx with rfl | hx
    · exact ⟨b, hb, hbi⟩
    · rw [hL] at hx
      obtain ⟨j, hj, _⟩ := ord_mem G.kids _ hDp hx
      exact hj.mem G.kids
  have HZS := Lib.hid hzs
  have HLL := Lib.hid hL
  clear hL hzs
  refine (callsIn_wide (n := 6)).1 ?_
  refine callsIn_of_wp_marks Tryz.func102 rfl trivial ?_ rfl
  simp only [Tryz.ntmps102, List.size_toArray, List.length_cons, List.length_nil, Nat.reduceAdd, Nat.reduceSub, Array.replicate_succ, Array.replicate_zero, List.push_toArray, List.append_toArray, List.nil_append, List.cons_append]
  have hb3 : Below w.heap.size w (((w.alloc (.cells #[.slice A n c] 22)).alloc (.cells #[.slice none 0 0] 23)).alloc (.cells #[.int .i64 id] 3)) := (((Below.refl _ _).alloc (Nat.le_refl _) _).alloc (by simp) _).alloc (by simp; omega) _
  obtain ⟨W3, hW3⟩ : ∃ W3, W3 = ((w.alloc (.cells #[.slice A n c] 22)).alloc (.cells #[.slice none 0 0] 23)).alloc (.cells #[.int .i64 id] 3) := ⟨_, rfl⟩
  rw [← hW3] at hb3
  have B0 : Blk W3 w.heap.size 22 #[.slice A n c] := by rw [hW3]; exact ((Blk.new w _ _).alloc _).alloc _
  have B1 : Blk W3 (w.heap.size + 1) 23 #[.slice none 0 0] := by
    rw [hW3]
    have := (Blk.new (w.alloc (.cells #[.slice A n c] 22)) 23 #[.slice none 0 0]).alloc (.cells #[.int .i64 id] 3)
    simpa using this
  have O2 : W3.ownsRow w.heap.size 3 1 (.slice (some ⟨w.heap.size + 1 + 1, 0, none⟩) 1 1) 1 [.int .i64 id] := by
    have hk : Blk W3 (w.heap.size + 1 + 1) 3 #[.int .i64 id] := by
      rw [hW3]
      have := Blk.new ((w.alloc (.cells #[.slice A n c] 22)).alloc (.cells #[.slice none 0 0] 23)) 3 #[.int .i64 id]
      simpa using this
    exact ⟨rfl, .inr ⟨w.heap.size + 1 + 1, 1, #[.int .i64 id], rfl, by omega, hk, Nat.le_refl _, by unfold maxLen; omega, rfl, rfl⟩⟩
  have HB3 := Lib.hid hb3
  have HO2 := Lib.hid O2
  have P0 := Lib.hid B0
  have P1 := Lib.hid B1
  have HW3 := Lib.hid hW3
  clear hb3 O2 B0 B1
  gi_wp2
  rw [← hW3]
  clear hW3
  refine ⟨trivial, (callsIn_wide.2 (HB.out W3 HB3.out)).mono ?_⟩
  rintro e w2 ⟨⟨A2, n2, c2, rfl, hA2, hr2, _, hc2⟩, hb2⟩
  have HB23 : Hid (Below W3.heap.size W3 w2) := hb2
  have HZ23 : Hid (W3.heap.size ≤ w2.heap.size) := hb2.size
  have HR2 := Lib.hid (hr2.reads (B := w2.heap.size) fun b hb => hb.2)
  have hl2 : n2 ≤ 2000 := by have := HR2.out.len.1; omega
  have HOW := Lib.hid (own_below HO2.out hb2)
  have hzw2 : w.heap.size ≤ w2.heap.size := Nat.le_trans HB3.out.size hb2.size
  clear hb2 hr2 hA2
  gi_wp2_with (gi_at_builtin; refine wpListIn_append_any _ rfl _ _ 34 rfl w.heap.size 3 i0 (.int .i64 0) 1 8 Tryz.underlying34 hi hz0 hz1 hz2 rfl (by decide) _ 1 [.int .i64 id] rfl HOW.out w2.heap.size A2 n2 c2 (L.map (.int .i64)) rfl HR2.out.reads (ints_one L) (by unfold maxLen; omega) (by omega) hzw2 ?_; intro v5 w5 hown5 hg5 hat5; obtain ⟨g5, c5, rfl, hg5b, hg5l⟩ := own_pos hown5 (by omega))
  refine ⟨trivial, (callsIn_wide.2 (back_any _ _ _ _)).mono ?_⟩
  rintro e w6 ⟨rfl, rfl⟩
  gi_wp2
  -- the world at the range
  have hz3 := HB3.out.size
  obtain ⟨W0, hW0⟩ : ∃ W0, W0 = w5.alloc (.cells #[.slice (some ⟨g5, 0, none⟩) (1 + n2) c5] 34) := ⟨_, rfl⟩
  have hz25 : w2.heap.size ≤ w5.heap.size := hg5.size
  have hbl : w.heap.size + 1 < w5.heap.size := by have := P1.out.lt; have := HZ23.out; omega
  have hg5n : g5 ≠ w.heap.size ∧ g5 ≠ w.heap.size + 1 := by
    rcases hat5 with e | e
    · have e : g5 = w.heap.size + 1 + 1 := Option.some.inj e
      omega
    · have e : g5 = w2.heap.size := Option.some.inj e
      have := P1.out.lt; have := HZ23.out; omega
  have hb05 : Below (w.heap.size + 1 + 1) w2 w5 := by
    refine (Below.refl _ w2).grown hg5 (by have := P1.out.lt; have := HZ23.out; omega) fun g hg => ?_
    have e : w.heap.size + 1 + 1 = g := Option.some.inj hg
    omega
  have hbl5 : Below (w.heap.size + 1 + 1) W3 w5 := (HB23.out.mono (by have := P1.out.lt; omega)).trans hb05
  have BB : Blk W0 w.heap.size 22 #[.slice A n c] := by rw [hW0]; exact (P0.out.below hbl5 (by omega)).alloc _
  have BL : Boxed W0 (w.heap.size + 1) 23 (.slice none 0 0) := by rw [hW0]; exact Blk.alloc (P1.out.below hbl5 (by omega)) _
  have BS : Blk W0 w5.heap.size 34 #[.slice (some ⟨g5, 0, none⟩) (1 + n2) c5] := by rw [hW0]; exact Blk.new _ _ _
  have HBW : Hid (Below w.heap.size w W0) := by
    show Below _ _ _
    rw [hW0]
    exact (HB3.out.trans (hbl5.mono (by omega))).alloc (by omega) _
  have hz0W : W0.heap.size = w5.heap.size + 1 := by rw [hW0]; simp
  have hrow0 : ∀ j x, zs[j]? = some x → W0.cell? ⟨g5, 0 + j, none⟩ = some (.int .i64 x.1) := fun j x hx => by
    have hh := hown5.cells (g := g5) rfl j (.int .i64 x.1) (by
      rw [show ([Value.int .i64 id] ++ L.map (Value.int .i64)) = (zs.map (·.1)).map (Value.int .i64) by rw [HZS.out]; rfl, List.getElem?_map, List.getElem?_map, hx]; rfl)
    rw [Nat.zero_add, hW0, World.cell?_alloc_lt _ _ _ (by show g5 < _; exact hg5l)]
    rw [Addr.add_lit, Nat.zero_add] at hh
    exact hh
  have hzl : 1 + n2 = zs.length := by
    have := congrArg List.length HZS.out
    rw [List.length_map, List.length_cons] at this
    have := HR2.out.len.1
    omega
  have HZL := Lib.hid hzl
  have HBB := Lib.hid BB
  rw [← hW0]
  have HZ05 : Hid (W0.heap.size = w5.heap.size + 1) := hz0W
  have hzL : w5.heap.size < W0.heap.size := by omega
  clear hbl5 hb05 hat5 hg5 hown5 hzl BB hz0W
  refine wpIn_rangeFunc_ownH rfl (by decide) (gf := 168) (lb := #[.pointer (some ⟨w5.heap.size, 0, none⟩)]) rfl trivial (enters_of Tryz.func168 (by kernel_rfl) rfl)
    (back_stops (bl := l) (6 - 1) (by decide) w5.heap.size g5 0 (1 + n2) c5 zs HZL.out (by omega) W0 (by omega) (by omega) (BS.cell 0) hrow0) K2.trans (K2.put (by omega) (by omega)) (Below.refl _ _) (fun _ => rfl)
    (fun pre W => (∃ v, Boxed W (w.heap.size + 1) 23 v ∧ W.ownsRow W0.heap.size 31 13 v (pre.flatMap fun p => prO l p.1.1).length (rowsO (pre.flatMap fun p => prO l p.1.1)) ∧ True) ∧ Below (w.heap.size + 1) W0 W)
    (fun _ _ _ => False)
    (OwnFrom.and (Own.from (holdsRow_own W0.heap.size (w.heap.size + 1) 23 31 13 (fun pre : List (IdOf l × Nat) => (pre.flatMap fun p => prO l p.1.1).length) (fun pre => rowsO (pre.flatMap fun p => prO l p.1.1)) (fun _ _ => True)) _) (ownFrom_below (by omega) (by omega)))
    (fun _ _ _ _ _ hs _ _ => hs)
    ⟨⟨_, BL, World.ownsRow_nil _ _ _ _, trivial⟩, Below.refl _ _⟩
    (fun x a' _ => a' = { tmps := #[.slice A n c, .int .i64 id, .pointer (some ⟨w.heap.size, 0, none⟩), undef, .slice none 0 0, .pointer (some ⟨w.heap.size + 1, 0, none⟩), undef, .int .i64 x.1.1, undef, undef, .int .i64 id, .slice (some ⟨w.heap.size + 1 + 1, 0, none⟩) 1 1, .slice A n c, .int .i64 id, .slice A2 n2 c2, .slice (some ⟨g5, 0, none⟩) (1 + n2) c5, .func (.func 168) #[] #[.pointer (some ⟨w5.heap.size, 0, none⟩)], .int .i64 (x.2 : Int), .int .i64 x.1.1, undef, undef, undef, undef, undef, undef, undef, undef, undef, undef, undef, undef, undef, undef, undef, undef, undef, undef, undef, undef, undef, undef, undef, undef, undef, undef, undef], defers := [] })
    (fun x a' _ X Y row hs hg hr => hs)
    ?assign ?body ?done ?stop
  case assign =>
    rintro l1 pre x W K ⟨⟨v, hv, hrow, _⟩, hB1⟩ hK
    simp only [encB]
    gi_wp2
    exact hK _ _ (KeepsFrom.refl _ _) ⟨Nat.le_refl _, rfl, rfl⟩ ⟨⟨v, hv, hrow, trivial⟩, hB1⟩ rfl
  case body =>
    rintro l1 pre x a' W hl ⟨r, hr⟩ ⟨⟨v, hv, hrow, _⟩, hB1⟩ rfl hlt
    have hz1' := hB1.size
    obtain ⟨y, hym, hyi⟩ := x.1.2
    obtain ⟨p, hp, hpy⟩ := G.pos_at' hym
    rw [hyi] at hp
    have hRW : RB W w.heap.size (.slice A n c) l := (HH.out.below HBW.out).below (hB1.mono (by omega))
    obtain ⟨bb, boff, Ak, nk, ck, Ap, np, cp, hA, hbb, _, _, _, _, g4, _, hPr⟩ := hRW.at_ hpy
    have hpn : p < n := by have := (List.getElem?_eq_some_iff.1 hpy).1; have := hRW.len.1; omega
    have hns : n ≤ 2000 := by have := G.kids.short; have := hRW.len.1; omega
    have HIX : Hid (∀ W', Below W.heap.size W W' → Calls Tryz.prog 105 #[.slice A n c, .int .i64 x.1.1] W' fun e w' => e = .returned (.int .i64 (p : Int)) ∧ Below W.heap.size W w') := fun W' hW' => by
      have hzz := hW'.size
      have hid : I64 x.1.1 := by have := G.kids.ids y hym; rw [hyi] at this; unfold I64; omega
      have := index_any l A n c x.1.1 W' w.heap.size (by have := HBW.out.size; omega) (hRW.below (hW'.mono (by have := HBW.out.size; omega))) G.kids.rise G.kids.ids hid
      rw [hp] at this
      exact this.mono fun e w' h => ⟨h.1, hW'.trans (h.2.mono hzz)⟩
    have HCE : Hid (∀ W', Below W.heap.size W W' → W'.cell? ⟨w.heap.size, 0, none⟩ = some (.slice A n c) ∧ W'.cell? ⟨bb, boff + p * 5 + 4, none⟩ = some (.slice Ap np cp)) := fun W' hW' =>
      ⟨(hW'.cell (p := ⟨w.heap.size, 0, none⟩) (by show w.heap.size < _; omega)).trans ((hB1.cell (p := ⟨w.heap.size, 0, none⟩) (by show w.heap.size < _; omega)).trans (HBB.out.cell 0)), (hW'.cell (p := ⟨bb, boff + p * 5 + 4, none⟩) (by show bb < _; have := HBW.out.size; omega)).trans g4⟩
    have PS : PrS W0 W (w.heap.size + 1) (pre.flatMap fun p => prO l p.1.1) := ⟨⟨v, hv, hrow, trivial⟩, hB1⟩
    have hbl' : w.heap.size + 1 < W0.heap.size := by have := HZ05.out; omega
    have hyb : blkAt l x.1.1 = y := by
      rw [← hyi]; exact blkAt_of (by rw [hyi]; exact hp) hpy
    have hnl : np = y.props.length := hPr.len.1
    have h20 : np ≤ 20 := by
      have := (G.tree.loc y hym).2.2
      unfold cpErr at this
      by_cases e : 20 < y.props.length
      · rw [if_pos e] at this; omega
      · omega
    have HNL := Lib.hid hnl
    clear hnl
    subst hA
    obtain ⟨c0, c4⟩ := HCE.out W (Below.refl _ _)
    have p0 : (0 : Int) ≤ (p : Int) := by omega
    have p1 : (p : Int) < (n : Int) := by omega
    gi_wp2
    gi_cut [25, 26, 27] from 19 (fun s25 s26 s27 wc => s25 = .slice Ap np cp ∧ s26 = .int .i64 (np : Int) ∧ s27 = .int .i64 0 ∧ Hid (Below W.heap.size W wc))
    case first =>
      gi_region_with (refine ⟨trivial, ?_⟩; gi_at_call 105; refine (CallsIn.inRound l1 (callsIn_wide.2 (HIX.out _ (by first | with_reducible exact Below.refl _ _ | exact (Below.refl _ _).drew)))).mono ?_; rintro e w9 ⟨rfl, hb9⟩; have HB9 := Lib.hid hb9; obtain ⟨d0, d4⟩ := HCE.out w9 hb9; clear hb9)
      all_goals
        gi_wp2_with fail
        gi_meet
        case rel =>
          exact ⟨rfl, rfl, rfl, HB9⟩
    case rest =>
    obtain ⟨rfl, rfl, rfl, hwc⟩ := hcut
    obtain ⟨w9, hw9⟩ : ∃ w9, w9 = wc := ⟨_, rfl⟩
    rw [← hw9] at hwc ⊢
    have PS9 := PS.below hwc.out hbl'
    have HK9 : Hid (K2 w5.heap.size g5 W w9) := K2.of_below hwc.out (by omega) (by omega)
    have hKF : KeepsFrom W0.heap.size W w9 := (KeepsOthers.of_grownBy (grown_below hwc.out none) fun j o e _ => by cases e).from _
    have HPR : Hid (RPr w9 w.heap.size (.slice Ap np cp) y.props) := hPr.below (hwc.out.mono (by have := HBW.out.size; omega))
    have HKF := Lib.hid hKF
    clear hw9 c0 c4 hKF
    gi_wp2
    gi_loopw [27] (fun p wr => ∃ k : Nat, p = .int .i64 (k : Int) ∧ k ≤ np ∧ Hid (K2 w5.heap.size g5 W wr) ∧ Hid (PrS W0 wr (w.heap.size + 1) ((pre.flatMap fun p => prO l p.1.1) ++ (y.props.take k).map fun p => ⟨5, x.1.1, 0, 0, 0, 0, ⟨#[]⟩, p.name, zV⟩)) ∧ Hid (KeepsFrom W0.heap.size W wr) ∧ Hid (Below (w.heap.size + 1) w9 wr))
      (fun p _ => np - (intOf p).toNat)
    case atStart => exact ⟨0, rfl, Nat.zero_le _, HK9, by rw [List.take_zero, List.map_nil, List.append_nil]; exact PS9, HKF, Below.refl _ _⟩
    case round =>
      obtain ⟨k, rfl, hk, hk2, hps, hkf, hbk⟩ := hrel
      have hzk := hbk.out.size
      have hz9 := hwc.out.size
      have hpl : ((pre.flatMap fun p => prO l p.1.1) ++ (y.props.take k).map fun p => (⟨5, x.1.1, 0, 0, 0, 0, ⟨#[]⟩, p.name, zV⟩ : Opn)).length ≤ 60000 := by
        have h1 := prs_len G pre
        have h2 : (y.props.take k).length ≤ k := List.length_take_le _ _
        rw [List.length_append, List.length_map]
        omega
      obtain ⟨ops, hops⟩ : ∃ ops, ops = (pre.flatMap fun p => prO l p.1.1) ++ (y.props.take k).map fun p => (⟨5, x.1.1, 0, 0, 0, 0, ⟨#[]⟩, p.name, zV⟩ : Opn) := ⟨_, rfl⟩
      have HOPS := Lib.hid hops
      rw [← hops] at hps hpl
      clear hops
      by_cases hlt2 : k < np
      · obtain ⟨pr, hpr⟩ : ∃ pr, y.props[k]? = some pr := ⟨_, List.getElem?_eq_getElem (by have := HNL.out; omega)⟩
        obtain ⟨pb, poff, Pv, nv, cv, rfl, hpb, h0, h1, h2, h3, h4, h5, _⟩ := (HPR.out.below (hbk.out.mono (Nat.le_succ _))).at_ hpr
        have q0 : wr.cell? ⟨pb, poff + k * 6, none⟩ = some (.string pr.name) := h0
        have q1 : wr.cell? ⟨pb, poff + k * 6 + 1, none⟩ = some (.int .i64 pr.val.kind) := h1
        have q2 : wr.cell? ⟨pb, poff + k * 6 + 2, none⟩ = some (.int .i64 pr.val.int_) := h2
        have q3 : wr.cell? ⟨pb, poff + k * 6 + 3, none⟩ = some (.int .i64 pr.val.to_) := h3
        have q4 : wr.cell? ⟨pb, poff + k * 6 + 4, none⟩ = some (.string pr.val.text) := h4
        have q5 : wr.cell? ⟨pb, poff + k * 6 + 5, none⟩ = some (.slice Pv nv cv) := h5
        have k0 : (0 : Int) ≤ (k : Int) := by omega
        have k1 : (k : Int) < (np : Int) := by omega
        have hsn : ops ++ [(⟨5, x.1.1, 0, 0, 0, 0, ⟨#[]⟩, pr.name, zV⟩ : Opn)] = (pre.flatMap fun p => prO l p.1.1) ++ (y.props.take (k + 1)).map fun p => (⟨5, x.1.1, 0, 0, 0, 0, ⟨#[]⟩, p.name, zV⟩ : Opn) := by
          rw [HOPS.out, List.take_add_one, hpr, List.map_append, List.append_assoc]; rfl
        have HSN := Lib.hid hsn
        have hba : Below wr.heap.size wr ((wr.alloc (.cells #[.string pr.name, .int .i64 pr.val.kind, .int .i64 pr.val.int_, .int .i64 pr.val.to_, .string pr.val.text, .slice Pv nv cv] 116)).alloc (.cells #[.int .i64 5, .int .i64 x.1.1, .int .i64 0, .int .i64 0, .int .i64 0, .int .i64 0, .string ⟨#[]⟩, .string pr.name, .int .i64 0, .int .i64 0, .int .i64 0, .string ⟨#[]⟩, .slice none 0 0] 31)) := ((Below.refl _ _).alloc (Nat.le_refl _) _).alloc (by simp) _
        have PSA := Lib.hid (hps.out.below hba hbl')
        obtain ⟨v1, hv1, hrow1, _⟩ := PSA.out.box
        have hv1w : wr.cell? ⟨w.heap.size + 1, 0, none⟩ = some v1 := by
          obtain ⟨v2, hv2, _, _⟩ := hps.out.box
          have := hv2.cell
          have h3 := hv1.cell
          rw [hba.cell (p := ⟨w.heap.size + 1, 0, none⟩) (by show w.heap.size + 1 < _; have := hps.out.bel.size; omega)] at h3
          exact h3
        have hv1a : (wr.alloc (.cells #[.string pr.name, .int .i64 pr.val.kind, .int .i64 pr.val.int_, .int .i64 pr.val.to_, .string pr.val.text, .slice Pv nv cv] 116)).cell? ⟨w.heap.size + 1, 0, none⟩ = some v1 := by
          rw [World.cell?_alloc_lt _ _ _ (by show w.heap.size + 1 < _; have := hps.out.bel.size; omega)]; exact hv1w
        have hza := hba.size
        have hzb := hps.out.bel.size
        have hzA : ((wr.alloc (.cells #[.string pr.name, .int .i64 pr.val.kind, .int .i64 pr.val.int_, .int .i64 pr.val.to_, .string pr.val.text, .slice Pv nv cv] 116)).alloc (.cells #[.int .i64 5, .int .i64 x.1.1, .int .i64 0, .int .i64 0, .int .i64 0, .int .i64 0, .string ⟨#[]⟩, .string pr.name, .int .i64 0, .int .i64 0, .int .i64 0, .string ⟨#[]⟩, .slice none 0 0] 31)).heap.size = wr.heap.size + 2 := by simp
        clear hpr h0 h1 h2 h3 h4 h5 hsn
        gi_wp2_with (gi_at_builtin; refine wpListIn_append_any _ rfl _ _ 23 rfl W0.heap.size 31 m0 opZ 13 144 Tryz.underlying23 mhi mz0 mz1 mz2 rfl (by decide) v1 ops.length _ rfl hrow1 (wr.heap.size + 2) (some ⟨wr.heap.size + 1, 0, none⟩) 1 1 [.int .i64 5, .int .i64 x.1.1, .int .i64 0, .int .i64 0, .int .i64 0, .int .i64 0, .string ⟨#[]⟩, .string pr.name, .int .i64 0, .int .i64 0, .int .i64 0, .string ⟨#[]⟩, .slice none 0 0] rfl ⟨rfl, fun _ => ⟨_, rfl, by simp, row_new _ _ [.int .i64 5, .int .i64 x.1.1, .int .i64 0, .int .i64 0, .int .i64 0, .int .i64 0, .string ⟨#[]⟩, .string pr.name, .int .i64 0, .int .i64 0, .int .i64 0, .string ⟨#[]⟩, .slice none 0 0] _ (by simp)⟩⟩ (opV_one ((⟨5, x.1.1, 0, 0, 0, 0, ⟨#[]⟩, pr.name, zV⟩ : Opn), .slice none 0 0) ⟨_, _, _, rfl⟩) (by unfold maxLen; omega) (by omega) (by omega) ?_; intro v7 w7 hown7 hg7 hv7; obtain ⟨g7, cap7, rfl⟩ := own_succ hown7; have h77 := PSA.out.app (a := w5.heap.size) (b := g5) (o := ⟨5, x.1.1, 0, 0, 0, 0, ⟨#[]⟩, pr.name, zV⟩) hbl' (by have := HZ05.out; omega) (by have := HZ05.out; omega) (by omega) hg5n.2 hv1 hrow1 hown7 hg7; have s1 := h77.1.cell; have s2 := h77.1.frozen; have HP7 := Lib.hid h77.2.1; have HK7 := Lib.hid h77.2.2.1; have HC7 := Lib.hid h77.2.2.2.1; have HQ7 := Lib.hid h77.2.2.2.2; clear hg7; clear h77 hown7)
        gi_wp2
        rw [HSN.out] at HP7
        go_roundw
        case rel => exact ⟨k + 1, by go_num, by omega, hk2.out.trans ((K2.of_below hba (by omega) (by omega)).trans HC7.out), HP7, hkf.out.trans (((KeepsOthers.of_grownBy (grown_below hba none) fun j o e _ => by cases e).from _).trans (HK7.out.from _)), hbk.out.trans ((hba.mono (by omega)).trans HQ7.out)⟩
        case measure => simp [intOf]; omega
      · have hkn : k = np := by omega
        have hkge : ¬ (k : Int) < (np : Int) := by omega
        have hfin : ops ++ [(⟨2, x.1.1, 0, 0, 0, 0, ⟨#[]⟩, ⟨#[]⟩, zV⟩ : Opn)] = (pre ++ [x]).flatMap fun p => prO l p.1.1 := by
          rw [HOPS.out, List.take_of_length_le (by have := HNL.out; omega), List.flatMap_append, List.append_assoc]
          show _ = _ ++ [x].flatMap _
          rw [List.flatMap_cons, List.flatMap_nil, List.append_nil]
          unfold prO
          rw [hyb]
        have HFIN := Lib.hid hfin
        have hba : Below wr.heap.size wr (wr.alloc (.cells #[.int .i64 2, .int .i64 x.1.1, .int .i64 0, .int .i64 0, .int .i64 0, .int .i64 0, .string ⟨#[]⟩, .string ⟨#[]⟩, .int .i64 0, .int .i64 0, .int .i64 0, .string ⟨#[]⟩, .slice none 0 0] 31)) := (Below.refl _ _).alloc (Nat.le_refl _) _
        have PSA := Lib.hid (hps.out.below hba hbl')
        obtain ⟨v1, hv1, hrow1, _⟩ := PSA.out.box
        have hv1w : wr.cell? ⟨w.heap.size + 1, 0, none⟩ = some v1 := by
          have h3 := hv1.cell
          rw [hba.cell (p := ⟨w.heap.size + 1, 0, none⟩) (by show w.heap.size + 1 < _; have := hps.out.bel.size; omega)] at h3
          exact h3
        have hza := hba.size
        have hzb := hps.out.bel.size
        have hzA : (wr.alloc (.cells #[.int .i64 2, .int .i64 x.1.1, .int .i64 0, .int .i64 0, .int .i64 0, .int .i64 0, .string ⟨#[]⟩, .string ⟨#[]⟩, .int .i64 0, .int .i64 0, .int .i64 0, .string ⟨#[]⟩, .slice none 0 0] 31)).heap.size = wr.heap.size + 1 := by simp
        clear hfin
        gi_wp2_with (gi_at_builtin; refine wpListIn_append_any _ rfl _ _ 23 rfl W0.heap.size 31 m0 opZ 13 144 Tryz.underlying23 mhi mz0 mz1 mz2 rfl (by decide) v1 ops.length _ rfl hrow1 (wr.heap.size + 1) (some ⟨wr.heap.size, 0, none⟩) 1 1 [.int .i64 2, .int .i64 x.1.1, .int .i64 0, .int .i64 0, .int .i64 0, .int .i64 0, .string ⟨#[]⟩, .string ⟨#[]⟩, .int .i64 0, .int .i64 0, .int .i64 0, .string ⟨#[]⟩, .slice none 0 0] rfl ⟨rfl, fun _ => ⟨_, rfl, by simp, row_new _ _ [.int .i64 2, .int .i64 x.1.1, .int .i64 0, .int .i64 0, .int .i64 0, .int .i64 0, .string ⟨#[]⟩, .string ⟨#[]⟩, .int .i64 0, .int .i64 0, .int .i64 0, .string ⟨#[]⟩, .slice none 0 0] _ rfl⟩⟩ (opV_one ((⟨2, x.1.1, 0, 0, 0, 0, ⟨#[]⟩, ⟨#[]⟩, zV⟩ : Opn), .slice none 0 0) ⟨_, _, _, rfl⟩) (by unfold maxLen; omega) (by omega) (by omega) ?_; intro v7 w7 hown7 hg7 hv7; obtain ⟨g7, cap7, rfl⟩ := own_succ hown7; have h77 := PSA.out.app (a := w5.heap.size) (b := g5) (o := ⟨2, x.1.1, 0, 0, 0, 0, ⟨#[]⟩, ⟨#[]⟩, zV⟩) hbl' (by have := HZ05.out; omega) (by have := HZ05.out; omega) (by omega) hg5n.2 hv1 hrow1 hown7 hg7; have s1 := h77.1.cell; have s2 := h77.1.frozen; have HP7 := Lib.hid h77.2.1; have HK7 := Lib.hid h77.2.2.1; have HC7 := Lib.hid h77.2.2.2.1; clear hg7; clear h77 hown7)
        rw [HFIN.out] at HP7
        rw [← hW0, ← HZ05.out]
        obtain ⟨vv, q1, q2, _⟩ := HP7.out.box
        rw [List.length_flatMap] at q2
        exact ⟨hkf.out.trans (((KeepsOthers.of_grownBy (grown_below hba none) fun j o e _ => by cases e).from _).trans (HK7.out.from _)), hk2.out.trans ((K2.of_below hba (by omega) (by omega)).trans HC7.out), ⟨vv, q1, q2⟩, HP7.out.bel⟩
  case done =>
    rintro D ys W hD rfl ⟨⟨v, hv, hrow, _⟩, hB1⟩ hK
    have hc := hv.cell
    obtain ⟨os, hos⟩ : ∃ os, os = (come zs 0).flatMap fun p => prO l p.1.1 := ⟨_, rfl⟩
    have hlen : os.length ≤ 21 * 2001 := by
      have h1 := prs_len G (come zs 0)
      have h2 : (come zs 0).length = zs.length := by rw [come_len, Nat.sub_zero]
      have := HZL.out
      rw [hos]
      omega
    have hO : ∀ o ∈ os, OI o ∧ o.val.items = [] := fun o ho => by
      rw [hos] at ho
      obtain ⟨q, _, hq⟩ := List.mem_flatMap.1 ho
      exact prO_ok G q.1.2 hq
    have hfin : os = (id :: ord l (41 - d) id).reverse.flatMap (prO l) := by
      rw [← HLL.out, ← HZS.out, ← List.map_reverse, ← come_ids, List.map_map, List.flatMap_map]
      exact hos
    rw [← hos] at hrow
    obtain ⟨Aq, cq, rfl, hros, hle, hnone⟩ := ros_own hrow (by omega) hO
    have HR : Hid (∀ o', ROs (W.putObj D o') (W.putObj D o').heap.size (.slice Aq os.length os.length) os) := fun o' => by
      obtain ⟨A', c', e, h, _⟩ := ros_own (ownsRow_putObj hrow o' hK rfl) (by omega) hO
      injection e with e1
      subst e1
      exact h
    have HF := Lib.hid hfin
    clear hfin hos hros
    gi_wp2
    refine ⟨trivial, (callsIn_wide.2 (clipO_any Aq _ cq _ hle hnone)).mono ?_⟩
    rintro e w3 ⟨rfl, rfl⟩
    gi_wp2
    refine ⟨by simp, .inl ⟨_, _, rfl, run_takeDeferred hK, ?_⟩⟩
    rw [← HF.out]
    exact ⟨_, results_tmp rfl _ _ _, ⟨Aq, _, _, rfl, HR.out _⟩, HBW.out.trans ((hB1.mono (by omega)).trans (belowK_b (w := w) (Nat.le_refl _) _ D _ _ (by omega) hK rfl rfl))⟩
  case stop =>
    rintro D c pre W _ _ h _
    exact h.elim
end Go.Proofs.YtmkicfjcgbfaaaaGreat
namespace Go.Proofs.YtmkicfjcgbfaaaaGreat
open Go.RowKit

set_option maxRecDepth 100000 in
set_option maxHeartbeats 8000000 in
theorem treePrune_bad (l : List Bl) (f : Int → Option Int) (hf : DepOk l f) (A : Option Addr) (n c : Nat) (id : Int) (hid : I64 id) (w : World) (h : RB w w.heap.size (.slice A n c) l) (hne : cinE l f id ≠ 0) :
    Calls Tryz.prog 36 #[.slice A n c, .int .i64 id] w fun e w' => e = .returned (.tuple #[.slice none 0 0, .int .i64 (cinE l f id)]) ∧ Below w.heap.size w w' := by
  have HC := Lib.hid (checkInner_any l f A n c id hid w w.heap.size (Nat.le_refl _) h hf)
  obtain ⟨er, her⟩ : ∃ er, er = cinE l f id := ⟨_, rfl⟩
  rw [← her] at HC hne ⊢
  have h0' : (er != 0) = true := by simpa using hne
  clear her hne h hid
  go_enter Tryz.func36, Tryz.ntmps36
  go_wp2_with fail
  refine HC.out.mono ?_
  rintro e w1 ⟨rfl, hb1⟩
  have HB1 := Lib.hid hb1
  clear hb1
  go_wp2_with fail
  go_ret2
  exact ⟨rfl, HB1.out⟩
set_option maxRecDepth 100000 in
set_option maxHeartbeats 8000000 in
/-- tree.Prune at a block that is no root -/
theorem treePrune_ok (l : List Bl) (f : Int → Option Int) (G : Good l f) (A : Option Addr) (n c : Nat) (id : Int) (p q i : Nat) (x y : Bl) (hat : At l id p q i x y) (d : Nat) (hDp : Dp l id d) (hd40 : d ≤ 40) (w : World) (h : RB w w.heap.size (.slice A n c) l) :
    Calls Tryz.prog 36 #[.slice A n c, .int .i64 id] w fun e w' => (∃ A' n' c', e = .returned (.tuple #[.slice A' n' c', .int .i64 0]) ∧ ROs w' w'.heap.size (.slice A' n' c') ((id :: ord l (41 - d) id).reverse.flatMap (prO l))) ∧ Below w.heap.size w w' := by
  have HC := Lib.hid (checkInner_any l f A n c id (hat.idI G) w w.heap.size (Nat.le_refl _) h fun _ => G.dep)
  rw [cin_good G, if_neg (by rw [hat.pp G]; have := hat.p0; omega)] at HC
  have HP := Lib.hid fun W (hW : Below w.heap.size w W) => prune_any l f G A n c id ⟨x, List.mem_of_getElem? hat.hx, hat.hxi⟩ d hDp hd40 W ((h.below hW).more hW.size)
  clear hat G h hDp hd40
  go_enter Tryz.func36, Tryz.ntmps36
  go_wp2_with fail
  refine HC.out.mono ?_
  rintro e w1 ⟨rfl, hb1⟩
  have HB1 := Lib.hid hb1
  clear hb1
  go_wp2_with fail
  refine (HP.out w1 HB1.out).mono ?_
  rintro e w2 ⟨⟨A', n', c', rfl, hr⟩, hb2⟩
  have HB2 : Hid (Below w.heap.size w w2) := HB1.out.trans (hb2.mono HB1.out.size)
  have HR := Lib.hid hr
  clear hb2 hr
  go_wp2_with fail
  go_ret2
  exact ⟨⟨A', n', c', rfl, HR.out⟩, HB2.out⟩
end Go.Proofs.YtmkicfjcgbfaaaaGreat
