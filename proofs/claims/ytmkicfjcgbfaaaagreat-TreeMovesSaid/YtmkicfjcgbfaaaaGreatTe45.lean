/-
  DERIVED. The operations that join a block with its next sibling: plain facts.
  The walk of the reference's PruneOf. Conditions: sizes; a base without error.
  The walk of tree.Prune. Conditions: sizes.
  By an AI agent.
-/
import Derived.Test.YtmkicfjcgbfaaaaGreatTe42
import Derived.Test.YtmkicfjcgbfaaaaGreatTe43
namespace Go.Proofs.YtmkicfjcgbfaaaaGreat
open Go.RowKit

def edO (id : Int) (s : Nat) (tx : ByteArray) : Opn := ⟨4, id, 0, 0, s, s, tx, ⟨#[]⟩, zV⟩
def seO (id : Int) (nm : ByteArray) : Opn := ⟨5, id, 0, 0, 0, 0, ⟨#[]⟩, nm, zV⟩
def rmO (id : Int) : Opn := ⟨2, id, 0, 0, 0, 0, ⟨#[]⟩, ⟨#[]⟩, zV⟩
/-- the moves of the first k blocks of a row below a block that has m -/
def joK (id : Int) (m : Nat) (ks : List Int) (k : Nat) : List Opn := (List.range k).map fun j => mvO (ks.getD j 0) id ((m : Int) + (j : Int))
theorem joK_step {id : Int} {m : Nat} {ks : List Int} {k : Nat} {x : Int} (h : ks[k]? = some x) : joK id m ks (k + 1) = joK id m ks k ++ [mvO x id ((m : Int) + (k : Int))] := by
  unfold joK
  rw [List.range_succ, List.map_append, List.map_cons, List.map_nil, List.getD_eq_getElem?_getD, h]
  rfl
theorem joK_len (id : Int) (m : Nat) (ks : List Int) (k : Nat) : (joK id m ks k).length = k := by
  unfold joK
  rw [List.length_map, List.length_range]
/-- the operations so far: the edit, k moves, q properties -/
def joA (id zid : Int) (s m : Nat) (tx : ByteArray) (ks : List Int) (ps : List Pr) (k q : Nat) : List Opn := edO id s tx :: joK id m ks k ++ (ps.take q).map fun p => seO zid p.name
theorem joA_move {id zid : Int} {s m : Nat} {tx : ByteArray} {ks : List Int} {ps : List Pr} {k : Nat} {x : Int} (h : ks[k]? = some x) :
    joA id zid s m tx ks ps (k + 1) 0 = joA id zid s m tx ks ps k 0 ++ [mvO x id ((m : Int) + (k : Int))] := by
  unfold joA
  rw [joK_step h, List.take_zero, List.map_nil, List.append_nil, List.append_nil]
  rfl
theorem joA_prop {id zid : Int} {s m : Nat} {tx : ByteArray} {ks : List Int} {ps : List Pr} {k q : Nat} {p : Pr} (h : ps[q]? = some p) :
    joA id zid s m tx ks ps k (q + 1) = joA id zid s m tx ks ps k q ++ [seO zid p.name] := by
  unfold joA
  rw [List.take_add_one, h, List.map_append, List.append_assoc]
  rfl
theorem joA_len (id zid : Int) (s m : Nat) (tx : ByteArray) (ks : List Int) (ps : List Pr) (k q : Nat) : (joA id zid s m tx ks ps k q).length ≤ 1 + k + q := by
  unfold joA
  have : (ps.take q).length ≤ q := List.length_take_le _ _
  rw [List.length_append, List.length_cons, joK_len, List.length_map]
  omega
/-- all of them -/
def joO (id : Int) (x z : Bl) : List Opn := joA id z.id x.text.size x.kids.length z.text z.kids z.props z.kids.length z.props.length ++ [rmO z.id]
theorem joO_ok {l : List Bl} {f : Int → Option Int} (G : Good l f) {id : Int} (hid : I64 id) {x z : Bl} (hx : x ∈ l) (hz : z ∈ l) {o : Opn} (ho : o ∈ joO id x z) : OI o ∧ o.val.items = [] := by
  have h0 : I64 0 := by unfold I64; omega
  have hzi : I64 z.id := by have := G.kids.ids z hz; unfold I64; omega
  have hxs : x.text.size ≤ 65536 := txt_size (G.tree.loc x hx).1
  have hzs : z.text.size ≤ 65536 := txt_size (G.tree.loc z hz).1
  have hxk := G.kids.few x hx
  have hzk := G.kids.few z hz
  unfold joO at ho
  rcases List.mem_append.1 ho with ho | ho
  · unfold joA at ho
    rcases List.mem_append.1 ho with ho | ho
    · rcases List.mem_cons.1 ho with rfl | ho
      · exact ⟨⟨hid, h0, h0, by unfold I64 edO; dsimp only; omega, by unfold I64 edO; dsimp only; omega, by show z.text.size ≤ _; omega⟩, rfl⟩
      · unfold joK at ho
        obtain ⟨j, hj, rfl⟩ := List.mem_map.1 ho
        have hj := List.mem_range.1 hj
        refine ⟨⟨?_, hid, by unfold I64 mvO; dsimp only; omega, h0, h0, Nat.zero_le _⟩, rfl⟩
        show I64 (z.kids.getD j 0)
        obtain ⟨k, hk⟩ : ∃ k, z.kids[j]? = some k := ⟨_, List.getElem?_eq_getElem hj⟩
        rw [List.getD_eq_getElem?_getD, hk]
        obtain ⟨_, y, hy, hyi, _⟩ := G.kids.kid z hz k (List.mem_of_getElem? hk)
        have := G.kids.ids y hy
        show I64 k
        rw [← hyi]
        unfold I64; omega
    · obtain ⟨p, _, rfl⟩ := List.mem_map.1 ho
      exact ⟨⟨hzi, h0, h0, h0, h0, Nat.zero_le _⟩, rfl⟩
  · cases List.mem_singleton.1 ho
    exact ⟨⟨hzi, h0, h0, h0, h0, Nat.zero_le _⟩, rfl⟩
end Go.Proofs.YtmkicfjcgbfaaaaGreat
namespace Go.Proofs.YtmkicfjcgbfaaaaGreat
open Go.RowKit

/-- the operations of the blocks from a place on, the last one first -/
def prB (l : List Bl) (L : List Int) (k : Nat) : List Opn := (L.drop k).reverse.flatMap (prO l)
theorem prB_step {l : List Bl} {L : List Int} {k : Nat} {x : Int} (h : L[k]? = some x) : prB l L k = prB l L (k + 1) ++ prO l x := by
  obtain ⟨hk, e⟩ := List.getElem?_eq_some_iff.1 h
  unfold prB
  rw [List.drop_eq_getElem_cons hk, e, List.reverse_cons, List.flatMap_append, List.flatMap_cons, List.flatMap_nil, List.append_nil]
theorem prB_len {l : List Bl} {f : Int → Option Int} (G : Good l f) {L : List Int} (hL : ∀ x ∈ L, ∃ b ∈ l, b.id = x) (k : Nat) : (prB l L k).length ≤ 21 * L.length := by
  have h : ∀ M : List Int, (∀ x ∈ M, ∃ b ∈ l, b.id = x) → (M.flatMap (prO l)).length ≤ 21 * M.length := by
    intro M
    induction M with
    | nil => intro _; exact Nat.zero_le _
    | cons a M ih =>
      intro hM
      rw [List.flatMap_cons, List.length_append, List.length_cons]
      have := prO_len G (hM a (by simp))
      have := ih fun x hx => hM x (by simp [hx])
      omega
  have h1 := h (L.drop k).reverse fun x hx => hL x (List.mem_of_mem_drop (List.mem_reverse.1 hx))
  rw [List.length_reverse, List.length_drop] at h1
  unfold prB
  omega
theorem ROs.recap {w : World} {B n c c' : Nat} {A : Option Addr} {l : List Opn} (h : ROs w B (.slice A n c) l) (hc : n ≤ c') : ROs w B (.slice A n c') l := by
  obtain ⟨A', n', c2, M, h1, e, h2, h3, h4⟩ := h
  injection e with e1 e2 e3
  subst e1 e2
  exact ⟨A, n, c', M, h1, rfl, h2, ⟨hc, h3.2⟩, h4⟩
set_option maxRecDepth 100000 in
set_option maxHeartbeats 8000000 in
/-- the reference's PruneOf -/
theorem pruneOf_any (l : List Bl) (f : Int → Option Int) (G : Good l f) (A : Option Addr) (n c : Nat) (id : Int) (hid : ∃ b ∈ l, b.id = id) (d : Nat) (hDp : Dp l id d) (hd40 : d ≤ 40) (w : World) (h : RB w w.heap.size (.slice A n c) l) :
    Calls Tryz.prog 49 #[.slice A n c, .int .i64 id] w fun e w' => (∃ A' n' c', e = .returned (.slice A' n' c') ∧ ROs w' w'.heap.size (.slice A' n' c') ((id :: ord l (41 - d) id).reverse.flatMap (prO l)) ∧ n' ≤ c' ∧ (A' = none → n' = 0 ∧ c' = 0)) ∧ Below w.heap.size w w' := by
  obtain ⟨i0, hi, hz0, hz1, hz2⟩ := info_parts int_info
  obtain ⟨m0, mhi, mz0, mz1, mz2⟩ := info_parts op_info
  have HORD := Lib.hid fun W (hW : Below w.heap.size w W) => orderOf_any l G.kids G.low' A n c w.heap.size (41 - d) id d W hDp (by omega) hW.size (h.below hW)
  obtain ⟨L, hL⟩ : ∃ L, L = id :: ord l (41 - d) id := ⟨_, rfl⟩
  have hLm : ∀ x ∈ L, ∃ b ∈ l, b.id = x := by
    intro x hx
    rw [hL] at hx
    rcases List.mem_cons.1 hx with rfl | hx
    · exact hid
    · obtain ⟨j, hj, _⟩ := ord_mem G.kids _ hDp hx
      exact hj.mem G.kids
  have hLs : L.length ≤ 2001 := by have := ord_short G.kids (41 - d) hDp; have := G.kids.short; rw [hL, List.length_cons]; omega
  have HLL := Lib.hid hL
  have HLM := Lib.hid hLm
  have HH := Lib.hid h
  have HG := Lib.hid G
  have hn2 : n ≤ 2000 := by have := G.kids.short; have := h.len.1; omega
  unfold IntsR at HORD
  have hb1 : Below w.heap.size w (w.alloc (.cells #[.int .i64 id] 3)) := (Below.refl _ _).alloc (Nat.le_refl _) _
  have HB1 := Lib.hid hb1
  have O2 : (w.alloc (.cells #[.int .i64 id] 3)).ownsRow w.heap.size 3 1 (.slice (some ⟨w.heap.size, 0, none⟩) 1 1) 1 [.int .i64 id] :=
    ⟨rfl, .inr ⟨w.heap.size, 1, #[.int .i64 id], rfl, Nat.le_refl _, Blk.new _ _ _, Nat.le_refl _, by unfold maxLen; omega, rfl, rfl⟩⟩
  have HO2 := Lib.hid O2
  clear hb1 O2 hL hLm G h hid
  go_enter Tryz.func49, Tryz.ntmps49
  go_wp2_with fail
  refine (HORD.out _ HB1.out).mono ?_
  rintro e w2 ⟨⟨A2, n2, c2, rfl, hA2, hr2, _, hc2⟩, hb2⟩
  have HB2 : Hid (Below w.heap.size w w2) := HB1.out.trans (hb2.mono HB1.out.size)
  have HR2 := Lib.hid (hr2.reads (B := w2.heap.size) fun b hb => hb.2)
  have hl2 : n2 ≤ 2000 := by
    have h1 := HR2.out.len.1
    have h2 := HLL.out
    have h3 := congrArg List.length h2
    rw [List.length_cons] at h3
    omega
  have HOW := Lib.hid (own_below HO2.out hb2)
  have hzw2 : w.heap.size ≤ w2.heap.size := HB2.out.size
  clear hb2 hr2 hA2
  go_wp2_with (at_builtin; refine wpList_append_any _ rfl _ _ 34 rfl w.heap.size 3 i0 (.int .i64 0) 1 8 Tryz.underlying34 hi hz0 hz1 hz2 rfl (by decide) _ 1 [.int .i64 id] rfl HOW.out w2.heap.size A2 n2 c2 ((ord l (41 - d) id).map (.int .i64)) rfl HR2.out.reads (ints_one _) (by unfold maxLen; omega) (by omega) hzw2 ?_; intro v5 w5 hown5 hg5 hat5; obtain ⟨g5, c5, rfl, hg5b, hg5l⟩ := own_pos hown5 (by omega))
  have HB5 : Hid (Below w.heap.size w w5) := HB2.out.grown hg5 hzw2 (fun g hg => by have e : w.heap.size = g := Option.some.inj hg; omega)
  have HROW : Hid (∀ j x, L[j]? = some x → w5.cell? ⟨g5, 0 + j, none⟩ = some (.int .i64 x)) := fun j x hx => by
    have hh := hown5.cells (g := g5) rfl j (.int .i64 x) (by
      rw [show ([Value.int .i64 id] ++ (ord l (41 - d) id).map (Value.int .i64)) = L.map (Value.int .i64) by rw [HLL.out]; rfl, List.getElem?_map, hx]; rfl)
    rw [Addr.add_lit] at hh
    exact hh
  have HN5 : Hid (1 + n2 = L.length) := by
    show _ = _
    have h1 := HR2.out.len.1
    rw [HLL.out, List.length_cons]
    omega
  clear hown5 hg5 hat5
  obtain ⟨n5, hn5⟩ : ∃ n5, n5 = 1 + n2 := ⟨_, rfl⟩
  rw [← hn5] at HN5 ⊢
  have hn5s : n5 ≤ 2001 := by omega
  have hn51 : 1 ≤ n5 := by omega
  have HN51 := Lib.hid hn5
  clear hn5
  have ww : IntKind.i64.wrap ((n5 : Int) - 1) = (n5 : Int) - 1 := IntWalk.i64_in _ (by omega)
  have HS0 : Hid (∃ v, v = Value.slice none 0 0 ∧ w5.ownsRow w.heap.size 31 13 v (prB l L n5).length (rowsO (prB l L n5))) := ⟨_, rfl, by
    have e : prB l L n5 = [] := by unfold prB; rw [List.drop_of_length_le (by have := HN5.out; omega)]; rfl
    rw [e]; exact World.ownsRow_nil _ _ _ _⟩
  go_wp2_with fail
  go_loopg [5, 7] n5 (fun gg s5 s7 wr => ∃ (k : Nat) (i : Int), k = gg ∧ k ≤ n5 ∧ i = (k : Int) - 1 ∧ s7 = .int .i64 i ∧ Hid (wr.ownsRow w.heap.size 31 13 s5 (prB l L k).length (rowsO (prB l L k))) ∧ Hid (Below w5.heap.size w5 wr) ∧ Hid (∀ g, s5.ownBlock = some g → w5.heap.size ≤ g))
  case atStart =>
    obtain ⟨v, rfl, hv⟩ := HS0.out
    exact ⟨n5, _, rfl, Nat.le_refl _, by have := HN51.out; omega, rfl, hv, Below.refl _ _, fun g hg => by cases hg⟩
  case round =>
    obtain ⟨k, i, rfl, hk, hik, rfl, hrow, hbw, hvb⟩ := hrel
    have hzr := hbw.out.size
    have hz5 := HB5.out.size
    have HBW : Hid (Below w.heap.size w wr) := HB5.out.trans (hbw.out.mono hz5)
    by_cases hk0 : k = 0
    · subst hk0
      obtain rfl : i = -1 := by omega
      clear hik
      have hfin : prB l L 0 = (id :: ord l (41 - d) id).reverse.flatMap (prO l) := by unfold prB; rw [List.drop_zero, HLL.out]
      obtain ⟨os, hos⟩ : ∃ os, os = prB l L 0 := ⟨_, rfl⟩
      have hrow2 := hrow.out
      rw [← hos] at hrow2 hfin
      have hlen : os.length ≤ 21 * 2001 := by
        have h1 := prB_len HG.out HLM.out 0
        have := HN5.out
        rw [hos]
        omega
      obtain ⟨Aq, cq, rfl, hros, hle, hnone⟩ := ros_own hrow2 (by omega) fun o ho => by
        rw [hos] at ho
        unfold prB at ho
        obtain ⟨y, hy, ho⟩ := List.mem_flatMap.1 ho
        exact prO_ok HG.out (HLM.out y (List.mem_of_mem_drop (List.mem_reverse.1 hy))) ho
      have HF : Hid (ROs wr wr.heap.size (.slice Aq os.length cq) ((id :: ord l (41 - d) id).reverse.flatMap (prO l))) := by
        show ROs _ _ _ _
        rw [← hfin]; exact hros.recap hle
      have HLE := Lib.hid hle
      have HNO := Lib.hid hnone
      clear hfin hos hrow2 hros hle hnone hlen
      go_wp2_with fail
      refine bodyPost_ret (results_tmp rfl _ _ _) rfl ?_
      exact ⟨⟨Aq, _, cq, rfl, HF.out, HLE.out, HNO.out⟩, HBW.out⟩
    · obtain ⟨j, rfl⟩ : ∃ j, k = j + 1 := ⟨k - 1, by omega⟩
      obtain rfl : i = (j : Int) := by omega
      clear hik
      obtain ⟨x, hx⟩ : ∃ x, L[j]? = some x := ⟨_, List.getElem?_eq_getElem (by have := HN5.out; have := HN51.out; omega)⟩
      obtain ⟨y, hym, hyi⟩ := HLM.out x (List.mem_of_getElem? hx)
      obtain ⟨p, hp, hpy⟩ := HG.out.pos_at' hym
      rw [hyi] at hp
      have hyb : blkAt l x = y := by rw [← hyi]; exact blkAt_of (by rw [hyi]; exact hp) hpy
      obtain ⟨bb, boff, Ak, nk, ck, Ap, np, cp, hA, hbb, _, _, _, _, g4, _, hPr⟩ := HH.out.at_ hpy
      have hpn : p < n := by have := (List.getElem?_eq_some_iff.1 hpy).1; have := HH.out.len.1; omega
      have HAT := Lib.hid fun W (hW : Below w.heap.size w W) => at_any l A n c x W w.heap.size hW.size (HH.out.below hW)
      rw [hp] at HAT
      have hnl : np = y.props.length := hPr.len.1
      have h20 : np ≤ 20 := by
        have := (HG.out.tree.loc y hym).2.2
        unfold cpErr at this
        by_cases e : 20 < y.props.length
        · rw [if_pos e] at this; omega
        · omega
      have HNL := Lib.hid hnl
      have HPR := Lib.hid hPr
      have HG4 := Lib.hid g4
      have HX := Lib.hid hx
      have HYB := Lib.hid hyb
      have c0 : wr.cell? ⟨g5, 0 + j, none⟩ = some (.int .i64 x) := (hbw.out.cell (p := ⟨g5, 0 + j, none⟩) hg5l).trans (HROW.out j x hx)
      rw [Nat.zero_add] at c0
      subst hA
      have p0 : (0 : Int) ≤ (p : Int) := by omega
      have p1 : (p : Int) < (n : Int) := by omega
      have j0 : (0 : Int) ≤ (j : Int) := by omega
      have j1 : (j : Int) < 1 + (n2 : Int) := by have := HN51.out; omega
      have j2 : (j : Int) < (n5 : Int) := by omega
      clear hnl hPr g4 hx hyb hp hpy
      go_wp2_with fail
      refine (HAT.out wr HBW.out).mono ?_
      rintro e w6 ⟨rfl, hb6⟩
      have HB6 : Hid (Below wr.heap.size wr w6) := hb6
      have c4 : w6.cell? ⟨bb, boff + p * 5 + 4, none⟩ = some (.slice Ap np cp) := ((HBW.out.trans (hb6.mono HBW.out.size)).cell (p := ⟨bb, boff + p * 5 + 4, none⟩) (by show bb < _; omega)).trans HG4.out
      clear hb6 c0
      go_wp2_with fail
      have e6 : prB l L (j + 1) = (prB l L (j + 1) ++ (y.props.take 0).map fun p => (⟨5, x, 0, 0, 0, 0, ⟨#[]⟩, p.name, zV⟩ : Opn)) := by rw [List.take_zero, List.map_nil, List.append_nil]
      have hrow6 := own_below hrow.out HB6.out
      rw [e6] at hrow6
      have HS6 := Lib.hid hrow6
      clear e6 hrow6
      have HB56 : Hid (Below w5.heap.size w5 w6) := hbw.out.trans (HB6.out.mono hzr)
      have HPL := Lib.hid (prB_len HG.out HLM.out (j + 1))
      go_loopg [5, 34] np (fun gg s5 s34 wr => ∃ q : Nat, q + gg = np ∧ s34 = .int .i64 (q : Int) ∧ Hid (wr.ownsRow w.heap.size 31 13 s5 (prB l L (j + 1) ++ (y.props.take q).map fun p => (⟨5, x, 0, 0, 0, 0, ⟨#[]⟩, p.name, zV⟩ : Opn)).length (rowsO (prB l L (j + 1) ++ (y.props.take q).map fun p => (⟨5, x, 0, 0, 0, 0, ⟨#[]⟩, p.name, zV⟩ : Opn)))) ∧ Hid (Below w5.heap.size w5 wr) ∧ Hid (∀ g, s5.ownBlock = some g → w5.heap.size ≤ g))
      case atStart => exact ⟨0, by omega, rfl, HS6, HB56, hvb⟩
      case round =>
        obtain ⟨q, hqg, rfl, hrow2, hbw2, hvb2⟩ := hrel
        obtain ⟨W1, rfl⟩ : ∃ W1, W1 = wr := ⟨_, rfl⟩
        have hz1 := hbw2.out.size
        have hbW1 : Below w.heap.size w W1 := HB5.out.trans (hbw2.out.mono hz5)
        have HBW1 := Lib.hid hbW1
        have hrc : W1.cell? ⟨g5, j, none⟩ = some (.int .i64 x) := by
          have h0 := HROW.out j x HX.out
          rw [Nat.zero_add] at h0
          exact (hbw2.out.cell (p := ⟨g5, j, none⟩) hg5l).trans h0
        have hlen : (prB l L (j + 1) ++ (y.props.take q).map fun p => (⟨5, x, 0, 0, 0, 0, ⟨#[]⟩, p.name, zV⟩ : Opn)).length ≤ 60000 := by
          have h1 := HPL.out
          have h2 : (y.props.take q).length ≤ q := List.length_take_le _ _
          have := HN5.out
          rw [List.length_append, List.length_map]
          omega
        obtain ⟨os, hos⟩ : ∃ os, os = (prB l L (j + 1) ++ (y.props.take q).map fun p => (⟨5, x, 0, 0, 0, 0, ⟨#[]⟩, p.name, zV⟩ : Opn)) := ⟨_, rfl⟩
        have HOS := Lib.hid hos
        have hrow3 := hrow2.out
        rw [← hos] at hrow3 hlen
        have HRO := Lib.hid hrow3
        clear hos hrow2 hrow3 hbW1
        by_cases hq : q < np
        · obtain ⟨pr, hpr⟩ : ∃ pr, y.props[q]? = some pr := ⟨_, List.getElem?_eq_getElem (by have := HNL.out; omega)⟩
          obtain ⟨pb, poff, Pv, nv, cv, rfl, hpb, h0, h1, h2, h3, h4, h5, _⟩ := (HPR.out.below HBW1.out).at_ hpr
          have q0 : W1.cell? ⟨pb, poff + q * 6, none⟩ = some (.string pr.name) := h0
          have q1 : W1.cell? ⟨pb, poff + q * 6 + 1, none⟩ = some (.int .i64 pr.val.kind) := h1
          have q2 : W1.cell? ⟨pb, poff + q * 6 + 2, none⟩ = some (.int .i64 pr.val.int_) := h2
          have q3 : W1.cell? ⟨pb, poff + q * 6 + 3, none⟩ = some (.int .i64 pr.val.to_) := h3
          have q4 : W1.cell? ⟨pb, poff + q * 6 + 4, none⟩ = some (.string pr.val.text) := h4
          have q5 : W1.cell? ⟨pb, poff + q * 6 + 5, none⟩ = some (.slice Pv nv cv) := h5
          have k0 : (0 : Int) ≤ (q : Int) := by omega
          have k1 : (q : Int) < (np : Int) := by omega
          have HSN : Hid (os ++ [(⟨5, x, 0, 0, 0, 0, ⟨#[]⟩, pr.name, zV⟩ : Opn)] = (prB l L (j + 1) ++ (y.props.take (q + 1)).map fun p => (⟨5, x, 0, 0, 0, 0, ⟨#[]⟩, p.name, zV⟩ : Opn))) := by
            show _ = _
            rw [HOS.out, List.take_add_one, hpr, List.map_append, List.append_assoc]; rfl
          have hra : ∀ o, (W1.alloc o).cell? ⟨g5, j, none⟩ = some (.int .i64 x) := fun o => (World.cell?_alloc_lt _ _ _ (by show g5 < _; omega)).trans hrc
          have HRD : Hid (Reads (((W1.alloc (.cells #[.string pr.name, .int .i64 pr.val.kind, .int .i64 pr.val.int_, .int .i64 pr.val.to_, .string pr.val.text, .slice Pv nv cv] 116)).alloc (.cells #[.int .i64 5, .int .i64 x, .int .i64 0, .int .i64 0, .int .i64 0, .int .i64 0, .string ⟨#[]⟩, .string pr.name, .int .i64 0, .int .i64 0, .int .i64 0, .string ⟨#[]⟩, .slice none 0 0] 31)).drew) (W1.heap.size + 2) 13 (some ⟨W1.heap.size + 1, 0, none⟩) 1 [.int .i64 5, .int .i64 x, .int .i64 0, .int .i64 0, .int .i64 0, .int .i64 0, .string ⟨#[]⟩, .string pr.name, .int .i64 0, .int .i64 0, .int .i64 0, .string ⟨#[]⟩, .slice none 0 0]) :=
            ⟨rfl, fun _ => ⟨_, rfl, by simp, row_new _ _ [.int .i64 5, .int .i64 x, .int .i64 0, .int .i64 0, .int .i64 0, .int .i64 0, .string ⟨#[]⟩, .string pr.name, .int .i64 0, .int .i64 0, .int .i64 0, .string ⟨#[]⟩, .slice none 0 0] _ (by simp)⟩⟩
          have HO7 := Lib.hid (((HRO.out.alloc (.cells #[.string pr.name, .int .i64 pr.val.kind, .int .i64 pr.val.int_, .int .i64 pr.val.to_, .string pr.val.text, .slice Pv nv cv] 116)).alloc (.cells #[.int .i64 5, .int .i64 x, .int .i64 0, .int .i64 0, .int .i64 0, .int .i64 0, .string ⟨#[]⟩, .string pr.name, .int .i64 0, .int .i64 0, .int .i64 0, .string ⟨#[]⟩, .slice none 0 0] 31)).drew)
          clear hpr h0 h1 h2 h3 h4 h5
          go_wp2_with fail
          go_region_law (refine step_append_any _ (by rfl) _ _ _ (by rfl) w.heap.size 31 m0 opZ 13 144 Tryz.underlying23 mhi mz0 mz1 mz2 rfl (by decide) _ os.length _ (by rfl) HO7.out (W1.heap.size + 2) (some ⟨W1.heap.size + 1, 0, none⟩) 1 1 [.int .i64 5, .int .i64 x, .int .i64 0, .int .i64 0, .int .i64 0, .int .i64 0, .string ⟨#[]⟩, .string pr.name, .int .i64 0, .int .i64 0, .int .i64 0, .string ⟨#[]⟩, .slice none 0 0] (by rfl) HRD.out (opV_one ((⟨5, x, 0, 0, 0, 0, ⟨#[]⟩, pr.name, zV⟩ : Opn), .slice none 0 0) ⟨_, _, _, rfl⟩) (by unfold maxLen; omega) (by omega) (by simp; omega) ?_; intro v7 w7 hown7 hg7 hat7)
          all_goals
            have HB7 : Hid (Below w5.heap.size w5 w7) := ((hbw2.out.alloc hz1 _).alloc (by simp; omega) _).drew.grown hg7 (by simp; omega) (fun g h => hvb2.out g h)
            have HR7 : Hid (w7.ownsRow w.heap.size 31 13 v7 (prB l L (j + 1) ++ (y.props.take (q + 1)).map fun p => (⟨5, x, 0, 0, 0, 0, ⟨#[]⟩, p.name, zV⟩ : Opn)).length (rowsO (prB l L (j + 1) ++ (y.props.take (q + 1)).map fun p => (⟨5, x, 0, 0, 0, 0, ⟨#[]⟩, p.name, zV⟩ : Opn)))) := by
              show World.ownsRow _ _ _ _ _ _ _
              rw [← HSN.out, rowsO_snoc, List.length_append]; exact hown7
            have HV7 : Hid (∀ g, v7.ownBlock = some g → w5.heap.size ≤ g) := fun g hg => by
              rcases hat7 with e | e
              · exact hvb2.out g (e ▸ hg)
              · rw [e] at hg
                have e : _ = g := Option.some.inj hg
                simp at e
                omega
            clear hown7 hg7 hat7
            go_wp2_with fail
            go_roundg (np - (q + 1))
            case measure => omega
            case rel => exact ⟨q + 1, by omega, by go_num, HR7, HB7, HV7⟩
        · obtain rfl : q = np := by omega
          have HFIN : Hid (os ++ [(⟨2, x, 0, 0, 0, 0, ⟨#[]⟩, ⟨#[]⟩, zV⟩ : Opn)] = prB l L j) := by
            show _ = _
            rw [prB_step HX.out, HOS.out, List.take_of_length_le (by have := HNL.out; omega), List.append_assoc]
            unfold prO
            rw [HYB.out]
          have HRD : Hid (Reads (W1.alloc (.cells #[.int .i64 2, .int .i64 x, .int .i64 0, .int .i64 0, .int .i64 0, .int .i64 0, .string ⟨#[]⟩, .string ⟨#[]⟩, .int .i64 0, .int .i64 0, .int .i64 0, .string ⟨#[]⟩, .slice none 0 0] 31)) (W1.heap.size + 1) 13 (some ⟨W1.heap.size, 0, none⟩) 1 [.int .i64 2, .int .i64 x, .int .i64 0, .int .i64 0, .int .i64 0, .int .i64 0, .string ⟨#[]⟩, .string ⟨#[]⟩, .int .i64 0, .int .i64 0, .int .i64 0, .string ⟨#[]⟩, .slice none 0 0]) :=
            ⟨rfl, fun _ => ⟨_, rfl, by simp, row_new _ _ [.int .i64 2, .int .i64 x, .int .i64 0, .int .i64 0, .int .i64 0, .int .i64 0, .string ⟨#[]⟩, .string ⟨#[]⟩, .int .i64 0, .int .i64 0, .int .i64 0, .string ⟨#[]⟩, .slice none 0 0] _ rfl⟩⟩
          have HO7 := Lib.hid (HRO.out.alloc (.cells #[.int .i64 2, .int .i64 x, .int .i64 0, .int .i64 0, .int .i64 0, .int .i64 0, .string ⟨#[]⟩, .string ⟨#[]⟩, .int .i64 0, .int .i64 0, .int .i64 0, .string ⟨#[]⟩, .slice none 0 0] 31))
          have ww2 : IntKind.i64.wrap ((j : Int) - 1) = (j : Int) - 1 := IntWalk.i64_in _ (by omega)
          go_wp2_with (at_builtin; refine wpList_append_any _ rfl _ _ 23 rfl w.heap.size 31 m0 opZ 13 144 Tryz.underlying23 mhi mz0 mz1 mz2 rfl (by decide) _ os.length _ rfl HO7.out (W1.heap.size + 1) (some ⟨W1.heap.size, 0, none⟩) 1 1 [.int .i64 2, .int .i64 x, .int .i64 0, .int .i64 0, .int .i64 0, .int .i64 0, .string ⟨#[]⟩, .string ⟨#[]⟩, .int .i64 0, .int .i64 0, .int .i64 0, .string ⟨#[]⟩, .slice none 0 0] rfl HRD.out (opV_one ((⟨2, x, 0, 0, 0, 0, ⟨#[]⟩, ⟨#[]⟩, zV⟩ : Opn), .slice none 0 0) ⟨_, _, _, rfl⟩) (by unfold maxLen; omega) (by omega) (by simp; omega) ?_; intro v7 w7 hown7 hg7 hat7)
          have HB7 : Hid (Below w5.heap.size w5 w7) := (hbw2.out.alloc hz1 _).grown hg7 (by simp; omega) (fun g h => hvb2.out g h)
          have HR7 : Hid (w7.ownsRow w.heap.size 31 13 v7 (prB l L j).length (rowsO (prB l L j))) := by
            show World.ownsRow _ _ _ _ _ _ _
            rw [← HFIN.out, rowsO_snoc, List.length_append]; exact hown7
          have HV7 : Hid (∀ g, v7.ownBlock = some g → w5.heap.size ≤ g) := fun g hg => by
            rcases hat7 with e | e
            · exact hvb2.out g (e ▸ hg)
            · rw [e] at hg
              have e : _ = g := Option.some.inj hg
              simp at e
              omega
          clear hown7 hg7 hat7
          go_wp2_with fail
          go_roundg j
          case measure => omega
          case rel => exact ⟨j, (j : Int) - 1, rfl, by omega, rfl, rfl, HR7, HB7, HV7⟩
end Go.Proofs.YtmkicfjcgbfaaaaGreat
namespace Go.Proofs.YtmkicfjcgbfaaaaGreat
open Go.RowKit

set_option maxRecDepth 100000 in
set_option maxHeartbeats 8000000 in
theorem treePrune_bad (l : List Bl) (f : Int → Option Int) (hf : DepOk l f) (A : Option Addr) (n c : Nat) (id : Int) (hid : I64 id) (w : World) (h : RB w w.heap.size (.slice A n c) l) (hne : cinE l f id ≠ 0) :
    Calls Tryz.prog 36 #[.slice A n c, .int .i64 id] w fun e w' => e = .returned (.tuple #[.slice none 0 0, .int .i64 (cinE l f id)]) ∧ Below w.heap.size w w' := by
  have HC := Lib.hid (checkInner_any l f A n c id hid w w.heap.size (Nat.le_refl _) h hf)
  obtain ⟨er, her⟩ : ∃ er, er = cinE l f id := ⟨_, rfl⟩
  rw [← her] at HC hne ⊢
  have h0' : (er != 0) = true := by simpa using hne
  clear her hne h hid
  go_enter Tryz.func36, Tryz.ntmps36
  go_wp2_with fail
  refine HC.out.mono ?_
  rintro e w1 ⟨rfl, hb1⟩
  have HB1 := Lib.hid hb1
  clear hb1
  go_wp2_with fail
  go_ret2
  exact ⟨rfl, HB1.out⟩
set_option maxRecDepth 100000 in
set_option maxHeartbeats 8000000 in
/-- tree.Prune at a block that is no root -/
theorem treePrune_ok (l : List Bl) (f : Int → Option Int) (G : Good l f) (A : Option Addr) (n c : Nat) (id : Int) (p q i : Nat) (x y : Bl) (hat : At l id p q i x y) (d : Nat) (hDp : Dp l id d) (hd40 : d ≤ 40) (w : World) (h : RB w w.heap.size (.slice A n c) l) :
    Calls Tryz.prog 36 #[.slice A n c, .int .i64 id] w fun e w' => (∃ A' n' c', e = .returned (.tuple #[.slice A' n' c', .int .i64 0]) ∧ ROs w' w'.heap.size (.slice A' n' c') ((id :: ord l (41 - d) id).reverse.flatMap (prO l))) ∧ Below w.heap.size w w' := by
  have HC := Lib.hid (checkInner_any l f A n c id (hat.idI G) w w.heap.size (Nat.le_refl _) h fun _ => G.dep)
  rw [cin_good G, if_neg (by rw [hat.pp G]; have := hat.p0; omega)] at HC
  have HP := Lib.hid fun W (hW : Below w.heap.size w W) => prune_any l f G A n c id ⟨x, List.mem_of_getElem? hat.hx, hat.hxi⟩ d hDp hd40 W ((h.below hW).more hW.size)
  clear hat G h hDp hd40
  go_enter Tryz.func36, Tryz.ntmps36
  go_wp2_with fail
  refine HC.out.mono ?_
  rintro e w1 ⟨rfl, hb1⟩
  have HB1 := Lib.hid hb1
  clear hb1
  go_wp2_with fail
  refine (HP.out w1 HB1.out).mono ?_
  rintro e w2 ⟨⟨A', n', c', rfl, hr⟩, hb2⟩
  have HB2 : Hid (Below w.heap.size w w2) := HB1.out.trans (hb2.mono HB1.out.size)
  have HR := Lib.hid hr
  clear hb2 hr
  go_wp2_with fail
  go_ret2
  exact ⟨⟨A', n', c', rfl, HR.out⟩, HB2.out⟩
end Go.Proofs.YtmkicfjcgbfaaaaGreat
