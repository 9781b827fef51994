/-
  DERIVED. Operations one after another, in plain words and in memory. Conditions: none.
  The walk of tree.checkInsert. Conditions: sizes; a base without error.
  The walks of tree.checkSetProp and editOf. Conditions: sizes; a base without error.
  By an AI agent.
-/
import Derived.Test.YtmkicfjcgbfaaaaGreatDoorTc28
import Derived.Test.YtmkicfjcgbfaaaaGreatDoorTc27
import Derived.Test.YtmkicfjcgbfaaaaGreatDoorTc08
import Derived.Test.YtmkicfjcgbfaaaaGreatDoorTc19
import Derived.Test.YtmkicfjcgbfaaaaGreatDoorTc07
namespace Go.Proofs.YtmkicfjcgbfaaaaGreatDoor
open Go.RowKit

/-- operations one after another -/
def applL (l : List Bl) (os : List Opn) : List Bl := os.foldl applied l
theorem applL_snoc {l : List Bl} {os : List Opn} {k : Nat} {o : Opn} (h : os[k]? = some o) : applL l (os.take (k + 1)) = applied (applL l (os.take k)) o := by
  obtain ⟨hk, e⟩ := List.getElem?_eq_some_iff.1 h
  unfold applL
  rw [List.take_succ_eq_append_getElem hk, List.foldl_append, e]; rfl
/-- each of them has no error where it is done -/
def OkAll (l : List Bl) (os : List Opn) : Prop := ∀ (k : Nat) (o : Opn), os[k]? = some o → ∃ f, Good (applL l (os.take k)) f ∧ opErr (applL l (os.take k)) f o = 0
theorem OkAll.one {l : List Bl} {o : Opn} {f : Int → Option Int} (G : Good l f) (h : opErr l f o = 0) : OkAll l [o] := fun k x hx => by
  cases k with
  | zero =>
    obtain rfl : o = x := by simpa using hx
    exact ⟨f, G, h⟩
  | succ k => simp at hx

/-! ### operations in memory, in blocks of a sort -/
def ROsX (W : World) (S : Nat → Prop) (v : Value) (l : List Opn) : Prop := ∃ A n c, ∃ M : List (Opn × Value), M.map Prod.fst = l ∧ v = .slice A n c ∧ n = M.length ∧ (n ≤ c ∧ n * 144 ≤ 140737488351232) ∧ RdX W S 13 A n (M.flatMap opV) ∧ ∀ x ∈ M, RVX W S x.2 x.1.val.items ∧ OI x.1
section
variable {W W' : World} {S S' : Nat → Prop} {v : Value} {l : List Opn}
theorem ROsX.keep (h : ROsX W S v l) (hk : ∀ p : Addr, S p.block → W'.cell? p = W.cell? p) : ROsX W' S v l := by
  obtain ⟨A, n, c, M, h1, h2, h3, h4, h5, h6⟩ := h
  exact ⟨A, n, c, M, h1, h2, h3, h4, h5.keep hk, fun x hx => ⟨(h6 x hx).1.keep hk, (h6 x hx).2⟩⟩
theorem ROsX.weak (h : ROsX W S v l) (hS : ∀ b, S b → S' b) : ROsX W S' v l := by
  obtain ⟨A, n, c, M, h1, h2, h3, h4, h5, h6⟩ := h
  exact ⟨A, n, c, M, h1, h2, h3, h4, h5.weak hS, fun x hx => ⟨(h6 x hx).1.weak hS, (h6 x hx).2⟩⟩
theorem ROsX.of {B : Nat} (h : ROs W B v l) : ROsX W (· < B) v l := by
  obtain ⟨A, n, c, M, h1, h2, h3, h4, h5, h6⟩ := h
  exact ⟨A, n, c, M, h1, h2, h3, h4, h5, fun x hx => ⟨.of (h6 x hx).1, (h6 x hx).2⟩⟩
theorem ROsX.reads {B : Nat} (h : ROsX W S v l) (hS : ∀ b, S b → b < B) : ROs W B v l := by
  obtain ⟨A, n, c, M, h1, h2, h3, h4, h5, h6⟩ := h
  exact ⟨A, n, c, M, h1, h2, h3, h4, h5.reads hS, fun x hx => ⟨(h6 x hx).1.reads hS, (h6 x hx).2⟩⟩
/-- an operation in a row -/
theorem ROsX.at_ {n c B : Nat} {A : Option Addr} (h : ROsX W S (.slice A n c) l) (hB : ∀ b, S b → b < B) {k : Nat} {o : Opn} (hk : l[k]? = some o) :
    ∃ b off Av nv cv, A = some ⟨b, off, none⟩ ∧ S b ∧ (∀ i u, (opV (o, .slice Av nv cv))[i]? = some u → W.cell? ⟨b, off + k * 13 + i, none⟩ = some u) ∧ RVX W S (.slice Av nv cv) o.val.items ∧ OI o := by
  obtain ⟨A', n', c', M, h1, e, h2, h3, h4, h5⟩ := h
  injection e with e1 e2 e3
  subst e1 e2 e3
  obtain ⟨y, hy, rfl⟩ : ∃ y, M[k]? = some y ∧ y.1 = o := by
    rw [← h1, List.getElem?_map, Option.map_eq_some_iff] at hk
    exact hk
  obtain ⟨b, off, e, hb, hc⟩ := (h4.reads hB).plain_at (by omega) opV_len h2 hy
  obtain ⟨ad, e2, hS, _⟩ := h4.2 (by have := (List.getElem?_eq_some_iff.1 hy).1; omega)
  have e3 : ad = ⟨b, off, none⟩ := by rw [e] at e2; exact (Option.some.inj e2).symm
  rw [e3] at hS
  obtain ⟨k1, k2⟩ := h5 y (List.mem_of_getElem? hy)
  obtain ⟨o, v⟩ := y
  obtain ⟨Av, nv, cv, rfl⟩ := (k1.reads hB).slice
  exact ⟨b, off, Av, nv, cv, e, hS, hc, k1, k2⟩
/-- one operation that lies in a block -/
theorem ROsX.one {g : Nat} {o : Opn} {u : Value} (h : Blk W g 67 (opV (o, u)).toArray) (hS : S g) (hv : RVX W S u o.val.items) (hi : OI o) : ROsX W S (.slice (some ⟨g, 0, none⟩) 1 1) [o] :=
  ⟨_, 1, 1, [(o, u)], rfl, rfl, rfl, ⟨Nat.le_refl _, by omega⟩, ⟨rfl, fun _ => ⟨_, rfl, hS, fun j x hx => by
    rw [Addr.add_lit, Nat.zero_add, h.cell, ← hx, List.flatMap_singleton, List.getElem?_toArray]⟩⟩, fun x hx => by
    obtain rfl := List.mem_singleton.1 hx
    exact ⟨hv, hi⟩⟩
end

/-! ### what each kind makes -/
theorem insB_rise {L : List Bl} (hr : Rise L) {x : Bl} (hn : ∀ y ∈ L, y.id ≠ x.id) : Rise (insB x L) := rise_iff.2 (insB_sorted x L (rise_iff.1 hr) hn)
theorem insB_ids {L : List Bl} (hi : IdsIn L) {x : Bl} (hx : 0 ≤ x.id ∧ x.id ≤ 1000000) : IdsIn (insB x L) := fun y hy => by
  rcases (insB_mem x y L).1 hy with rfl | hy
  · exact hx
  · exact hi y hy
theorem put_at {α : Type} {M : List α} {i q : Nat} {x y : α} (h : M[q]? = some y) : ∃ q' : Nat, (M.take i ++ x :: M.drop i)[q']? = some y := by
  refine List.mem_iff_getElem?.1 ?_
  have hy := List.mem_of_getElem? h
  rw [← List.take_append_drop i M] at hy
  rcases List.mem_append.1 hy with hy | hy
  · exact List.mem_append_left _ hy
  · exact List.mem_append_right _ (List.mem_cons_of_mem _ hy)
theorem put_new {α : Type} {M : List α} {i : Nat} (hi : i ≤ M.length) (x : α) : (M.take i ++ x :: M.drop i)[i]? = some x := by
  have : (M.take i).length = i := by rw [List.length_take]; omega
  rw [List.getElem?_append_right (by omega), this, Nat.sub_self]; rfl
theorem map_put {M : List BK} {i : Nat} {x : BK} (hlow : LowB (M.map Prod.fst) x.1.id i) : (M.take i ++ x :: M.drop i).map Prod.fst = insB x.1 (M.map Prod.fst) := by
  rw [insB_low hlow, List.map_append, List.map_cons, List.map_take, List.map_drop]
theorem map_setk (M : List BK) (q : Nat) (y : BK) : (M.set q y).map Prod.fst = (M.map Prod.fst).set q y.1 := by rw [List.map_set]
/-- a block turned at its place in a row -/
theorem map_upd {M : List BK} (hr : Rise (M.map Prod.fst)) {q : Nat} {y : BK} (hy : M[q]? = some y) (h : Bl → Bl) (kv pv : Value) : (M.set q (h y.1, kv, pv)).map Prod.fst = upd (M.map Prod.fst) y.1.id h := by
  rw [map_setk, upd_set hr (q := q) (y := y.1) (by rw [List.getElem?_map, hy]; rfl) rfl]
theorem applied_ins {l : List Bl} {o : Opn} (h : o.kind = 1) (hn : ∀ x ∈ l, x.id ≠ o.id) {y : Bl} (hy : y ∈ l) (hyi : y.id = o.parent) : applied l o = upd (insB ⟨o.id, o.parent, [], o.text, []⟩ l) o.parent fun b => b.withKids (plusK b.kids o.at_.toNat o.id) := by
  unfold applied insL
  rw [if_pos h, upd_insB]
  · show o.id ≠ o.parent
    rw [← hyi]; exact fun e => hn y hy e.symm
  · exact fun b => rfl
theorem applied_rem {l : List Bl} (K : Kids l) {o : Opn} (h : o.kind = 2) {x : Bl} (hx : x ∈ l) (hxi : x.id = o.id) : applied l o = (upd l x.parent fun b => b.withKids (lessK b.kids o.id)).filter fun b => b.id != o.id := by
  unfold applied remL
  rw [if_neg (by omega), if_pos h, ← hxi, parOf_eq K hx]
theorem applied_mov {l : List Bl} (K : Kids l) {o : Opn} (h : o.kind = 3) {x : Bl} (hx : x ∈ l) (hxi : x.id = o.id) : applied l o = upd (upd (upd l x.parent fun b => b.withKids (lessK b.kids o.id)) o.id fun b => b.withPar o.parent) o.parent fun b => b.withKids (plusK b.kids o.at_.toNat o.id) := by
  unfold applied
  rw [if_neg (by omega), if_neg (by omega), if_pos h]
  refine movL_eq fun b hb hp hin => ?_
  obtain ⟨_, y, hy, hyi, hyp⟩ := K.kid b hb _ hin
  have : y = x := K.rise.inj hy hx (by rw [hyi, hxi])
  subst this
  exact hp hyp.symm
theorem applied_edit {l : List Bl} {o : Opn} (h : o.kind = 4) : applied l o = upd l o.id fun b => b.withText (edS b.text o.text o.from_ o.to_) := by
  unfold applied
  rw [if_neg (by omega), if_neg (by omega), if_neg (by omega), if_pos h]
theorem applied_set {l : List Bl} {o : Opn} (h : o.kind = 5) : applied l o = upd l o.id fun b => b.withProps (setPr b.props o.name o.val) := by
  unfold applied
  rw [if_neg (by omega), if_neg (by omega), if_neg (by omega), if_neg (by omega)]
theorem txt_size {s : ByteArray} (h : txErr s = 0) : s.size ≤ 65536 := by
  unfold txErr at h
  split at h
  · omega
  · omega
theorem row_at {M : List BK} {L : List Bl} (h : M.map Prod.fst = L) {q : Nat} {y : Bl} (hy : L[q]? = some y) : ∃ yk, M[q]? = some yk ∧ yk.1 = y := by
  rw [← h, List.getElem?_map, Option.map_eq_some_iff] at hy
  exact hy
end Go.Proofs.YtmkicfjcgbfaaaaGreatDoor
namespace Go.Proofs.YtmkicfjcgbfaaaaGreatDoor
open Go.RowKit

theorem Good.blk_at {l : List Bl} {f : Int → Option Int} (G : Good l f) {id : Int} (h : 0 ≤ posOf l id) : ∃ (p : Nat) (b : Bl) (d : Nat), posOf l id = (p : Int) ∧ l[p]? = some b ∧ b.id = id ∧ blkAt l id = b ∧ Dp l id d ∧ d ≤ 40 ∧ dF f id = (d : Int) := by
  rcases posOf_spec l id with ⟨e, _⟩ | ⟨p, b, e, hb, hbi, _⟩
  · omega
  · obtain ⟨d, h1, h2, h3⟩ := G.dp (List.mem_of_getElem? hb)
    rw [hbi] at h1 h2
    exact ⟨p, b, d, e, hb, hbi, blkAt_of e hb, h2, h3, by unfold dF; rw [h1]; rfl⟩
/-- the cells of an operation that lies in a block of its own -/
abbrev opC (o : Opn) (v : Value) : Array Value := #[.int .i64 o.kind, .int .i64 o.id, .int .i64 o.parent, .int .i64 o.at_, .int .i64 o.from_, .int .i64 o.to_, .string o.text, .string o.name, .int .i64 o.val.kind, .int .i64 o.val.int_, .int .i64 o.val.to_, .string o.val.text, v]

set_option maxRecDepth 100000 in
set_option maxHeartbeats 4000000 in
/-- tree.checkInsert -/
theorem checkInsert_any (l : List Bl) (f : Int → Option Int) (G : Good l f) (Al : Option Addr) (n cl : Nat) (o : Opn) (Av : Option Addr) (nv cv : Nat) (w : World) (B : Nat) (hB : B ≤ w.heap.size) (h : RB w B (.slice Al n cl) l) (ho : OI o) :
    Calls Tryz.prog 60 #[.slice Al n cl, AO (o, .slice Av nv cv)] w fun e w' => e = .returned (.int .i64 (insErr l f o)) ∧ Below w.heap.size w w' := by
  have HIa := Lib.hid fun W (hW : Below w.heap.size w W) => index_any l Al n cl o.id W B (Nat.le_trans hB hW.size) (h.below (hW.mono hB)) G.kids.rise G.kids.ids ho.1
  have HIp := Lib.hid fun W (hW : Below w.heap.size w W) => index_any l Al n cl o.parent W B (Nat.le_trans hB hW.size) (h.below (hW.mono hB)) G.kids.rise G.kids.ids ho.2.1
  have HT := Lib.hid fun W => checkT_any o.text W
  have HN := Lib.hid h.len.1
  have hbg : n * 80 ≤ 140737488351232 := h.len.2.2
  have H := Lib.hid h
  obtain ⟨V, hV⟩ : ∃ V, V = insErr l f o := ⟨_, rfl⟩
  rw [← hV]
  unfold insErr at hV
  have HV := Lib.hid hV
  obtain ⟨wa, hwa⟩ : ∃ wa, wa = w.alloc (.cells (opC o (.slice Av nv cv)) 67) := ⟨_, rfl⟩
  have HBA : Hid (Below w.heap.size w wa) := by rw [hwa]; exact (Below.refl _ _).alloc (Nat.le_refl _) _
  have P0 : Hid (Blk wa w.heap.size 67 (opC o (.slice Av nv cv))) := by rw [hwa]; exact Blk.new _ _ _
  have HWA := Lib.hid hwa
  clear h hV hwa
  dsimp only [AO]
  go_enter Tryz.func60, Tryz.ntmps60
  go_upto_region 1 with fail
  rw [← HWA.out]
  have e0 := fun i => P0.out.cell i
  by_cases h1 : o.id < 1
  · have HL : Hid (V = 2) := HV.out.trans (if_pos (.inl h1))
    go_wp2_with fail
    go_ret
    exact ⟨by rw [HL.out]; rfl, HBA.out⟩
  by_cases h2 : 1000000 < o.id
  · have HL : Hid (V = 2) := HV.out.trans (if_pos (.inr h2))
    go_wp2_with fail
    go_ret
    exact ⟨by rw [HL.out]; rfl, HBA.out⟩
  have HV1 := Lib.hid (HV.out.trans (if_neg (by omega)))
  go_wp2_with fail
  refine (HIa.out wa HBA.out).mono ?_
  rintro e w1 ⟨rfl, hb⟩
  have HB1 : Hid (Below w.heap.size w w1) := HBA.out.trans (hb.mono HBA.out.size)
  have P1 := Lib.hid (P0.out.below hb P0.out.lt)
  clear hb e0
  have e0 := fun i => P1.out.cell i
  by_cases h3 : 0 ≤ posOf l o.id
  · have HL : Hid (V = 6) := HV1.out.trans (if_pos h3)
    go_wp2_with fail
    go_ret
    exact ⟨by rw [HL.out]; rfl, HB1.out⟩
  have HV2 := Lib.hid (HV1.out.trans (if_neg h3))
  go_wp2_with fail
  refine (HIp.out w1 HB1.out).mono ?_
  rintro e w2 ⟨rfl, hb⟩
  have HB2 : Hid (Below w.heap.size w w2) := HB1.out.trans (hb.mono HB1.out.size)
  have P2 := Lib.hid (P1.out.below hb P1.out.lt)
  clear hb e0
  have e0 := fun i => P2.out.cell i
  by_cases h4 : posOf l o.parent < 0
  · have HL : Hid (V = 7) := HV2.out.trans (if_pos h4)
    go_wp2_with fail
    go_ret
    exact ⟨by rw [HL.out]; rfl, HB2.out⟩
  have HV3 := Lib.hid (HV2.out.trans (if_neg h4))
  obtain ⟨p, b, d, hp, hlp, hbi, hba, hd, hd40, hdF⟩ := G.blk_at (id := o.parent) (by omega)
  rw [hba, hdF] at HV3
  rw [hp]
  have hpn : p < n := by have := (List.getElem?_eq_some_iff.1 hlp).1; have := HN.out; omega
  obtain ⟨bb, off, Ak, nk, ck, Ap, np, cp, rfl, hbb, _, _, g2, _, _, hK, _⟩ := H.out.at_ hlp
  have hkl : nk = b.kids.length := hK.len.1
  have hkb := hK.len.2.2
  rw [← hkl] at HV3
  have c2 := (HB2.out.cell (p := ⟨bb, off + p * 5 + 2, none⟩) (by show bb < _; omega)).trans g2
  have HPA := Lib.hid fun W (hW : Below w.heap.size w W) => path_any l G.kids (some ⟨bb, off, none⟩) n cl o.parent d hd hd40 W B (Nat.le_trans hB hW.size) (H.out.below (hW.mono hB))
  have i0 : (0 : Int) ≤ (p : Int) := by omega
  have i1 : (p : Int) < (n : Int) := by omega
  have i2 : ¬ ((p : Int) < 0) := by omega
  have HPL : Hid ((pth l d o.parent).length = d) := pth_len d o.parent
  clear hK hkl hp hlp hba hd hdF h3 h4 g2
  by_cases h5 : o.at_ < 0
  · have HL : Hid (V = 2) := HV3.out.trans (if_pos (.inl h5))
    go_wp2_with fail
    go_ret
    exact ⟨by rw [HL.out]; rfl, HB2.out⟩
  by_cases h6 : (nk : Int) < o.at_
  · have HL : Hid (V = 2) := HV3.out.trans (if_pos (.inr h6))
    go_wp2_with fail
    go_ret
    exact ⟨by rw [HL.out]; rfl, HB2.out⟩
  have HV4 := Lib.hid (HV3.out.trans (if_neg (by omega)))
  obtain ⟨tx, htx⟩ : ∃ t, t = txErr o.text := ⟨_, rfl⟩
  rw [← htx] at HT HV4
  go_wp2_with fail
  refine (HT.out w2).mono ?_
  rintro e w3 ⟨rfl, hw3⟩
  rw [hw3]
  clear hw3 htx
  by_cases h7 : tx = 0
  case neg =>
    have HL : Hid (V = tx) := HV4.out.trans (if_pos h7)
    have h7' : (tx != 0) = true := by simpa using h7
    clear h7
    go_wp2_with fail
    go_ret
    exact ⟨by rw [HL.out]; rfl, HB2.out⟩
  have HV5 := Lib.hid (HV4.out.trans (if_neg (fun e => e h7)))
  subst h7
  rw [← HN.out] at HV5
  by_cases h8 : 2000 ≤ n
  · have HL : Hid (V = 14) := HV5.out.trans (if_pos (.inl h8))
    have h8' : (2000 : Int) ≤ (n : Int) := by omega
    go_wp2_with fail
    go_ret
    exact ⟨by rw [HL.out]; rfl, HB2.out⟩
  have h8' : ¬ (2000 : Int) ≤ (n : Int) := by omega
  by_cases h9 : 500 ≤ nk
  · have HL : Hid (V = 14) := HV5.out.trans (if_pos (.inr h9))
    have h9' : (500 : Int) ≤ (nk : Int) := by omega
    go_wp2_with fail
    go_ret
    exact ⟨by rw [HL.out]; rfl, HB2.out⟩
  have h9' : ¬ (500 : Int) ≤ (nk : Int) := by omega
  have HV6 := Lib.hid (HV5.out.trans (if_neg (by omega)))
  go_wp2_with fail
  refine (HPA.out w2 HB2.out).mono ?_
  rintro e w4 ⟨⟨A', n', rfl, hr⟩, hb⟩
  have HB4 : Hid (Below w.heap.size w w4) := HB2.out.trans (hb.mono HB2.out.size)
  have hn' : n' = d := by
    have := (hr.reads (B := w4.heap.size) fun b hb => hb.2).len.1
    rw [HPL.out] at this
    exact this
  clear hb hr
  subst hn'
  by_cases h10 : 40 ≤ (n' : Int)
  · have HL : Hid (V = 13) := HV6.out.trans (if_pos h10)
    go_wp2_with fail
    go_ret
    exact ⟨by rw [HL.out]; rfl, HB4.out⟩
  · have HL : Hid (V = 0) := HV6.out.trans (if_neg h10)
    go_wp2_with fail
    go_ret
    exact ⟨by rw [HL.out]; rfl, HB4.out⟩
end Go.Proofs.YtmkicfjcgbfaaaaGreatDoor
namespace Go.Proofs.YtmkicfjcgbfaaaaGreatDoor
open Go.RowKit

set_option maxRecDepth 100000 in
set_option maxHeartbeats 4000000 in
/-- tree.checkSetProp -/
theorem checkSetProp_any (l : List Bl) (f : Int → Option Int) (G : Good l f) (Al : Option Addr) (n cl : Nat) (o : Opn) (Av : Option Addr) (nv cv : Nat) (w : World) (B : Nat) (hB : B ≤ w.heap.size) (h : RB w B (.slice Al n cl) l) (ho : OI o) (hv : RV w B (.slice Av nv cv) o.val.items) (hid : 0 ≤ posOf l o.id) :
    Calls Tryz.prog 64 #[.slice Al n cl, AO (o, .slice Av nv cv)] w fun e w' => e = .returned (.int .i64 (setErr (blkAt l o.id).props o)) ∧ Below w.heap.size w w' := by
  have HIa := Lib.hid fun W (hW : Below w.heap.size w W) => index_any l Al n cl o.id W B (Nat.le_trans hB hW.size) (h.below (hW.mono hB)) G.kids.rise G.kids.ids ho.1
  have HNM := Lib.hid fun W => checkName_any o.name W
  obtain ⟨dv, hdv⟩ := hv
  have HCV := Lib.hid fun W (hW : Below w.heap.size w W) => checkValue_any dv (o.val, .slice Av nv cv) W B (Nat.le_trans hB hW.size) (hdv.below (hW.mono hB))
  obtain ⟨p, b, d, hp, hlp, hbi, hba, _⟩ := G.blk_at hid
  have hpn : p < n := by have := (List.getElem?_eq_some_iff.1 hlp).1; have := h.len.1; omega
  have hbg : n * 80 ≤ 140737488351232 := h.len.2.2
  obtain ⟨bb, off, Ak, nk, ck, Ap, np, cp, rfl, hbb, _, _, _, _, g4, _, hP⟩ := h.at_ hlp
  have hpl : np = b.props.length := hP.len.1
  have HGP := Lib.hid fun W (hW : Below w.heap.size w W) => getP_any b.props Ap np cp o.name W B (Nat.le_trans hB hW.size) (hP.below (hW.mono hB))
  have H := Lib.hid h
  obtain ⟨V, hV⟩ : ∃ V, V = setErr (blkAt l o.id).props o := ⟨_, rfl⟩
  rw [← hV]
  rw [hba] at hV
  unfold setErr at hV
  rw [← hpl] at hV
  rw [hp] at HIa
  have HV := Lib.hid hV
  obtain ⟨wa, hwa⟩ : ∃ wa, wa = w.alloc (.cells (opC o (.slice Av nv cv)) 67) := ⟨_, rfl⟩
  have HBA : Hid (Below w.heap.size w wa) := by rw [hwa]; exact (Below.refl _ _).alloc (Nat.le_refl _) _
  have P0 : Hid (Blk wa w.heap.size 67 (opC o (.slice Av nv cv))) := by rw [hwa]; exact Blk.new _ _ _
  have HWA := Lib.hid hwa
  have i0 : (0 : Int) ≤ (p : Int) := by omega
  have i1 : (p : Int) < (n : Int) := by omega
  have HG4 := Lib.hid g4
  obtain ⟨nm, hnm⟩ : ∃ t, t = nmErr o.name := ⟨_, rfl⟩
  rw [← hnm] at HNM HV
  obtain ⟨ve, hve⟩ : ∃ t, t = vErr o.val := ⟨_, rfl⟩
  dsimp only at HCV
  rw [← hve] at HCV HV
  clear h hV hwa hp hlp hbi hba hP hpl g4 hdv hid hnm hve
  dsimp only [AO]
  dsimp only [AV] at HCV
  go_enter Tryz.func64, Tryz.ntmps64
  go_upto_region 1 with fail
  rw [← HWA.out]
  have e0 := fun i => P0.out.cell i
  go_wp2_with fail
  refine (HNM.out wa).mono ?_
  rintro e w1 ⟨rfl, hw1⟩
  rw [hw1]
  clear hw1
  by_cases h1 : nm = 0
  case neg =>
    have HL : Hid (V = nm) := HV.out.trans (if_pos h1)
    have h1' : (nm != 0) = true := by simpa using h1
    clear h1
    go_wp2_with fail
    go_ret
    exact ⟨by rw [HL.out]; rfl, HBA.out⟩
  have HV1 := Lib.hid (HV.out.trans (if_neg (fun e => e h1)))
  subst h1
  go_wp2_with fail
  refine (HCV.out wa HBA.out).mono ?_
  rintro e w2 ⟨rfl, hb⟩
  have HB2 : Hid (Below w.heap.size w w2) := HBA.out.trans (hb.mono HBA.out.size)
  have P2 := Lib.hid (P0.out.below hb P0.out.lt)
  clear hb e0
  have e0 := fun i => P2.out.cell i
  by_cases h2 : ve = 0
  case neg =>
    have HL : Hid (V = ve) := HV1.out.trans (if_pos h2)
    have h2' : (ve != 0) = true := by simpa using h2
    clear h2
    go_wp2_with fail
    go_ret
    exact ⟨by rw [HL.out]; rfl, HB2.out⟩
  have HV2 := Lib.hid (HV1.out.trans (if_neg (fun e => e h2)))
  subst h2
  go_wp2_with fail
  refine (HIa.out w2 HB2.out).mono ?_
  rintro e w3 ⟨rfl, hb⟩
  have HB3 : Hid (Below w.heap.size w w3) := HB2.out.trans (hb.mono HB2.out.size)
  have P3 := Lib.hid (P2.out.below hb P2.out.lt)
  clear hb e0
  have e0 := fun i => P3.out.cell i
  have g4 := (HB3.out.cell (p := ⟨bb, off + p * 5 + 4, none⟩) (by show bb < _; omega)).trans HG4.out
  go_wp2_with fail
  refine (HGP.out w3 HB3.out).mono ?_
  rintro e w4 ⟨⟨A', n', c', rfl, _⟩, hb⟩
  dsimp only [AV]
  have HB4 : Hid (Below w.heap.size w w4) := HB3.out.trans (hb.mono HB3.out.size)
  have P4 := Lib.hid (P3.out.below hb P3.out.lt)
  clear hb e0 g4
  obtain ⟨q, hq⟩ : ∃ q, q = decide (0 ≤ nmOf b.props o.name) := ⟨_, rfl⟩
  rw [← hq]
  have HQ : Hid ((q = true) = (0 ≤ nmOf b.props o.name)) := by show _ = _; rw [hq, decide_eq_true_eq]
  clear hq
  obtain ⟨cs, hcs⟩ : ∃ cs : Array Value, cs = #[.int .i64 (getP b.props o.name).kind, .int .i64 (getP b.props o.name).int_, .int .i64 (getP b.props o.name).to_, .string (getP b.props o.name).text, .slice A' n' c'] := ⟨_, rfl⟩
  have P5 := Lib.hid (P4.out.alloc (.cells cs 65))
  have HB5 := Lib.hid (HB4.out.alloc HB4.out.size (.cells cs 65))
  have e0 : ∀ i, (w4.alloc (.cells #[.int .i64 (getP b.props o.name).kind, .int .i64 (getP b.props o.name).int_, .int .i64 (getP b.props o.name).to_, .string (getP b.props o.name).text, .slice A' n' c'] 65)).cell? ⟨w.heap.size, i, none⟩ = (opC o (.slice Av nv cv))[i]? := fun i => by rw [← hcs]; exact P5.out.cell i
  rw [hcs] at HB5
  clear hcs
  by_cases h3 : o.val.kind = 0
  · have h3' : (o.val.kind != 0) = false := by rw [h3]; rfl
    have HL : Hid (V = 0) := HV2.out.trans (if_neg (fun e => e.1 h3))
    clear h3
    go_wp2_with fail
    go_ret
    exact ⟨by rw [HL.out]; rfl, HB5.out⟩
  have h3' : (o.val.kind != 0) = true := by simpa using h3
  cases q
  case true =>
    have HL : Hid (V = 0) := HV2.out.trans (if_neg (fun e => by have := HQ.out.mp rfl; omega))
    clear h3
    go_wp2_with fail
    go_ret
    exact ⟨by rw [HL.out]; rfl, HB5.out⟩
  case false =>
    have hneg : nmOf b.props o.name < 0 := by
      have : ¬ 0 ≤ nmOf b.props o.name := fun e => by have := HQ.out.mpr e; cases this
      omega
    by_cases h4 : 20 ≤ np
    · have HL : Hid (V = 14) := HV2.out.trans (if_pos ⟨h3, hneg, h4⟩)
      have h4' : (20 : Int) ≤ (np : Int) := by omega
      clear h3 hneg
      go_wp2_with fail
      go_ret
      exact ⟨by rw [HL.out]; rfl, HB5.out⟩
    · have HL : Hid (V = 0) := HV2.out.trans (if_neg (fun e => h4 e.2.2))
      have h4' : ¬ (20 : Int) ≤ (np : Int) := by omega
      clear h3 hneg
      go_wp2_with fail
      go_ret
      exact ⟨by rw [HL.out]; rfl, HB5.out⟩

set_option maxHeartbeats 1000000 in
/-- tree.editOf -/
theorem editOf_any (o : Opn) (Av : Option Addr) (nv cv : Nat) (w : World) :
    Calls Tryz.prog 63 #[AO (o, .slice Av nv cv)] w fun e w' => e = .returned (.agg #[.int .i64 o.from_, .int .i64 o.to_, .string o.text]) ∧ Below w.heap.size w w' := by
  dsimp only [AO]
  go_enter Tryz.func63, Tryz.ntmps63
  go_wp2_with fail
  exact bodyPost_ret (v := .agg #[.int .i64 o.from_, .int .i64 o.to_, .string o.text]) (by simp [results, Tryz.results63, go_sem]) rfl ⟨rfl, ((Below.refl _ _).alloc (Nat.le_refl _) _).alloc (by simp) _⟩
end Go.Proofs.YtmkicfjcgbfaaaaGreatDoor
