/-
  DERIVED. Operations one after another, in plain words and in memory. Conditions: none.
  The walk of tree.checkInsert. Conditions: sizes; a base without error.
  slices.Insert and Delete at a base's row that is turned in place. Conditions: sizes.
  The walk of prop.with. Conditions: sizes; a list of properties without error.
  By an AI agent.
-/
import Derived.Test.YtmkicfjcgbfaaaaGreatTe25
import Derived.Test.YtmkicfjcgbfaaaaGreatTe11
import Derived.Test.YtmkicfjcgbfaaaaGreatTe22
import Derived.Test.YtmkicfjcgbfaaaaGreatTe04
import Derived.Test.YtmkicfjcgbfaaaaGreatTe21
import Derived.Test.YtmkicfjcgbfaaaaGreatTe26
import Derived.Test.YtmkicfjcgbfaaaaGreatTe18
import Derived.Test.YtmkicfjcgbfaaaaGreatTe23
namespace Go.Proofs.YtmkicfjcgbfaaaaGreat
open Go.RowKit

/-- operations one after another -/
def applL (l : List Bl) (os : List Opn) : List Bl := os.foldl applied l
theorem applL_snoc {l : List Bl} {os : List Opn} {k : Nat} {o : Opn} (h : os[k]? = some o) : applL l (os.take (k + 1)) = applied (applL l (os.take k)) o := by
  obtain ⟨hk, e⟩ := List.getElem?_eq_some_iff.1 h
  unfold applL
  rw [List.take_succ_eq_append_getElem hk, List.foldl_append, e]; rfl
/-- each of them has no error where it is done -/
def OkAll (l : List Bl) (os : List Opn) : Prop := ∀ (k : Nat) (o : Opn), os[k]? = some o → ∃ f, Good (applL l (os.take k)) f ∧ opErr (applL l (os.take k)) f o = 0
theorem OkAll.one {l : List Bl} {o : Opn} {f : Int → Option Int} (G : Good l f) (h : opErr l f o = 0) : OkAll l [o] := fun k x hx => by
  cases k with
  | zero =>
    obtain rfl : o = x := by simpa using hx
    exact ⟨f, G, h⟩
  | succ k => simp at hx

/-! ### operations in memory, in blocks of a sort -/
def ROsX (W : World) (S : Nat → Prop) (v : Value) (l : List Opn) : Prop := ∃ A n c, ∃ M : List (Opn × Value), M.map Prod.fst = l ∧ v = .slice A n c ∧ n = M.length ∧ (n ≤ c ∧ n * 144 ≤ 140737488351232) ∧ RdX W S 13 A n (M.flatMap opV) ∧ ∀ x ∈ M, RVX W S x.2 x.1.val.items ∧ OI x.1
section
variable {W W' : World} {S S' : Nat → Prop} {v : Value} {l : List Opn}
theorem ROsX.keep (h : ROsX W S v l) (hk : ∀ p : Addr, S p.block → W'.cell? p = W.cell? p) : ROsX W' S v l := by
  obtain ⟨A, n, c, M, h1, h2, h3, h4, h5, h6⟩ := h
  exact ⟨A, n, c, M, h1, h2, h3, h4, h5.keep hk, fun x hx => ⟨(h6 x hx).1.keep hk, (h6 x hx).2⟩⟩
theorem ROsX.weak (h : ROsX W S v l) (hS : ∀ b, S b → S' b) : ROsX W S' v l := by
  obtain ⟨A, n, c, M, h1, h2, h3, h4, h5, h6⟩ := h
  exact ⟨A, n, c, M, h1, h2, h3, h4, h5.weak hS, fun x hx => ⟨(h6 x hx).1.weak hS, (h6 x hx).2⟩⟩
theorem ROsX.of {B : Nat} (h : ROs W B v l) : ROsX W (· < B) v l := by
  obtain ⟨A, n, c, M, h1, h2, h3, h4, h5, h6⟩ := h
  exact ⟨A, n, c, M, h1, h2, h3, h4, h5, fun x hx => ⟨.of (h6 x hx).1, (h6 x hx).2⟩⟩
theorem ROsX.reads {B : Nat} (h : ROsX W S v l) (hS : ∀ b, S b → b < B) : ROs W B v l := by
  obtain ⟨A, n, c, M, h1, h2, h3, h4, h5, h6⟩ := h
  exact ⟨A, n, c, M, h1, h2, h3, h4, h5.reads hS, fun x hx => ⟨(h6 x hx).1.reads hS, (h6 x hx).2⟩⟩
/-- an operation in a row -/
theorem ROsX.at_ {n c B : Nat} {A : Option Addr} (h : ROsX W S (.slice A n c) l) (hB : ∀ b, S b → b < B) {k : Nat} {o : Opn} (hk : l[k]? = some o) :
    ∃ b off Av nv cv, A = some ⟨b, off, none⟩ ∧ S b ∧ (∀ i u, (opV (o, .slice Av nv cv))[i]? = some u → W.cell? ⟨b, off + k * 13 + i, none⟩ = some u) ∧ RVX W S (.slice Av nv cv) o.val.items ∧ OI o := by
  obtain ⟨A', n', c', M, h1, e, h2, h3, h4, h5⟩ := h
  injection e with e1 e2 e3
  subst e1 e2 e3
  obtain ⟨y, hy, rfl⟩ : ∃ y, M[k]? = some y ∧ y.1 = o := by
    rw [← h1, List.getElem?_map, Option.map_eq_some_iff] at hk
    exact hk
  obtain ⟨b, off, e, hb, hc⟩ := (h4.reads hB).plain_at (by omega) opV_len h2 hy
  obtain ⟨ad, e2, hS, _⟩ := h4.2 (by have := (List.getElem?_eq_some_iff.1 hy).1; omega)
  have e3 : ad = ⟨b, off, none⟩ := by rw [e] at e2; exact (Option.some.inj e2).symm
  rw [e3] at hS
  obtain ⟨k1, k2⟩ := h5 y (List.mem_of_getElem? hy)
  obtain ⟨o, v⟩ := y
  obtain ⟨Av, nv, cv, rfl⟩ := (k1.reads hB).slice
  exact ⟨b, off, Av, nv, cv, e, hS, hc, k1, k2⟩
/-- one operation that lies in a block -/
theorem ROsX.one {g : Nat} {o : Opn} {u : Value} (h : Blk W g 31 (opV (o, u)).toArray) (hS : S g) (hv : RVX W S u o.val.items) (hi : OI o) : ROsX W S (.slice (some ⟨g, 0, none⟩) 1 1) [o] :=
  ⟨_, 1, 1, [(o, u)], rfl, rfl, rfl, ⟨Nat.le_refl _, by omega⟩, ⟨rfl, fun _ => ⟨_, rfl, hS, fun j x hx => by
    rw [Addr.add_lit, Nat.zero_add, h.cell, ← hx, List.flatMap_singleton, List.getElem?_toArray]⟩⟩, fun x hx => by
    obtain rfl := List.mem_singleton.1 hx
    exact ⟨hv, hi⟩⟩
end

/-! ### what each kind makes -/
theorem insB_rise {L : List Bl} (hr : Rise L) {x : Bl} (hn : ∀ y ∈ L, y.id ≠ x.id) : Rise (insB x L) := rise_iff.2 (insB_sorted x L (rise_iff.1 hr) hn)
theorem insB_ids {L : List Bl} (hi : IdsIn L) {x : Bl} (hx : 0 ≤ x.id ∧ x.id ≤ 1000000) : IdsIn (insB x L) := fun y hy => by
  rcases (insB_mem x y L).1 hy with rfl | hy
  · exact hx
  · exact hi y hy
theorem put_at {α : Type} {M : List α} {i q : Nat} {x y : α} (h : M[q]? = some y) : ∃ q' : Nat, (M.take i ++ x :: M.drop i)[q']? = some y := by
  refine List.mem_iff_getElem?.1 ?_
  have hy := List.mem_of_getElem? h
  rw [← List.take_append_drop i M] at hy
  rcases List.mem_append.1 hy with hy | hy
  · exact List.mem_append_left _ hy
  · exact List.mem_append_right _ (List.mem_cons_of_mem _ hy)
theorem put_new {α : Type} {M : List α} {i : Nat} (hi : i ≤ M.length) (x : α) : (M.take i ++ x :: M.drop i)[i]? = some x := by
  have : (M.take i).length = i := by rw [List.length_take]; omega
  rw [List.getElem?_append_right (by omega), this, Nat.sub_self]; rfl
theorem map_put {M : List BK} {i : Nat} {x : BK} (hlow : LowB (M.map Prod.fst) x.1.id i) : (M.take i ++ x :: M.drop i).map Prod.fst = insB x.1 (M.map Prod.fst) := by
  rw [insB_low hlow, List.map_append, List.map_cons, List.map_take, List.map_drop]
theorem map_setk (M : List BK) (q : Nat) (y : BK) : (M.set q y).map Prod.fst = (M.map Prod.fst).set q y.1 := by rw [List.map_set]
/-- a block turned at its place in a row -/
theorem map_upd {M : List BK} (hr : Rise (M.map Prod.fst)) {q : Nat} {y : BK} (hy : M[q]? = some y) (h : Bl → Bl) (kv pv : Value) : (M.set q (h y.1, kv, pv)).map Prod.fst = upd (M.map Prod.fst) y.1.id h := by
  rw [map_setk, upd_set hr (q := q) (y := y.1) (by rw [List.getElem?_map, hy]; rfl) rfl]
theorem applied_ins {l : List Bl} {o : Opn} (h : o.kind = 1) (hn : ∀ x ∈ l, x.id ≠ o.id) {y : Bl} (hy : y ∈ l) (hyi : y.id = o.parent) : applied l o = upd (insB ⟨o.id, o.parent, [], o.text, []⟩ l) o.parent fun b => b.withKids (plusK b.kids o.at_.toNat o.id) := by
  unfold applied insL
  rw [if_pos h, upd_insB]
  · show o.id ≠ o.parent
    rw [← hyi]; exact fun e => hn y hy e.symm
  · exact fun b => rfl
theorem applied_rem {l : List Bl} (K : Kids l) {o : Opn} (h : o.kind = 2) {x : Bl} (hx : x ∈ l) (hxi : x.id = o.id) : applied l o = (upd l x.parent fun b => b.withKids (lessK b.kids o.id)).filter fun b => b.id != o.id := by
  unfold applied remL
  rw [if_neg (by omega), if_pos h, ← hxi, parOf_eq K hx]
theorem applied_mov {l : List Bl} (K : Kids l) {o : Opn} (h : o.kind = 3) {x : Bl} (hx : x ∈ l) (hxi : x.id = o.id) : applied l o = upd (upd (upd l x.parent fun b => b.withKids (lessK b.kids o.id)) o.id fun b => b.withPar o.parent) o.parent fun b => b.withKids (plusK b.kids o.at_.toNat o.id) := by
  unfold applied
  rw [if_neg (by omega), if_neg (by omega), if_pos h]
  refine movL_eq fun b hb hp hin => ?_
  obtain ⟨_, y, hy, hyi, hyp⟩ := K.kid b hb _ hin
  have : y = x := K.rise.inj hy hx (by rw [hyi, hxi])
  subst this
  exact hp hyp.symm
theorem applied_edit {l : List Bl} {o : Opn} (h : o.kind = 4) : applied l o = upd l o.id fun b => b.withText (edS b.text o.text o.from_ o.to_) := by
  unfold applied
  rw [if_neg (by omega), if_neg (by omega), if_neg (by omega), if_pos h]
theorem applied_set {l : List Bl} {o : Opn} (h : o.kind = 5) : applied l o = upd l o.id fun b => b.withProps (setPr b.props o.name o.val) := by
  unfold applied
  rw [if_neg (by omega), if_neg (by omega), if_neg (by omega), if_neg (by omega)]
theorem txt_size {s : ByteArray} (h : txErr s = 0) : s.size ≤ 65536 := by
  unfold txErr at h
  split at h
  · omega
  · omega
theorem row_at {M : List BK} {L : List Bl} (h : M.map Prod.fst = L) {q : Nat} {y : Bl} (hy : L[q]? = some y) : ∃ yk, M[q]? = some yk ∧ yk.1 = y := by
  rw [← h, List.getElem?_map, Option.map_eq_some_iff] at hy
  exact hy
end Go.Proofs.YtmkicfjcgbfaaaaGreat
namespace Go.Proofs.YtmkicfjcgbfaaaaGreat
open Go.RowKit

theorem Good.blk_at {l : List Bl} {f : Int → Option Int} (G : Good l f) {id : Int} (h : 0 ≤ posOf l id) : ∃ (p : Nat) (b : Bl) (d : Nat), posOf l id = (p : Int) ∧ l[p]? = some b ∧ b.id = id ∧ blkAt l id = b ∧ Dp l id d ∧ d ≤ 40 ∧ dF f id = (d : Int) := by
  rcases posOf_spec l id with ⟨e, _⟩ | ⟨p, b, e, hb, hbi, _⟩
  · omega
  · obtain ⟨d, h1, h2, h3⟩ := G.dp (List.mem_of_getElem? hb)
    rw [hbi] at h1 h2
    exact ⟨p, b, d, e, hb, hbi, blkAt_of e hb, h2, h3, by unfold dF; rw [h1]; rfl⟩
/-- the cells of an operation that lies in a block of its own -/
abbrev opC (o : Opn) (v : Value) : Array Value := #[.int .i64 o.kind, .int .i64 o.id, .int .i64 o.parent, .int .i64 o.at_, .int .i64 o.from_, .int .i64 o.to_, .string o.text, .string o.name, .int .i64 o.val.kind, .int .i64 o.val.int_, .int .i64 o.val.to_, .string o.val.text, v]

set_option maxRecDepth 100000 in
set_option maxHeartbeats 4000000 in
/-- tree.checkInsert -/
theorem checkInsert_any (l : List Bl) (f : Int → Option Int) (G : Good l f) (Al : Option Addr) (n cl : Nat) (o : Opn) (Av : Option Addr) (nv cv : Nat) (w : World) (B : Nat) (hB : B ≤ w.heap.size) (h : RB w B (.slice Al n cl) l) (ho : OI o) :
    Calls Tryz.prog 121 #[.slice Al n cl, AO (o, .slice Av nv cv)] w fun e w' => e = .returned (.int .i64 (insErr l f o)) ∧ Below w.heap.size w w' := by
  have HIa := Lib.hid fun W (hW : Below w.heap.size w W) => index_any l Al n cl o.id W B (Nat.le_trans hB hW.size) (h.below (hW.mono hB)) G.kids.rise G.kids.ids ho.1
  have HIp := Lib.hid fun W (hW : Below w.heap.size w W) => index_any l Al n cl o.parent W B (Nat.le_trans hB hW.size) (h.below (hW.mono hB)) G.kids.rise G.kids.ids ho.2.1
  have HT := Lib.hid fun W => checkT_any o.text W
  have HN := Lib.hid h.len.1
  have hbg : n * 80 ≤ 140737488351232 := h.len.2.2
  have H := Lib.hid h
  obtain ⟨V, hV⟩ : ∃ V, V = insErr l f o := ⟨_, rfl⟩
  rw [← hV]
  unfold insErr at hV
  have HV := Lib.hid hV
  obtain ⟨wa, hwa⟩ : ∃ wa, wa = w.alloc (.cells (opC o (.slice Av nv cv)) 31) := ⟨_, rfl⟩
  have HBA : Hid (Below w.heap.size w wa) := by rw [hwa]; exact (Below.refl _ _).alloc (Nat.le_refl _) _
  have P0 : Hid (Blk wa w.heap.size 31 (opC o (.slice Av nv cv))) := by rw [hwa]; exact Blk.new _ _ _
  have HWA := Lib.hid hwa
  clear h hV hwa
  dsimp only [AO]
  go_enter Tryz.func121, Tryz.ntmps121
  go_upto_region 1 with fail
  rw [← HWA.out]
  have e0 := fun i => P0.out.cell i
  by_cases h1 : o.id < 1
  · have HL : Hid (V = 2) := HV.out.trans (if_pos (.inl h1))
    go_wp2_with fail
    go_ret
    exact ⟨by rw [HL.out]; rfl, HBA.out⟩
  by_cases h2 : 1000000 < o.id
  · have HL : Hid (V = 2) := HV.out.trans (if_pos (.inr h2))
    go_wp2_with fail
    go_ret
    exact ⟨by rw [HL.out]; rfl, HBA.out⟩
  have HV1 := Lib.hid (HV.out.trans (if_neg (by omega)))
  go_wp2_with fail
  refine (HIa.out wa HBA.out).mono ?_
  rintro e w1 ⟨rfl, hb⟩
  have HB1 : Hid (Below w.heap.size w w1) := HBA.out.trans (hb.mono HBA.out.size)
  have P1 := Lib.hid (P0.out.below hb P0.out.lt)
  clear hb e0
  have e0 := fun i => P1.out.cell i
  by_cases h3 : 0 ≤ posOf l o.id
  · have HL : Hid (V = 6) := HV1.out.trans (if_pos h3)
    go_wp2_with fail
    go_ret
    exact ⟨by rw [HL.out]; rfl, HB1.out⟩
  have HV2 := Lib.hid (HV1.out.trans (if_neg h3))
  go_wp2_with fail
  refine (HIp.out w1 HB1.out).mono ?_
  rintro e w2 ⟨rfl, hb⟩
  have HB2 : Hid (Below w.heap.size w w2) := HB1.out.trans (hb.mono HB1.out.size)
  have P2 := Lib.hid (P1.out.below hb P1.out.lt)
  clear hb e0
  have e0 := fun i => P2.out.cell i
  by_cases h4 : posOf l o.parent < 0
  · have HL : Hid (V = 7) := HV2.out.trans (if_pos h4)
    go_wp2_with fail
    go_ret
    exact ⟨by rw [HL.out]; rfl, HB2.out⟩
  have HV3 := Lib.hid (HV2.out.trans (if_neg h4))
  obtain ⟨p, b, d, hp, hlp, hbi, hba, hd, hd40, hdF⟩ := G.blk_at (id := o.parent) (by omega)
  rw [hba, hdF] at HV3
  rw [hp]
  have hpn : p < n := by have := (List.getElem?_eq_some_iff.1 hlp).1; have := HN.out; omega
  obtain ⟨bb, off, Ak, nk, ck, Ap, np, cp, rfl, hbb, _, _, g2, _, _, hK, _⟩ := H.out.at_ hlp
  have hkl : nk = b.kids.length := hK.len.1
  have hkb := hK.len.2.2
  rw [← hkl] at HV3
  have c2 := (HB2.out.cell (p := ⟨bb, off + p * 5 + 2, none⟩) (by show bb < _; omega)).trans g2
  have HPA := Lib.hid fun W (hW : Below w.heap.size w W) => path_any l G.kids (some ⟨bb, off, none⟩) n cl o.parent d hd hd40 W B (Nat.le_trans hB hW.size) (H.out.below (hW.mono hB))
  have i0 : (0 : Int) ≤ (p : Int) := by omega
  have i1 : (p : Int) < (n : Int) := by omega
  have i2 : ¬ ((p : Int) < 0) := by omega
  have HPL : Hid ((pth l d o.parent).length = d) := pth_len d o.parent
  clear hK hkl hp hlp hba hd hdF h3 h4 g2
  by_cases h5 : o.at_ < 0
  · have HL : Hid (V = 2) := HV3.out.trans (if_pos (.inl h5))
    go_wp2_with fail
    go_ret
    exact ⟨by rw [HL.out]; rfl, HB2.out⟩
  by_cases h6 : (nk : Int) < o.at_
  · have HL : Hid (V = 2) := HV3.out.trans (if_pos (.inr h6))
    go_wp2_with fail
    go_ret
    exact ⟨by rw [HL.out]; rfl, HB2.out⟩
  have HV4 := Lib.hid (HV3.out.trans (if_neg (by omega)))
  obtain ⟨tx, htx⟩ : ∃ t, t = txErr o.text := ⟨_, rfl⟩
  rw [← htx] at HT HV4
  go_wp2_with fail
  refine (HT.out w2).mono ?_
  rintro e w3 ⟨rfl, hw3⟩
  rw [hw3]
  clear hw3 htx
  by_cases h7 : tx = 0
  case neg =>
    have HL : Hid (V = tx) := HV4.out.trans (if_pos h7)
    have h7' : (tx != 0) = true := by simpa using h7
    clear h7
    go_wp2_with fail
    go_ret
    exact ⟨by rw [HL.out]; rfl, HB2.out⟩
  have HV5 := Lib.hid (HV4.out.trans (if_neg (fun e => e h7)))
  subst h7
  rw [← HN.out] at HV5
  by_cases h8 : 2000 ≤ n
  · have HL : Hid (V = 14) := HV5.out.trans (if_pos (.inl h8))
    have h8' : (2000 : Int) ≤ (n : Int) := by omega
    go_wp2_with fail
    go_ret
    exact ⟨by rw [HL.out]; rfl, HB2.out⟩
  have h8' : ¬ (2000 : Int) ≤ (n : Int) := by omega
  by_cases h9 : 500 ≤ nk
  · have HL : Hid (V = 14) := HV5.out.trans (if_pos (.inr h9))
    have h9' : (500 : Int) ≤ (nk : Int) := by omega
    go_wp2_with fail
    go_ret
    exact ⟨by rw [HL.out]; rfl, HB2.out⟩
  have h9' : ¬ (500 : Int) ≤ (nk : Int) := by omega
  have HV6 := Lib.hid (HV5.out.trans (if_neg (by omega)))
  go_wp2_with fail
  refine (HPA.out w2 HB2.out).mono ?_
  rintro e w4 ⟨⟨A', n', rfl, hr⟩, hb⟩
  have HB4 : Hid (Below w.heap.size w w4) := HB2.out.trans (hb.mono HB2.out.size)
  have hn' : n' = d := by
    have := (hr.reads (B := w4.heap.size) fun b hb => hb.2).len.1
    rw [HPL.out] at this
    exact this
  clear hb hr
  subst hn'
  by_cases h10 : 40 ≤ (n' : Int)
  · have HL : Hid (V = 13) := HV6.out.trans (if_pos h10)
    go_wp2_with fail
    go_ret
    exact ⟨by rw [HL.out]; rfl, HB4.out⟩
  · have HL : Hid (V = 0) := HV6.out.trans (if_neg h10)
    go_wp2_with fail
    go_ret
    exact ⟨by rw [HL.out]; rfl, HB4.out⟩
end Go.Proofs.YtmkicfjcgbfaaaaGreat
namespace Go.Proofs.YtmkicfjcgbfaaaaGreat
open Go.RowKit

theorem blk_one (x : BK) (h1 : ∃ A n c, x.2.1 = .slice A n c) (h2 : ∃ A n c, x.2.2 = .slice A n c) : ∀ u ∈ blV x, u.oneCell' = true := by
  obtain ⟨A, n, c, e1⟩ := h1
  obtain ⟨A', n', c', e2⟩ := h2
  intro u hu
  unfold blV at hu
  rw [e1, e2] at hu
  simp at hu
  rcases hu with rfl | rfl | rfl | rfl | rfl <;> rfl
theorem NB.slices {w : World} {S : Nat → Prop} {x : BK} (h : NB w S x) : (∃ A n c, x.2.1 = .slice A n c) ∧ ∃ A n c, x.2.2 = .slice A n c := by
  obtain ⟨⟨A, n, c, e, _⟩, ⟨A', n', c', M, _, e', _⟩⟩ := h
  exact ⟨⟨A, n, c, e⟩, ⟨A', n', c', e'⟩⟩
theorem RowB.one {w : World} {g cap : Nat} {M : List BK} (h : RowB w g cap M) : ∀ u ∈ M.flatMap blV, u.oneCell' = true := by
  intro u hu
  obtain ⟨x, hx, hu⟩ := List.mem_flatMap.1 hu
  obtain ⟨h1, h2⟩ := (h.nest x hx).slices
  exact blk_one x h1 h2 u hu
/-- a new block -/
def newB (id p : Int) (s : ByteArray) : BK := (⟨id, p, [], s, []⟩, .slice none 0 0, .slice none 0 0)
theorem newB_nest (w : World) (S : Nat → Prop) (id p : Int) (s : ByteArray) : NB w S (newB id p s) :=
  ⟨⟨none, 0, 0, rfl, rfl, ⟨Nat.le_refl _, by omega⟩, ⟨rfl, fun h => absurd h (by omega)⟩, fun x hx => by cases hx⟩, ⟨none, 0, 0, [], rfl, rfl, rfl, ⟨Nat.le_refl _, by omega⟩, ⟨rfl, fun h => absurd h (by omega)⟩, fun x hx => by cases hx⟩⟩
theorem fmB_take (M : List BK) (i : Nat) : (M.flatMap blV).take (i * 5) = (M.take i).flatMap blV := by
  conv => lhs; rw [← List.take_append_drop i M, List.flatMap_append]
  rcases Nat.lt_or_ge i M.length with h | h
  · rw [List.take_append_of_le_length (by rw [fmB_len, List.length_take]; omega), List.take_of_length_le (by rw [fmB_len, List.length_take]; omega)]
  · rw [List.drop_eq_nil_of_le h, List.flatMap_nil, List.append_nil, List.take_of_length_le (by rw [fmB_len, List.length_take]; omega)]
theorem fmB_drop (M : List BK) (i : Nat) : (M.flatMap blV).drop (i * 5) = (M.drop i).flatMap blV := by
  conv => lhs; rw [← List.take_append_drop i M, List.flatMap_append]
  rcases Nat.lt_or_ge i M.length with h | h
  · have : ((M.take i).flatMap blV).length = i * 5 := by rw [fmB_len, List.length_take]; omega
    rw [← this, List.drop_left]
  · rw [List.drop_eq_nil_of_le h, List.flatMap_nil, List.append_nil, List.drop_eq_nil_of_le]
    rw [fmB_len, List.length_take]; omega
/-- what an insert leaves -/
def InsBR (S : Nat → Prop) (g : Nat) (M' : List BK) (w : World) (e : Ending) (w' : World) : Prop := ∃ g' cap', e = .returned (.slice (some ⟨g', 0, none⟩) M'.length cap') ∧ RowS S w' g' cap' M' ∧ w.grownBy w' (some g) ∧ (g' = g ∨ w.heap.size ≤ g')
theorem insertB_any {S : Nat → Prop} (w : World) (g cap : Nat) (M : List BK) (h : RowS S w g cap M) (i : Nat) (hi : i ≤ M.length) (hl : M.length < 100000) (id p : Int) (s : ByteArray) :
    Calls Tryz.prog 128 #[.slice (some ⟨g, 0, none⟩) M.length cap, .int .i64 i, .slice (some ⟨w.heap.size, 0, none⟩) 1 1] (w.alloc (.cells #[.int .i64 id, .int .i64 p, .slice none 0 0, .string s, .slice none 0 0] 38)) (InsBR S g (M.take i ++ newB id p s :: M.drop i) (w.alloc (.cells #[.int .i64 id, .int .i64 p, .slice none 0 0, .string s, .slice none 0 0] 38))) := by
  obtain ⟨wa, hwa⟩ : ∃ wa, wa = w.alloc (.cells #[.int .i64 id, .int .i64 p, .slice none 0 0, .string s, .slice none 0 0] 38) := ⟨_, rfl⟩
  have hk : Blk wa w.heap.size 38 (blV (newB id p s)).toArray := by rw [hwa]; exact Blk.new _ _ _
  have hb : Below w.heap.size w wa := by rw [hwa]; exact (Below.refl _ _).alloc (Nat.le_refl _) _
  rw [← hwa]
  have ha := h.below hb
  have hgl := h.lt
  have hbz := hb.size
  refine (insB_own (.slice (some ⟨g, 0, none⟩) M.length cap) M.length (M.flatMap blV) g i w.heap.size (blV (newB id p s)) wa (ha.own (Nat.le_refl _)) hi (by omega) (blV_len _) hk (fun e => by have : g = w.heap.size := Option.some.inj e; omega) ha.one (blk_one _ ⟨_, _, _, rfl⟩ ⟨_, _, _, rfl⟩) (Nat.le_of_lt ha.lt)).mono ?_
  rintro e w1 ⟨v', rfl, hown, hg, hv⟩
  have hfm : (M.take i ++ newB id p s :: M.drop i).flatMap blV = (M.flatMap blV).take (i * 5) ++ blV (newB id p s) ++ (M.flatMap blV).drop (i * 5) := by
    rw [fmB_take, fmB_drop, List.flatMap_append, List.flatMap_cons, List.append_assoc]
  have hlen : (M.take i ++ newB id p s :: M.drop i).length = M.length + 1 := by
    rw [List.length_append, List.length_cons, List.length_take, List.length_drop]; omega
  rw [← hfm, ← hlen] at hown
  have hg' : wa.grownBy w1 (some g) := hg
  obtain ⟨g', cap', rfl, hgg, hrow⟩ := RowS.of_own (S := S) hown (by omega) (by omega) fun x hx => by
    have hx' : NB wa (fun b => (b < wa.heap.size ∧ b ≠ g) ∧ S b) x := by
      rcases List.mem_append.1 hx with hx | hx
      · exact ha.far x (List.mem_of_mem_take hx)
      · rcases List.mem_cons.1 hx with rfl | hx
        · exact newB_nest _ _ _ _ _
        · exact ha.far x (List.mem_of_mem_drop hx)
    refine NB_ok _ _ _ _ x hx' (fun q hq => World.cell?_of_block (hg'.block q.block hq.1.1 fun e => hq.1.2 (Option.some.inj e))) fun b hb' => ⟨⟨Nat.lt_of_lt_of_le hb'.1.1 hg'.size, ?_⟩, hb'.2⟩
    rcases hv with e | e <;> rw [e]
    · exact fun e => hb'.1.2 (Option.some.inj e).symm
    · exact fun e => by have := Option.some.inj e; omega
  refine ⟨g', cap', rfl, hrow, hg', ?_⟩
  rcases hv with e | e
  · exact .inl (Option.some.inj e)
  · exact .inr (Nat.le_of_eq (Option.some.inj e).symm)
/-- what a delete leaves -/
def DelBR (S : Nat → Prop) (g cap : Nat) (M' : List BK) (w : World) (e : Ending) (w' : World) : Prop := ∃ cap', e = .returned (.slice (some ⟨g, 0, none⟩) M'.length cap') ∧ RowS S w' g cap' M' ∧ w.grownBy w' (some g) ∧ cap = cap
theorem deleteB_any {S : Nat → Prop} (w : World) (g cap : Nat) (M : List BK) (h : RowS S w g cap M) (i : Nat) (hi : i < M.length) (h2 : 2 ≤ M.length) :
    Calls Tryz.prog 131 #[.slice (some ⟨g, 0, none⟩) M.length cap, .int .i64 i, .int .i64 ((i : Int) + 1)] w (DelBR S g cap (M.take i ++ M.drop (i + 1)) w) := by
  have hfew := h.few
  refine (deleteB_own (.slice (some ⟨g, 0, none⟩) M.length cap) M.length (M.flatMap blV) g i w (h.own (Nat.le_refl _)) hi hfew h.one).mono ?_
  rintro e w1 ⟨v', rfl, hown, hg, hv⟩
  have hfm : (M.take i ++ M.drop (i + 1)).flatMap blV = (M.flatMap blV).take (i * 5) ++ (M.flatMap blV).drop ((i + 1) * 5) := by
    rw [fmB_take, fmB_drop, List.flatMap_append]
  have hlen : (M.take i ++ M.drop (i + 1)).length = M.length - 1 := by
    rw [List.length_append, List.length_take, List.length_drop]; omega
  rw [← hfm, ← hlen] at hown
  have hg' : w.grownBy w1 (some g) := hg
  have hv' : v'.ownBlock = some g := hv
  obtain ⟨g', cap', rfl, hgg, hrow⟩ := RowS.of_own (S := S) hown (by omega) (by omega) fun x hx => by
    have hx' : NB w (fun b => (b < w.heap.size ∧ b ≠ g) ∧ S b) x := by
      rcases List.mem_append.1 hx with hx | hx
      · exact h.far x (List.mem_of_mem_take hx)
      · exact h.far x (List.mem_of_mem_drop hx)
    exact NB_ok _ _ _ _ x hx' (fun q hq => World.cell?_of_block (hg'.block q.block hq.1.1 fun e => hq.1.2 (Option.some.inj e))) fun b hb' => ⟨⟨Nat.lt_of_lt_of_le hb'.1.1 hg'.size, by rw [hv']; exact fun e => hb'.1.2 (Option.some.inj e).symm⟩, hb'.2⟩
  obtain rfl : g' = g := Option.some.inj hv'
  exact ⟨cap', rfl, hrow, hg', rfl⟩
end Go.Proofs.YtmkicfjcgbfaaaaGreat
namespace Go.Proofs.YtmkicfjcgbfaaaaGreat
open Go.RowKit

theorem OwnP.rprX {w : World} {base c c' : Nat} {A : Option Addr} {M : List (Pr × Value)} (h : OwnP w base A c M) (hb : M.length * 80 ≤ 140737488351232) (hc : M.length ≤ c') : RPrX w (fun b => base ≤ b ∧ b < w.heap.size) (.slice A M.length c') (M.map Prod.fst) := by
  refine ⟨A, M.length, c', M, rfl, rfl, rfl, ⟨hc, hb⟩, ⟨prs_cells M, fun hp => ?_⟩, fun x hx => (h.nest x hx).weak fun b hb => ⟨hb.1, hb.2.1⟩⟩
  have hr := h.row.reads
  rcases h.row.2 with ⟨_, h0⟩ | ⟨g, rfl, hge, _, h4⟩
  · have := h.row.1; omega
  · obtain ⟨ad, e, hlt, hcell⟩ := hr.2 hp
    have e : ad = ⟨g, 0, none⟩ := (Option.some.inj e).symm
    subst e
    exact ⟨_, rfl, ⟨hge, hlt⟩, hcell⟩
theorem sp_of : ∀ {M : List (Pr × Value)}, (∀ x ∈ M, ∃ A n c, x.2 = .slice A n c) → ∃ L : List SPr, L.map spP = M
  | [], _ => ⟨[], rfl⟩
  | x :: M, h => by
    obtain ⟨A, n, c, e⟩ := h x (by simp)
    obtain ⟨L, hL⟩ := sp_of (M := M) fun y hy => h y (by simp [hy])
    obtain ⟨x1, x2⟩ := x
    obtain rfl : x2 = _ := e
    exact ⟨(x1, A, n, c) :: L, by rw [List.map_cons, hL]; rfl⟩
/-- an append of one property, whether there is room or not -/
theorem run_appP (w : World) (A : Option Addr) (c base : Nat) (M : List (Pr × Value)) (hb : base ≤ w.heap.size) (h : OwnP w base A c M) (hm : M.length ≤ 1000) (ad : Addr) (x : Pr × Value) (hx1 : ∀ u ∈ prV x, u.oneCell' = true) (hx : ∀ j u, (prV x)[j]? = some u → w.cell? (ad.add j) = some u)
    (hn : NP w (fun b => base ≤ b ∧ b < w.heap.size ∧ A.map Addr.block ≠ some b) x) :
    ∃ (g c' : Nat) (w' : World), (∀ ty, (Builtin.append_ #[36, 36] ty #[.slice A M.length c, .slice (some ad) 1 1]).run Tryz.prog w = .ok (.slice (some ⟨g, 0, none⟩) (M.length + 1) c') w') ∧ OwnP w' base (some ⟨g, 0, none⟩) c' (M ++ [x]) ∧ w.grownBy w' (A.map Addr.block) := by
  have hall : ∀ y ∈ M ++ [x], NP w (fun b => base ≤ b ∧ b < w.heap.size ∧ A.map Addr.block ≠ some b) y := fun y hy => by
    rcases List.mem_append.1 hy with hy | hy
    · exact h.nest y hy
    · rw [List.mem_singleton.1 hy]; exact hn
  by_cases hc : M.length + 1 ≤ c
  · rcases h.row.2 with ⟨_, h0⟩ | ⟨g, rfl, hge, hR, hF⟩
    · omega
    · obtain ⟨w', h1, h2, h3⟩ := run_appP_room w g c base M hge hR hF hc ad x hx1 hx
      exact ⟨g, c, w', h1, ⟨h2, fun y hy => ((hall y hy).keep fun p hp => World.cell?_of_block (h3.block p.block hp.2.1 fun e => hp.2.2 e.symm)).weak fun b hb => ⟨hb.1, Nat.lt_of_lt_of_le hb.2.1 h3.size, hb.2.2⟩⟩, h3⟩
  · obtain ⟨G, w', h1, h2, h3⟩ := run_appP_grow w A c base M hb h.row (by have := h.row.1; omega) hm ad x hx
    exact ⟨w.heap.size, G, w', h1, ⟨h2, fun y hy => ((hall y hy).keep fun p hp => World.cell?_of_block (h3.block p.block hp.2.1 (by simp))).weak fun b hb => ⟨hb.1, Nat.lt_of_lt_of_le hb.2.1 h3.size, fun e => by have : w.heap.size = b := Option.some.inj e; omega⟩⟩, ⟨h3.os, h3.tape, h3.output, h3.size, fun k hk _ => h3.block k hk (by simp)⟩⟩

/-- the append of prop.with, behind the copy of the value -/
theorem with_app (w1 w2 : World) (base : Nat) (A1 : Option Addr) (c1 : Nat) (M : List (Pr × Value)) (s : ByteArray) (v : Vl) (A' : Option Addr) (n' c' : Nat) (hb : base ≤ w1.heap.size) (hb2 : Below w1.heap.size w1 w2) (ho : OwnP w1 base A1 c1 M) (hml : M.length ≤ 20)
    (hrv : RVX w2 (fun b => w1.heap.size ≤ b ∧ b < w2.heap.size) (.slice A' n' c') v.items) :
    ∃ (g c3 : Nat) (w3 : World), (∀ ty, (Builtin.append_ #[36, 36] ty #[.slice A1 M.length c1, .slice (some ⟨w2.heap.size, 0, none⟩) 1 1]).run Tryz.prog (w2.alloc (.cells #[.string s, .int .i64 v.kind, .int .i64 v.int_, .int .i64 v.to_, .string v.text, .slice A' n' c'] 116)) = .ok (.slice (some ⟨g, 0, none⟩) (M.length + 1) c3) w3) ∧
      OwnP w3 base (some ⟨g, 0, none⟩) c3 (M ++ [(⟨s, v⟩, .slice A' n' c')]) ∧ Below base w1 w3 := by
  obtain ⟨wc, hwc⟩ : ∃ wc, wc = w2.alloc (.cells #[.string s, .int .i64 v.kind, .int .i64 v.int_, .int .i64 v.to_, .string v.text, .slice A' n' c'] 116) := ⟨_, rfl⟩
  have hbc : Below w2.heap.size w2 wc := by rw [hwc]; exact (Below.refl _ _).alloc (Nat.le_refl _) _
  have hb1c : Below w1.heap.size w1 wc := hb2.trans (hbc.mono hb2.size)
  have hk : Blk wc w2.heap.size 116 #[.string s, .int .i64 v.kind, .int .i64 v.int_, .int .i64 v.to_, .string v.text, .slice A' n' c'] := by rw [hwc]; exact Blk.new _ _ _
  have hz1 := hb2.size
  have hz2 := hbc.size
  have hA : ∀ b, A1.map Addr.block = some b → base ≤ b ∧ b < w1.heap.size := fun b e => by
    rcases ho.row.2 with ⟨h0, _⟩ | ⟨g, h0, hg, _, hF⟩
    · rw [h0] at e; cases e
    · rw [h0] at e
      obtain rfl : g = b := Option.some.inj e
      exact ⟨hg, hF.lt⟩
  have hoc : OwnP wc base A1 c1 M := ho.grown (M' := M) ⟨hb1c.os, hb1c.tape, hb1c.output, hb1c.size, fun k hk _ => hb1c.block k hk⟩ ⟨ho.row.1, ho.row.2.imp id fun ⟨g, a, b, c, d⟩ => ⟨g, a, b, c.below hb1c d.lt, d.below hb1c d.lt⟩⟩ fun x hx => hx
  obtain ⟨g, c3, w3, h1, h2, h3⟩ := run_appP wc A1 c1 base M (by omega) hoc (by omega) ⟨w2.heap.size, 0, none⟩ (⟨s, v⟩, .slice A' n' c') (prV_one _ ⟨_, _, _, rfl⟩) (fun j u hu => by
    rw [Addr.add_lit, Nat.zero_add, hk.cell, ← hu]; exact (List.getElem?_toArray (xs := prV (⟨s, v⟩, .slice A' n' c')) (i := j)))
    ((hrv.keep fun p hp => hbc.cell hp.2).weak fun b hb => ⟨by omega, by omega, fun e => by have := (hA b e).2; omega⟩)
  rw [hwc] at h1
  exact ⟨g, c3, w3, h1, h2, (hb1c.mono hb).trans ⟨h3.os, h3.tape, h3.output, h3.size, fun k hk => h3.block k (by omega) fun e => by have := (hA k e.symm).1; omega⟩⟩

/-- what the sort of prop.with leaves -/
def SrtR (base : Nat) (g n : Nat) (l : List Pr) (w : World) (e : Ending) (w' : World) : Prop := e = .returned (.tuple #[]) ∧ RPrX w' (fun b => base ≤ b ∧ b < w'.heap.size) (.slice (some ⟨g, 0, none⟩) n n) l ∧ Below base w w'
/-- the sort of prop.with -/
theorem with_sort (w3 : World) (base g c3 : Nat) (M : List (Pr × Value)) (l : List Pr) (s : ByteArray) (v : Vl) (A' : Option Addr) (n' c' : Nat) (hcp : cpErr l = 0) (hk : v.kind ≠ 0) (hM : M.map Prod.fst = l.filter fun p => !decide (p.name = s)) (hml : M.length ≤ 20)
    (ho : OwnP w3 base (some ⟨g, 0, none⟩) c3 (M ++ [(⟨s, v⟩, .slice A' n' c')])) :
    Calls Tryz.prog 179 #[.slice (some ⟨g, 0, none⟩) (M.length + 1) c3, .func (.func 180) #[] #[]] w3 (SrtR base g (M.length + 1) (setPr l s v) w3) := by
  obtain ⟨L, hL⟩ := sp_of (M := M ++ [(⟨s, v⟩, .slice A' n' c')]) fun x hx => (ho.nest x hx).slice
  have hLl : L.length = M.length + 1 := by
    have := congrArg List.length hL
    rw [List.length_map, List.length_append] at this
    exact this
  have hLf : L.map Prod.fst = (l.filter fun p => !decide (p.name = s)) ++ [⟨s, v⟩] := by
    have := congrArg (List.map Prod.fst) hL
    rw [List.map_map, List.map_append, hM] at this
    exact this
  rw [← hL] at ho
  have hrow := ho.row
  have hle : L.length ≤ c3 := by have := hrow.1; rwa [List.length_map] at this
  rcases hrow.2 with ⟨h0, _⟩ | ⟨g', h0, hge, hR, hF⟩
  · cases h0
  have hgg : g' = g := by injection h0 with h0; injection h0 with h0; exact h0.symm
  subst hgg
  have hS := sortP_any g' c3 L w3 hR hF hle (by omega)
  rw [hLl] at hS
  refine hS.mono ?_
  rintro e w4 ⟨rfl, d', hp, hsd, hR4, hF4, hg4⟩
  rw [← hLl] at hp hsd
  obtain ⟨e1, e2, e3⟩ := setPr_srt hcp hk hLf hp hsd
  have hlen : (d'.toList.map spP).length = M.length + 1 := by rw [List.length_map, Array.length_toList, e3, hLl]
  have ho4 : OwnP w4 base (some ⟨g', 0, none⟩) c3 (d'.toList.map spP) := ho.grown hg4 ⟨by rw [hlen, ← hLl]; exact hle, .inr ⟨g', rfl, hge, hR4, hF4⟩⟩ fun x hx => by
    obtain ⟨y, hy, rfl⟩ := List.mem_map.1 hx
    exact List.mem_map.2 ⟨y, e2 y hy, rfl⟩
  have h5 := ho4.rprX (c' := M.length + 1) (by rw [hlen]; omega) (by rw [hlen]; exact Nat.le_refl _)
  rw [hlen, List.map_map] at h5
  refine ⟨rfl, by rw [← e1]; exact h5, ⟨hg4.os, hg4.tape, hg4.output, hg4.size, fun k hk => hg4.block k (by have := hF.lt; omega) fun e => by have : k = g' := Option.some.inj e; omega⟩⟩

set_option maxRecDepth 100000 in
set_option maxHeartbeats 4000000 in
/-- prop.with -/
theorem with_any (A : Option Addr) (n c : Nat) (l : List Pr) (s : ByteArray) (v : Vl) (Av : Option Addr) (nv cv : Nat) (w : World) (B : Nat) (hB : B ≤ w.heap.size) (h : RPr w B (.slice A n c) l) (hcp : cpErr l = 0) (hv : RV w B (.slice Av nv cv) v.items) :
    Calls Tryz.prog 162 #[.slice A n c, .string s, AV (v, .slice Av nv cv)] w (CopyPR (setPr l s v) w) := by
  have hl20 : l.length ≤ 20 := (cp_ok hcp).1
  obtain ⟨wb, hwb⟩ : ∃ wb, wb = w.alloc (.cells #[.int .i64 v.kind, .int .i64 v.int_, .int .i64 v.to_, .string v.text, .slice Av nv cv] 29) := ⟨_, rfl⟩
  have HWB0 : Hid (Below w.heap.size w wb) := by rw [hwb]; exact (Below.refl _ _).alloc (Nat.le_refl _) _
  have P0 : Hid (Blk wb w.heap.size 29 #[.int .i64 v.kind, .int .i64 v.int_, .int .i64 v.to_, .string v.text, .slice Av nv cv]) := by rw [hwb]; exact Blk.new _ _ _
  have hzb : w.heap.size < wb.heap.size := by rw [hwb]; simp
  have HWO := Lib.hid (withoutP_any A n c l s wb B (Nat.le_trans hB (Nat.le_of_lt hzb)) (h.below (HWB0.out.mono hB)))
  obtain ⟨dv, hdv⟩ := hv
  have HCV := Lib.hid fun W (hW : Below w.heap.size w W) => copyValue_any dv (v, .slice Av nv cv) W B (Nat.le_trans hB hW.size) (hdv.below (hW.mono hB))
  have HCP := Lib.hid hcp
  have HWB := Lib.hid hwb
  dsimp only [AV] at HCV ⊢
  clear h hcp hdv hwb
  by_cases hk : v.kind = 0
  · have hk' : (v.kind == 0) = true := by simpa using hk
    have HSP := Lib.hid (setPr_none (l := l) (s := s) hk)
    clear hk
    go_enter Tryz.func162, Tryz.ntmps162
    go_upto_region 1 with fail
    rw [← HWB.out]
    go_wp2_with fail
    refine HWO.out.mono ?_
    rintro e w1 ⟨⟨A1, c1, M, rfl, hc1, hM, ho⟩, hb1⟩
    have hml : M.length ≤ 20 := by
      have := congrArg List.length hM
      rw [List.length_map] at this
      have := List.length_filter_le (fun p : Pr => !decide (p.name = s)) l
      omega
    have HRX : Hid (RPrX w1 (fun b => w.heap.size ≤ b ∧ b < w1.heap.size) (.slice A1 M.length c1) (setPr l s v)) := by
      rw [HSP.out, ← hM]
      exact (ho.rprX (by omega) ho.row.1).weak fun b hb => ⟨by omega, hb.2⟩
    have HB1 : Hid (Below w.heap.size w w1) := HWB0.out.trans (hb1.mono HWB0.out.size)
    have e0 : w1.cell? ⟨w.heap.size, 0, none⟩ = some (.int .i64 v.kind) := (P0.out.below hb1 P0.out.lt).cell 0
    clear ho hM hc1 hb1 hml
    go_wp2_with fail
    go_ret
    exact ⟨⟨A1, M.length, c1, rfl, HRX.out⟩, HB1.out⟩
  · have hk' : (v.kind == 0) = false := by simpa using hk
    have HK := Lib.hid hk
    clear hk
    go_enter Tryz.func162, Tryz.ntmps162
    go_upto_region 1 with fail
    rw [← HWB.out]
    go_wp2_with fail
    refine HWO.out.mono ?_
    rintro e w1 ⟨⟨A1, c1, M, rfl, hc1, hM, ho⟩, hb1⟩
    have hml : M.length ≤ 20 := by
      have := congrArg List.length hM
      rw [List.length_map] at this
      have := List.length_filter_le (fun p : Pr => !decide (p.name = s)) l
      omega
    have HB1 : Hid (Below w.heap.size w w1) := HWB0.out.trans (hb1.mono HWB0.out.size)
    have P1 := Lib.hid (P0.out.below hb1 P0.out.lt)
    have e0 := P1.out.cell 0
    have e1 := P1.out.cell 1
    have e2 := P1.out.cell 2
    have e3 := P1.out.cell 3
    have e4 := P1.out.cell 4
    have HO := Lib.hid ho
    have HM := Lib.hid hM
    have HX := Lib.hid (HCV.out w1 HB1.out)
    have hwz : wb.heap.size ≤ w1.heap.size := hb1.size
    clear ho hM hc1 hb1
    go_wp2_with (first
      | (go_at_call 92; refine HX.out.mono ?_; rintro e w2 ⟨⟨A', n', c', rfl, hrv⟩, hb⟩; dsimp only [AV]; have HB2 : Hid (Below w1.heap.size w1 w2) := hb; have HRV := Lib.hid hrv; clear hb hrv; obtain ⟨g3, c3, w3, hrun, ho3, hg3⟩ := with_app w1 w2 wb.heap.size A1 c1 M s v A' n' c' hwz HB2.out HO.out hml HRV.out; have HO3 := Lib.hid ho3; have HG3 := Lib.hid hg3; clear ho3 hg3)
      | (at_builtin; refine Lib.wpList_append_run _ rfl _ _ _ _ rfl _ _ rfl rfl _ _ (hrun _) ?_))
    have HSO := Lib.hid (with_sort w3 wb.heap.size g3 c3 M l s v A' n' c' HCP.out HK.out HM.out hml HO3.out)
    clear hrun
    go_wp2_with fail
    refine HSO.out.mono ?_
    rintro e w4 ⟨rfl, hrx, hb4⟩
    have HB4 : Hid (Below w.heap.size w w4) := (HB1.out.trans (HG3.out.mono (Nat.le_of_lt hzb))).trans (hb4.mono (Nat.le_of_lt hzb))
    have HRX : Hid (RPrX w4 (fun b => w.heap.size ≤ b ∧ b < w4.heap.size) (.slice (some ⟨g3, 0, none⟩) (M.length + 1) (M.length + 1)) (setPr l s v)) := hrx.weak fun b hb => ⟨by omega, hb.2⟩
    have hle : M.length + 1 ≤ c3 := by have := HO3.out.row.1; rwa [List.length_append] at this
    have HCL := Lib.hid fun W => clipP_any (some ⟨g3, 0, none⟩) (M.length + 1) c3 W hle fun e => by cases e
    clear hrx hb4
    go_wp2_with fail
    refine (HCL.out _).mono ?_
    rintro e w5 ⟨rfl, hw5⟩
    subst hw5
    go_wp2_with fail
    go_ret
    exact ⟨⟨some ⟨g3, 0, none⟩, M.length + 1, M.length + 1, rfl, HRX.out⟩, HB4.out⟩
end Go.Proofs.YtmkicfjcgbfaaaaGreat
