/-
  DERIVED. The walks of tree.among, checked, Indent, Outdent. Conditions: sizes.
  By an AI agent.
-/
import Derived.Test.YtmkicfjcgbfaaaaGreatTe39
import Derived.Test.YtmkicfjcgbfaaaaGreatTe26
import Derived.Test.YtmkicfjcgbfaaaaGreatTe38
import Derived.Test.YtmkicfjcgbfaaaaGreatTe27
namespace Go.Proofs.YtmkicfjcgbfaaaaGreat
open Go.RowKit

/-- an operation that moves -/
def mvO (id s a : Int) : Opn := ⟨3, id, s, a, 0, 0, ⟨#[]⟩, ⟨#[]⟩, zV⟩
def chk (l : List Bl) (f : Int → Option Int) (o : Opn) : Opn × Int := if opErr l f o = 0 then (o, 0) else (zO, opErr l f o)
/-- an operation and an error handed back -/
def MvR (r : Opn × Int) (w : World) (e : Ending) (w' : World) : Prop := e = .returned (.tuple #[AO (r.1, .slice none 0 0), .int .i64 r.2]) ∧ Below w.heap.size w w'
/-- where a block is among its parent's -/
structure At (l : List Bl) (id : Int) (p q i : Nat) (x y : Bl) : Prop where
  hx : l[p]? = some x
  hxi : x.id = id
  hy : l[q]? = some y
  hyi : y.id = x.parent
  hk : y.kids[i]? = some id
  ix : ixOf y.kids id = i
  p0 : 0 < p
theorem Good.mv {l : List Bl} {f : Int → Option Int} (G : Good l f) {id : Int} (h : 0 < posOf l id) : ∃ p q i x y, At l id p q i x y := by
  obtain ⟨p, x, d, hp, hx, hxi, _⟩ := G.blk_at (Int.le_of_lt h)
  have h0 : x.id ≠ 0 := by rw [hxi]; exact G.pos_zero h
  obtain ⟨q, y, hy, hyi, hin⟩ := G.par_at (List.mem_of_getElem? hx) h0
  rw [hxi] at hin
  rcases ixOf_spec y.kids id with ⟨_, h2⟩ | ⟨i, h1, h2, _⟩
  · exact absurd hin h2
  · exact ⟨p, q, i, x, y, hx, hxi, hy, hyi, h2, h1, by omega⟩
section
variable {l : List Bl} {f : Int → Option Int} {id : Int} {p q i : Nat} {x y : Bl}
theorem At.pp (h : At l id p q i x y) (G : Good l f) : posOf l id = (p : Int) := by rw [← h.hxi]; exact posOf_of G.kids.rise h.hx
theorem At.qq (h : At l id p q i x y) (G : Good l f) : posOf l x.parent = (q : Int) := by rw [← h.hyi]; exact posOf_of G.kids.rise h.hy
theorem Good.i64 (G : Good l f) (hx : l[p]? = some x) : I64 x.id := by have := G.kids.ids x (List.mem_of_getElem? hx); unfold I64; omega
theorem At.idI (h : At l id p q i x y) (G : Good l f) : I64 id := by rw [← h.hxi]; exact G.i64 h.hx
theorem At.parI (h : At l id p q i x y) (G : Good l f) : I64 x.parent := by rw [← h.hyi]; exact G.i64 h.hy
theorem cin_good (G : Good l f) : cinE l f id = if posOf l id ≤ 0 then 7 else 0 := by
  unfold cinE ciE
  rw [G.clean]
  simp only [ne_eq, not_true_eq_false, if_false]
  by_cases h1 : posOf l id < 0
  · rw [if_pos h1, if_pos (by omega), if_pos (by omega)]
  · rw [if_neg h1, if_neg (by simp)]
    by_cases h2 : id = 0
    · rw [if_neg (by simpa using h2), if_pos ((G.pos_root (by omega)).2 h2)]
    · rw [if_pos h2, if_neg (fun h => h2 ((G.pos_root (by omega)).1 h))]
end
def AmongR (y : Bl) (id : Int) (w : World) (e : Ending) (w' : World) : Prop := (∃ Ak nk ck, e = .returned (.tuple #[.slice Ak nk ck, .int .i64 (ixOf y.kids id)]) ∧ RIn w' w'.heap.size (.slice Ak nk ck) y.kids) ∧ Below w.heap.size w w'
set_option maxRecDepth 100000 in
set_option maxHeartbeats 8000000 in
/-- tree.among -/
theorem among_any (l : List Bl) (f : Int → Option Int) (G : Good l f) (A : Option Addr) (n c : Nat) (id : Int) (p q i : Nat) (x y : Bl) (hat : At l id p q i x y) (w : World) (h : RB w w.heap.size (.slice A n c) l) :
    Calls Tryz.prog 103 #[.slice A n c, .int .i64 id] w (AmongR y id w) := by
  have HA1 := Lib.hid fun W (hW : Below w.heap.size w W) => index_any l A n c id W w.heap.size hW.size (h.below hW) G.kids.rise G.kids.ids (hat.idI G)
  have HA2 := Lib.hid fun W (hW : Below w.heap.size w W) => index_any l A n c x.parent W w.heap.size hW.size (h.below hW) G.kids.rise G.kids.ids (hat.parI G)
  rw [hat.pp G] at HA1
  rw [hat.qq G] at HA2
  have hx := hat.hx
  have hy := hat.hy
  have hpn : p < n := by have := (List.getElem?_eq_some_iff.1 hx).1; have := h.len.1; omega
  have hqn : q < n := by have := (List.getElem?_eq_some_iff.1 hy).1; have := h.len.1; omega
  obtain ⟨b, off, _, _, _, _, _, _, rfl, hbb, _, g1, _⟩ := h.at_ hx
  obtain ⟨b', off', Ak, nk, ck, _, _, _, e, _, _, _, g2, _, _, hK, _⟩ := h.at_ hy
  have e : b = b' ∧ off = off' := by injection e with e; injection e with e1 e2; exact ⟨e1, e2⟩
  obtain ⟨rfl, rfl⟩ := e
  have G1 := Lib.hid g1
  have G2 := Lib.hid g2
  have HK := Lib.hid hK
  have HIX := Lib.hid fun W (hW : Below w.heap.size w W) => indexI_any y.kids Ak nk ck id W w.heap.size (hK.below hW)
  obtain ⟨V, hV⟩ : ∃ V, V = ixOf y.kids id := ⟨_, rfl⟩
  rw [← hV] at HIX
  unfold AmongR
  rw [← hV]
  have hn8 : n ≤ 2000 := by have := G.kids.short; have := h.len.1; omega
  have i0 : (0 : Int) ≤ (p : Int) := by omega
  have i1 : (p : Int) < (n : Int) := by omega
  have i2 : (0 : Int) ≤ (q : Int) := by omega
  have i3 : (q : Int) < (n : Int) := by omega
  clear h hx hy hK g1 g2 hV hat G
  go_enter Tryz.func103, Tryz.ntmps103
  go_wp2_with fail
  refine (HA1.out w (Below.refl _ _)).mono ?_
  rintro e w1 ⟨rfl, hb1⟩
  have HB1 := Lib.hid hb1
  have c1 : w1.cell? ⟨b, off + p * 5 + 1, none⟩ = some (.int .i64 x.parent) := (hb1.cell (p := ⟨b, off + p * 5 + 1, none⟩) (by show b < _; omega)).trans G1.out
  clear hb1
  go_wp2_with fail
  refine (HA2.out w1 HB1.out).mono ?_
  rintro e w2 ⟨rfl, hb⟩
  have HB2 : Hid (Below w.heap.size w w2) := HB1.out.trans (hb.mono HB1.out.size)
  have c2 : w2.cell? ⟨b, off + q * 5 + 2, none⟩ = some (.slice Ak nk ck) := (HB2.out.cell (p := ⟨b, off + q * 5 + 2, none⟩) (by show b < _; omega)).trans G2.out
  clear hb c1
  go_wp2_with fail
  refine (HIX.out w2 HB2.out).mono ?_
  rintro e w3 ⟨rfl, rfl⟩
  go_wp2_with fail
  go_ret2
  exact ⟨⟨Ak, nk, ck, rfl, (HK.out.below HB2.out).more HB2.out.size⟩, HB2.out⟩
set_option maxRecDepth 100000 in
set_option maxHeartbeats 8000000 in
/-- tree.checked -/
theorem checked_any (l : List Bl) (f : Int → Option Int) (G : Good l f) (A : Option Addr) (n c : Nat) (id s a : Int) (ho : OI (mvO id s a)) (w : World) (h : RB w w.heap.size (.slice A n c) l) :
    Calls Tryz.prog 104 #[.slice A n c, AO (mvO id s a, .slice none 0 0)] w (MvR (chk l f (mvO id s a)) w) := by
  have HCO := Lib.hid fun W (hW : Below w.heap.size w W) => checkOp_any l f G A n c (mvO id s a) none 0 0 W w.heap.size hW.size (h.below hW) ho (RV.nil _ _)
  unfold chk
  obtain ⟨er, her⟩ : ∃ er, er = opErr l f (mvO id s a) := ⟨_, rfl⟩
  rw [← her] at HCO ⊢
  obtain ⟨wb, hwb⟩ : ∃ wb, wb = (w.alloc (.cells #[.int .i64 3, .int .i64 id, .int .i64 s, .int .i64 a, .int .i64 0, .int .i64 0, .string ⟨#[]⟩, .string ⟨#[]⟩, .int .i64 0, .int .i64 0, .int .i64 0, .string ⟨#[]⟩, .slice none 0 0] 31)).alloc (.cells #[.int .i64 0, .int .i64 0, .int .i64 0, .int .i64 0, .int .i64 0, .int .i64 0, .string ⟨#[]⟩, .string ⟨#[]⟩, .int .i64 0, .int .i64 0, .int .i64 0, .string ⟨#[]⟩, .slice none 0 0] 31) := ⟨_, rfl⟩
  have HB0 : Hid (Below w.heap.size w wb) := by rw [hwb]; exact ((Below.refl _ _).alloc (Nat.le_refl _) _).alloc (by simp) _
  have P0 : Hid (Blk wb w.heap.size 31 #[.int .i64 3, .int .i64 id, .int .i64 s, .int .i64 a, .int .i64 0, .int .i64 0, .string ⟨#[]⟩, .string ⟨#[]⟩, .int .i64 0, .int .i64 0, .int .i64 0, .string ⟨#[]⟩, .slice none 0 0]) := by rw [hwb]; exact (Blk.new _ _ _).alloc _
  have R0 : Hid (Blk wb (w.heap.size + 1) 31 #[.int .i64 0, .int .i64 0, .int .i64 0, .int .i64 0, .int .i64 0, .int .i64 0, .string ⟨#[]⟩, .string ⟨#[]⟩, .int .i64 0, .int .i64 0, .int .i64 0, .string ⟨#[]⟩, .slice none 0 0]) := by
    show Blk _ _ _ _
    rw [hwb]
    have h := Blk.new (w.alloc (.cells #[.int .i64 3, .int .i64 id, .int .i64 s, .int .i64 a, .int .i64 0, .int .i64 0, .string ⟨#[]⟩, .string ⟨#[]⟩, .int .i64 0, .int .i64 0, .int .i64 0, .string ⟨#[]⟩, .slice none 0 0] 31)) 31 #[.int .i64 0, .int .i64 0, .int .i64 0, .int .i64 0, .int .i64 0, .int .i64 0, .string ⟨#[]⟩, .string ⟨#[]⟩, .int .i64 0, .int .i64 0, .int .i64 0, .string ⟨#[]⟩, .slice none 0 0]
    simpa only [World.size_alloc] using h
  have hg1 : w.heap.size ≤ w.heap.size + 1 := Nat.le_succ _
  have HWB := Lib.hid hwb
  unfold MvR
  rw [show AO (mvO id s a, .slice none 0 0) = .agg #[.int .i64 3, .int .i64 id, .int .i64 s, .int .i64 a, .int .i64 0, .int .i64 0, .string ⟨#[]⟩, .string ⟨#[]⟩, .int .i64 0, .int .i64 0, .int .i64 0, .string ⟨#[]⟩, .slice none 0 0] from rfl] at HCO ⊢
  clear her h hwb ho G
  by_cases h0 : er = 0
  · subst h0
    rw [if_pos rfl]
    go_enter Tryz.func104, Tryz.ntmps104
    go_upto_region 1 with fail
    rw [← HWB.out]
    have e0 := fun i => P0.out.cell i
    go_wp2_with fail
    refine (HCO.out wb HB0.out).mono ?_
    rintro e w1 ⟨rfl, hb1⟩
    have HB1 : Hid (Below w.heap.size w w1) := HB0.out.trans (hb1.mono HB0.out.size)
    have R1 := Lib.hid (R0.out.below hb1 R0.out.lt)
    have P1 := Lib.hid (P0.out.below hb1 P0.out.lt)
    clear hb1 e0
    have e0 := fun i => P1.out.cell i
    have rd := fun i => R1.out.cell i
    have fd := fun i => R1.out.frozen i
    go_wp2_with fail
    have PF := putO_blk (.int .i64 3) (.int .i64 id) (.int .i64 s) (.int .i64 a) (.int .i64 0) (.int .i64 0) (.string ⟨#[]⟩) (.string ⟨#[]⟩) (.int .i64 0) (.int .i64 0) (.int .i64 0) (.string ⟨#[]⟩) (.slice none 0 0) R1.out rfl
    have HBF := putO_below (.int .i64 3) (.int .i64 id) (.int .i64 s) (.int .i64 a) (.int .i64 0) (.int .i64 0) (.string ⟨#[]⟩) (.string ⟨#[]⟩) (.int .i64 0) (.int .i64 0) (.int .i64 0) (.string ⟨#[]⟩) (.slice none 0 0) HB1.out hg1
    obtain ⟨wf, hF⟩ : ∃ wf, wf = putO w1 (w.heap.size + 1) (.int .i64 3) (.int .i64 id) (.int .i64 s) (.int .i64 a) (.int .i64 0) (.int .i64 0) (.string ⟨#[]⟩) (.string ⟨#[]⟩) (.int .i64 0) (.int .i64 0) (.int .i64 0) (.string ⟨#[]⟩) (.slice none 0 0) := ⟨_, rfl⟩
    rw [← hF] at PF HBF
    unfold putO at hF
    rw [← hF]
    obtain ⟨r0, r1, r2, r3, r4, r5, r6, r7, r8, r9, r10, r11, r12⟩ := op_cells PF
    exact bodyPost_ret (v := .tuple #[AO (mvO id s a, .slice none 0 0), .int .i64 0]) (by simp [results, Tryz.results104, go_sem, r0, r1, r2, r3, r4, r5, r6, r7, r8, r9, r10, r11, r12, AO, mvO, zV, Vl.kind, Vl.int_, Vl.to_, Vl.text]) rfl ⟨rfl, HBF⟩
  · rw [if_neg h0]
    have h0' : (er != 0) = true := by simpa using h0
    clear h0
    go_enter Tryz.func104, Tryz.ntmps104
    go_upto_region 1 with fail
    rw [← HWB.out]
    have e0 := fun i => P0.out.cell i
    go_wp2_with fail
    refine (HCO.out wb HB0.out).mono ?_
    rintro e w1 ⟨rfl, hb1⟩
    have HB1 : Hid (Below w.heap.size w w1) := HB0.out.trans (hb1.mono HB0.out.size)
    have R1 := Lib.hid (R0.out.below hb1 R0.out.lt)
    have P1 := Lib.hid (P0.out.below hb1 P0.out.lt)
    clear hb1 e0
    have e0 := fun i => P1.out.cell i
    have rd := fun i => R1.out.cell i
    have fd := fun i => R1.out.frozen i
    go_wp2_with fail
    have PF := putO_blk (.int .i64 0) (.int .i64 0) (.int .i64 0) (.int .i64 0) (.int .i64 0) (.int .i64 0) (.string ⟨#[]⟩) (.string ⟨#[]⟩) (.int .i64 0) (.int .i64 0) (.int .i64 0) (.string ⟨#[]⟩) (.slice none 0 0) R1.out rfl
    have HBF := putO_below (.int .i64 0) (.int .i64 0) (.int .i64 0) (.int .i64 0) (.int .i64 0) (.int .i64 0) (.string ⟨#[]⟩) (.string ⟨#[]⟩) (.int .i64 0) (.int .i64 0) (.int .i64 0) (.string ⟨#[]⟩) (.slice none 0 0) HB1.out hg1
    obtain ⟨wf, hF⟩ : ∃ wf, wf = putO w1 (w.heap.size + 1) (.int .i64 0) (.int .i64 0) (.int .i64 0) (.int .i64 0) (.int .i64 0) (.int .i64 0) (.string ⟨#[]⟩) (.string ⟨#[]⟩) (.int .i64 0) (.int .i64 0) (.int .i64 0) (.string ⟨#[]⟩) (.slice none 0 0) := ⟨_, rfl⟩
    rw [← hF] at PF HBF
    unfold putO at hF
    rw [← hF]
    obtain ⟨r0, r1, r2, r3, r4, r5, r6, r7, r8, r9, r10, r11, r12⟩ := op_cells PF
    exact bodyPost_ret (v := .tuple #[AO (zO, .slice none 0 0), .int .i64 er]) (by simp [results, Tryz.results104, go_sem, r0, r1, r2, r3, r4, r5, r6, r7, r8, r9, r10, r11, r12, AO, zO, zV, Vl.kind, Vl.int_, Vl.to_, Vl.text]) rfl ⟨rfl, HBF⟩
set_option maxRecDepth 100000 in
set_option maxHeartbeats 8000000 in
theorem indent_bad (l : List Bl) (f : Int → Option Int) (hf : DepOk l f) (A : Option Addr) (n c : Nat) (id : Int) (hid : I64 id) (w : World) (h : RB w w.heap.size (.slice A n c) l) (hne : cinE l f id ≠ 0) :
    Calls Tryz.prog 37 #[.slice A n c, .int .i64 id] w (MvR (zO, cinE l f id) w) := by
  have HC := Lib.hid fun W (hW : Below w.heap.size w W) => checkInner_any l f A n c id hid W w.heap.size hW.size (h.below hW) hf
  obtain ⟨er, her⟩ : ∃ er, er = cinE l f id := ⟨_, rfl⟩
  rw [← her] at HC hne ⊢
  have h0' : (er != 0) = true := by simpa using hne
  obtain ⟨wb, hwb⟩ : ∃ wb, wb = w.alloc (.cells #[.int .i64 0, .int .i64 0, .int .i64 0, .int .i64 0, .int .i64 0, .int .i64 0, .string ⟨#[]⟩, .string ⟨#[]⟩, .int .i64 0, .int .i64 0, .int .i64 0, .string ⟨#[]⟩, .slice none 0 0] 31) := ⟨_, rfl⟩
  have HB0 : Hid (Below w.heap.size w wb) := by rw [hwb]; exact (Below.refl _ _).alloc (Nat.le_refl _) _
  have R0 : Hid (Blk wb w.heap.size 31 #[.int .i64 0, .int .i64 0, .int .i64 0, .int .i64 0, .int .i64 0, .int .i64 0, .string ⟨#[]⟩, .string ⟨#[]⟩, .int .i64 0, .int .i64 0, .int .i64 0, .string ⟨#[]⟩, .slice none 0 0]) := by rw [hwb]; exact Blk.new _ _ _
  have hg1 : w.heap.size ≤ w.heap.size := Nat.le_refl _
  have HWB := Lib.hid hwb
  unfold MvR
  clear her hne h hwb hid
  go_enter Tryz.func37, Tryz.ntmps37
  go_upto_region 1 with fail
  rw [← HWB.out]
  go_wp2_with fail
  refine (HC.out wb HB0.out).mono ?_
  rintro e w1 ⟨rfl, hb1⟩
  have HB1 : Hid (Below w.heap.size w w1) := HB0.out.trans (hb1.mono HB0.out.size)
  have R1 := Lib.hid (R0.out.below hb1 R0.out.lt)
  clear hb1
  have rd := fun i => R1.out.cell i
  have fd := fun i => R1.out.frozen i
  go_wp2_with fail
  have PF := putO_blk (.int .i64 0) (.int .i64 0) (.int .i64 0) (.int .i64 0) (.int .i64 0) (.int .i64 0) (.string ⟨#[]⟩) (.string ⟨#[]⟩) (.int .i64 0) (.int .i64 0) (.int .i64 0) (.string ⟨#[]⟩) (.slice none 0 0) R1.out rfl
  have HBF := putO_below (.int .i64 0) (.int .i64 0) (.int .i64 0) (.int .i64 0) (.int .i64 0) (.int .i64 0) (.string ⟨#[]⟩) (.string ⟨#[]⟩) (.int .i64 0) (.int .i64 0) (.int .i64 0) (.string ⟨#[]⟩) (.slice none 0 0) HB1.out hg1
  obtain ⟨wf, hF⟩ : ∃ wf, wf = putO w1 w.heap.size (.int .i64 0) (.int .i64 0) (.int .i64 0) (.int .i64 0) (.int .i64 0) (.int .i64 0) (.string ⟨#[]⟩) (.string ⟨#[]⟩) (.int .i64 0) (.int .i64 0) (.int .i64 0) (.string ⟨#[]⟩) (.slice none 0 0) := ⟨_, rfl⟩
  rw [← hF] at PF HBF
  unfold putO at hF
  rw [← hF]
  obtain ⟨r0, r1, r2, r3, r4, r5, r6, r7, r8, r9, r10, r11, r12⟩ := op_cells PF
  exact bodyPost_ret (v := .tuple #[AO (zO, .slice none 0 0), .int .i64 er]) (by simp [results, Tryz.results37, go_sem, r0, r1, r2, r3, r4, r5, r6, r7, r8, r9, r10, r11, r12, AO, zO, zV, Vl.kind, Vl.int_, Vl.to_, Vl.text]) rfl ⟨rfl, HBF⟩
set_option maxRecDepth 100000 in
set_option maxHeartbeats 8000000 in
theorem outdent_bad (l : List Bl) (f : Int → Option Int) (hf : DepOk l f) (A : Option Addr) (n c : Nat) (id : Int) (hid : I64 id) (w : World) (h : RB w w.heap.size (.slice A n c) l) (hne : cinE l f id ≠ 0) :
    Calls Tryz.prog 38 #[.slice A n c, .int .i64 id] w (MvR (zO, cinE l f id) w) := by
  have HC := Lib.hid fun W (hW : Below w.heap.size w W) => checkInner_any l f A n c id hid W w.heap.size hW.size (h.below hW) hf
  obtain ⟨er, her⟩ : ∃ er, er = cinE l f id := ⟨_, rfl⟩
  rw [← her] at HC hne ⊢
  have h0' : (er != 0) = true := by simpa using hne
  obtain ⟨wb, hwb⟩ : ∃ wb, wb = w.alloc (.cells #[.int .i64 0, .int .i64 0, .int .i64 0, .int .i64 0, .int .i64 0, .int .i64 0, .string ⟨#[]⟩, .string ⟨#[]⟩, .int .i64 0, .int .i64 0, .int .i64 0, .string ⟨#[]⟩, .slice none 0 0] 31) := ⟨_, rfl⟩
  have HB0 : Hid (Below w.heap.size w wb) := by rw [hwb]; exact (Below.refl _ _).alloc (Nat.le_refl _) _
  have R0 : Hid (Blk wb w.heap.size 31 #[.int .i64 0, .int .i64 0, .int .i64 0, .int .i64 0, .int .i64 0, .int .i64 0, .string ⟨#[]⟩, .string ⟨#[]⟩, .int .i64 0, .int .i64 0, .int .i64 0, .string ⟨#[]⟩, .slice none 0 0]) := by rw [hwb]; exact Blk.new _ _ _
  have hg1 : w.heap.size ≤ w.heap.size := Nat.le_refl _
  have HWB := Lib.hid hwb
  unfold MvR
  clear her hne h hwb hid
  go_enter Tryz.func38, Tryz.ntmps38
  go_upto_region 1 with fail
  rw [← HWB.out]
  go_wp2_with fail
  refine (HC.out wb HB0.out).mono ?_
  rintro e w1 ⟨rfl, hb1⟩
  have HB1 : Hid (Below w.heap.size w w1) := HB0.out.trans (hb1.mono HB0.out.size)
  have R1 := Lib.hid (R0.out.below hb1 R0.out.lt)
  clear hb1
  have rd := fun i => R1.out.cell i
  have fd := fun i => R1.out.frozen i
  go_wp2_with fail
  have PF := putO_blk (.int .i64 0) (.int .i64 0) (.int .i64 0) (.int .i64 0) (.int .i64 0) (.int .i64 0) (.string ⟨#[]⟩) (.string ⟨#[]⟩) (.int .i64 0) (.int .i64 0) (.int .i64 0) (.string ⟨#[]⟩) (.slice none 0 0) R1.out rfl
  have HBF := putO_below (.int .i64 0) (.int .i64 0) (.int .i64 0) (.int .i64 0) (.int .i64 0) (.int .i64 0) (.string ⟨#[]⟩) (.string ⟨#[]⟩) (.int .i64 0) (.int .i64 0) (.int .i64 0) (.string ⟨#[]⟩) (.slice none 0 0) HB1.out hg1
  obtain ⟨wf, hF⟩ : ∃ wf, wf = putO w1 w.heap.size (.int .i64 0) (.int .i64 0) (.int .i64 0) (.int .i64 0) (.int .i64 0) (.int .i64 0) (.string ⟨#[]⟩) (.string ⟨#[]⟩) (.int .i64 0) (.int .i64 0) (.int .i64 0) (.string ⟨#[]⟩) (.slice none 0 0) := ⟨_, rfl⟩
  rw [← hF] at PF HBF
  unfold putO at hF
  rw [← hF]
  obtain ⟨r0, r1, r2, r3, r4, r5, r6, r7, r8, r9, r10, r11, r12⟩ := op_cells PF
  exact bodyPost_ret (v := .tuple #[AO (zO, .slice none 0 0), .int .i64 er]) (by simp [results, Tryz.results38, go_sem, r0, r1, r2, r3, r4, r5, r6, r7, r8, r9, r10, r11, r12, AO, zO, zV, Vl.kind, Vl.int_, Vl.to_, Vl.text]) rfl ⟨rfl, HBF⟩
set_option maxRecDepth 100000 in
set_option maxHeartbeats 8000000 in
theorem indent_none (l : List Bl) (f : Int → Option Int) (G : Good l f) (A : Option Addr) (n c : Nat) (id : Int) (p q i : Nat) (x y : Bl) (hat : At l id p q i x y) (h0 : i = 0) (w : World) (h : RB w w.heap.size (.slice A n c) l) :
    Calls Tryz.prog 37 #[.slice A n c, .int .i64 id] w (MvR (zO, 11) w) := by
  have HC := Lib.hid fun W (hW : Below w.heap.size w W) => checkInner_any l f A n c id (hat.idI G) W w.heap.size hW.size (h.below hW) fun _ => G.dep
  rw [cin_good G, if_neg (by rw [hat.pp G]; have := hat.p0; omega)] at HC
  have HAM := Lib.hid fun W (hW : Below w.heap.size w W) => among_any l f G A n c id p q i x y hat W ((h.below hW).more hW.size)
  unfold AmongR at HAM
  rw [hat.ix] at HAM
  subst h0
  obtain ⟨wb, hwb⟩ : ∃ wb, wb = w.alloc (.cells #[.int .i64 0, .int .i64 0, .int .i64 0, .int .i64 0, .int .i64 0, .int .i64 0, .string ⟨#[]⟩, .string ⟨#[]⟩, .int .i64 0, .int .i64 0, .int .i64 0, .string ⟨#[]⟩, .slice none 0 0] 31) := ⟨_, rfl⟩
  have HB0 : Hid (Below w.heap.size w wb) := by rw [hwb]; exact (Below.refl _ _).alloc (Nat.le_refl _) _
  have R0 : Hid (Blk wb w.heap.size 31 #[.int .i64 0, .int .i64 0, .int .i64 0, .int .i64 0, .int .i64 0, .int .i64 0, .string ⟨#[]⟩, .string ⟨#[]⟩, .int .i64 0, .int .i64 0, .int .i64 0, .string ⟨#[]⟩, .slice none 0 0]) := by rw [hwb]; exact Blk.new _ _ _
  have hg1 : w.heap.size ≤ w.heap.size := Nat.le_refl _
  have HWB := Lib.hid hwb
  unfold MvR
  clear h hwb hat G
  go_enter Tryz.func37, Tryz.ntmps37
  go_upto_region 1 with fail
  rw [← HWB.out]
  go_wp2_with fail
  refine (HC.out wb HB0.out).mono ?_
  rintro e w1 ⟨rfl, hb1⟩
  have HB1 : Hid (Below w.heap.size w w1) := HB0.out.trans (hb1.mono HB0.out.size)
  have R1 := Lib.hid (R0.out.below hb1 R0.out.lt)
  clear hb1
  go_wp2_with fail
  refine (HAM.out w1 HB1.out).mono ?_
  rintro e w2 ⟨⟨Ak, nk, ck, rfl, hK⟩, hb2⟩
  have HB2 : Hid (Below w.heap.size w w2) := HB1.out.trans (hb2.mono HB1.out.size)
  have R2 := Lib.hid (R1.out.below hb2 R1.out.lt)
  have HK := Lib.hid hK
  clear hb2 hK
  have rd := fun i => R2.out.cell i
  have fd := fun i => R2.out.frozen i
  go_wp2_with fail
  have PF := putO_blk (.int .i64 0) (.int .i64 0) (.int .i64 0) (.int .i64 0) (.int .i64 0) (.int .i64 0) (.string ⟨#[]⟩) (.string ⟨#[]⟩) (.int .i64 0) (.int .i64 0) (.int .i64 0) (.string ⟨#[]⟩) (.slice none 0 0) R2.out rfl
  have HBF := putO_below (.int .i64 0) (.int .i64 0) (.int .i64 0) (.int .i64 0) (.int .i64 0) (.int .i64 0) (.string ⟨#[]⟩) (.string ⟨#[]⟩) (.int .i64 0) (.int .i64 0) (.int .i64 0) (.string ⟨#[]⟩) (.slice none 0 0) HB2.out hg1
  obtain ⟨wf, hF⟩ : ∃ wf, wf = putO w2 w.heap.size (.int .i64 0) (.int .i64 0) (.int .i64 0) (.int .i64 0) (.int .i64 0) (.int .i64 0) (.string ⟨#[]⟩) (.string ⟨#[]⟩) (.int .i64 0) (.int .i64 0) (.int .i64 0) (.string ⟨#[]⟩) (.slice none 0 0) := ⟨_, rfl⟩
  rw [← hF] at PF HBF
  unfold putO at hF
  rw [← hF]
  obtain ⟨r0, r1, r2, r3, r4, r5, r6, r7, r8, r9, r10, r11, r12⟩ := op_cells PF
  exact bodyPost_ret (v := .tuple #[AO (zO, .slice none 0 0), .int .i64 11]) (by simp [results, Tryz.results37, go_sem, r0, r1, r2, r3, r4, r5, r6, r7, r8, r9, r10, r11, r12, AO, zO, zV, Vl.kind, Vl.int_, Vl.to_, Vl.text]) rfl ⟨rfl, HBF⟩
set_option maxRecDepth 100000 in
set_option maxHeartbeats 8000000 in
theorem indent_yes (l : List Bl) (f : Int → Option Int) (G : Good l f) (A : Option Addr) (n c : Nat) (id : Int) (p q i : Nat) (x y : Bl) (hat : At l id p q i x y) (j r : Nat) (hij : i = j + 1) (z : Bl) (hj : y.kids[j]? = some z.id) (hz : l[r]? = some z) (w : World) (h : RB w w.heap.size (.slice A n c) l) :
    Calls Tryz.prog 37 #[.slice A n c, .int .i64 id] w (MvR (chk l f (mvO id z.id z.kids.length)) w) := by
  have HC := Lib.hid fun W (hW : Below w.heap.size w W) => checkInner_any l f A n c id (hat.idI G) W w.heap.size hW.size (h.below hW) fun _ => G.dep
  rw [cin_good G, if_neg (by rw [hat.pp G]; have := hat.p0; omega)] at HC
  have HAM := Lib.hid fun W (hW : Below w.heap.size w W) => among_any l f G A n c id p q i x y hat W ((h.below hW).more hW.size)
  unfold AmongR at HAM
  rw [hat.ix] at HAM
  have HIX := Lib.hid fun W (hW : Below w.heap.size w W) => index_any l A n c z.id W w.heap.size hW.size (h.below hW) G.kids.rise G.kids.ids (G.i64 hz)
  rw [posOf_of G.kids.rise hz] at HIX
  have hfew := G.kids.few z (List.mem_of_getElem? hz)
  have hi1 : i < y.kids.length := (List.getElem?_eq_some_iff.1 hat.hk).1
  have hfew2 := G.kids.few y (List.mem_of_getElem? hat.hy)
  have hoi : OI (mvO id z.id z.kids.length) := by
    have h1 := hat.idI G
    have h2 := G.i64 hz
    refine ⟨h1, h2, ?_, ?_, ?_, Nat.zero_le _⟩ <;> (unfold I64 mvO; dsimp only; omega)
  have HCK := Lib.hid fun W (hW : Below w.heap.size w W) => checked_any l f G A n c id z.id z.kids.length hoi W ((h.below hW).more hW.size)
  obtain ⟨CK, hCK⟩ : ∃ CK, CK = chk l f (mvO id z.id z.kids.length) := ⟨_, rfl⟩
  rw [← hCK] at HCK ⊢
  have hrn : r < n := by have := (List.getElem?_eq_some_iff.1 hz).1; have := h.len.1; omega
  have hn8 : n ≤ 2000 := by have := G.kids.short; have := h.len.1; omega
  obtain ⟨b, off, Az, nz, cz, _, _, _, rfl, hbb, _, _, g2, _, _, hKz, _⟩ := h.at_ hz
  have G2 := Lib.hid g2
  have hnz := hKz.len.1
  have HJ := Lib.hid hj
  subst hij
  rw [show ((j + 1 : Nat) : Int) = (j : Int) + 1 from by omega] at HAM
  have hn0 : ¬ ((j : Int) + 1 = 0) := by omega
  have hn1 : (((j : Int) + 1) == 0) = false := by simpa using hn0
  have ww1 : IntKind.i64.wrap (j : Int) = (j : Int) := IntWalk.i64_in _ (by omega)
  have ww2 : IntKind.i64.wrap ((j : Int) + 1 - 1) = (j : Int) := by rw [IntWalk.i64_in _ (by omega)]; omega
  obtain ⟨wb, hwb⟩ : ∃ wb, wb = w.alloc (.cells #[.int .i64 0, .int .i64 0, .int .i64 0, .int .i64 0, .int .i64 0, .int .i64 0, .string ⟨#[]⟩, .string ⟨#[]⟩, .int .i64 0, .int .i64 0, .int .i64 0, .string ⟨#[]⟩, .slice none 0 0] 31) := ⟨_, rfl⟩
  have HB0 : Hid (Below w.heap.size w wb) := by rw [hwb]; exact (Below.refl _ _).alloc (Nat.le_refl _) _
  have R0 : Hid (Blk wb w.heap.size 31 #[.int .i64 0, .int .i64 0, .int .i64 0, .int .i64 0, .int .i64 0, .int .i64 0, .string ⟨#[]⟩, .string ⟨#[]⟩, .int .i64 0, .int .i64 0, .int .i64 0, .string ⟨#[]⟩, .slice none 0 0]) := by rw [hwb]; exact Blk.new _ _ _
  have hg1 : w.heap.size ≤ w.heap.size := Nat.le_refl _
  have HWB := Lib.hid hwb
  unfold MvR at HCK ⊢
  clear hCK
  obtain ⟨⟨uk, ui, up, ua, uf, ut, ux, un, ⟨vk, vi, vt, vs, vl⟩⟩, ue⟩ := CK
  rw [show AO (mvO id z.id z.kids.length, .slice none 0 0) = .agg #[.int .i64 3, .int .i64 id, .int .i64 z.id, .int .i64 (z.kids.length : Int), .int .i64 0, .int .i64 0, .string ⟨#[]⟩, .string ⟨#[]⟩, .int .i64 0, .int .i64 0, .int .i64 0, .string ⟨#[]⟩, .slice none 0 0] from rfl] at HCK
  dsimp only [AO, Vl.kind, Vl.int_, Vl.to_, Vl.text] at HCK
  have z0 : (0 : Int) ≤ (j : Int) := by omega
  have i0 : (0 : Int) ≤ (r : Int) := by omega
  have i1 : (r : Int) < (n : Int) := by omega
  rw [← hnz] at HCK hfew
  clear h hwb hat G hj hz g2 hKz hoi hnz
  go_enter Tryz.func37, Tryz.ntmps37
  go_upto_region 1 with fail
  rw [← HWB.out]
  go_wp2_with fail
  refine (HC.out wb HB0.out).mono ?_
  rintro e w1 ⟨rfl, hb1⟩
  have HB1 : Hid (Below w.heap.size w w1) := HB0.out.trans (hb1.mono HB0.out.size)
  have R1 := Lib.hid (R0.out.below hb1 R0.out.lt)
  clear hb1
  go_wp2_with fail
  refine (HAM.out w1 HB1.out).mono ?_
  rintro e w2 ⟨⟨Ak, nk, ck, rfl, hK⟩, hb2⟩
  have HB2 : Hid (Below w.heap.size w w2) := HB1.out.trans (hb2.mono HB1.out.size)
  have R2 := Lib.hid (R1.out.below hb2 R1.out.lt)
  have HK := Lib.hid hK
  clear hb2 hK
  obtain ⟨kb, ko, rfl, hkb, hkc⟩ := HK.out.at_ HJ.out
  have hnk := HK.out.len
  have HKC : Hid (∀ W, Below w2.heap.size w2 W → W.cell? ⟨kb, ko + j, none⟩ = some (.int .i64 z.id)) := fun W hW => (hW.cell (p := ⟨kb, ko + j, none⟩) hkb).trans hkc
  have z1 : (j : Int) < (nk : Int) := by omega
  have HW2 : Hid (w.heap.size ≤ w2.heap.size) := HB2.out.size
  clear hkc hnk
  have c0 := HKC.out w2 (Below.refl _ _)
  have QC : Hid (Below w.heap.size w w2.drew) := HB2.out.drew
  have HDD : Hid (Below w2.heap.size w2 w2.drew) := (Below.refl _ _).drew
  have HCZ : Hid (∀ W, Below w.heap.size w W → W.cell? ⟨b, off + r * 5 + 2, none⟩ = some (.slice Az nz cz)) := fun W hW => (hW.cell (p := ⟨b, off + r * 5 + 2, none⟩) (by show b < _; omega)).trans G2.out
  go_wp2_with fail
  go_region_with (first
    | (go_at_call 105; refine (HIX.out _ QC.out).mono ?_; rintro e w3 ⟨rfl, hb3⟩; have HB3 : Hid (Below w.heap.size w w3) := QC.out.trans (hb3.mono QC.out.size); have HB23 : Hid (Below w2.heap.size w2 w3) := HDD.out.trans hb3; have c1 := HKC.out w3 HB23.out; have c2 := HCZ.out w3 HB3.out; clear hb3)
    | (go_at_call 104; refine (HCK.out _ HB3.out).mono ?_; rintro e w4 ⟨rfl, hb4⟩; have HB4 : Hid (Below w.heap.size w w4) := HB3.out.trans (hb4.mono HB3.out.size); have R4 := Lib.hid (R2.out.below (HB23.out.trans (hb4.mono HB23.out.size)) R2.out.lt); have rd := fun i => R4.out.cell i; have fd := fun i => R4.out.frozen i; clear hb4))
  all_goals
    go_wp2_with fail
    have PF := putO_blk (.int .i64 uk) (.int .i64 ui) (.int .i64 up) (.int .i64 ua) (.int .i64 uf) (.int .i64 ut) (.string ux) (.string un) (.int .i64 vk) (.int .i64 vi) (.int .i64 vt) (.string vs) (.slice none 0 0) R4.out rfl
    have HBF := putO_below (.int .i64 uk) (.int .i64 ui) (.int .i64 up) (.int .i64 ua) (.int .i64 uf) (.int .i64 ut) (.string ux) (.string un) (.int .i64 vk) (.int .i64 vi) (.int .i64 vt) (.string vs) (.slice none 0 0) HB4.out hg1
    obtain ⟨wf, hF⟩ : ∃ wf, wf = putO w4 w.heap.size (.int .i64 uk) (.int .i64 ui) (.int .i64 up) (.int .i64 ua) (.int .i64 uf) (.int .i64 ut) (.string ux) (.string un) (.int .i64 vk) (.int .i64 vi) (.int .i64 vt) (.string vs) (.slice none 0 0) := ⟨_, rfl⟩
    rw [← hF] at PF HBF
    unfold putO at hF
    rw [← hF]
    obtain ⟨r0, r1, r2, r3, r4, r5, r6, r7, r8, r9, r10, r11, r12⟩ := op_cells PF
    exact bodyPost_ret (v := .tuple #[AO (⟨uk, ui, up, ua, uf, ut, ux, un, ⟨vk, vi, vt, vs, vl⟩⟩, .slice none 0 0), .int .i64 ue]) (by simp [results, Tryz.results37, go_sem, r0, r1, r2, r3, r4, r5, r6, r7, r8, r9, r10, r11, r12, AO, Vl.kind, Vl.int_, Vl.to_, Vl.text]) rfl ⟨rfl, HBF⟩
end Go.Proofs.YtmkicfjcgbfaaaaGreat
