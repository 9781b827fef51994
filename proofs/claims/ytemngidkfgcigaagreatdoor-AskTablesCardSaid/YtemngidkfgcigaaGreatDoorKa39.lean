/-
  DERIVED. A cell of a table in memory; the texts of a base without error are short; the table's walk as one. Conditions: none.
  The walk of florref1.PlainText. Conditions: the text's size.
  What a column has of a block: the walk of the reference's CellOf. Conditions: sizes.
  By an AI agent.
-/
import Derived.Test.YtemngidkfgcigaaGreatDoorKa37
import Derived.Test.YtemngidkfgcigaaGreatDoorKa38
import Derived.Test.YtemngidkfgcigaaGreatDoorKa31
import Derived.Test.YtemngidkfgcigaaGreatDoorKa30
import Derived.Test.YtemngidkfgcigaaGreatDoorKa28
namespace Go.Proofs.YtemngidkfgcigaaGreatDoor
open Go.RowKit

theorem good_text {l : List Bl} {f : Int → Option Int} (G : Good l f) : ∀ b ∈ l, b.text.size ≤ 1048576 := by
  intro b hb
  obtain ⟨k, hk, e⟩ := List.mem_iff_getElem.1 hb
  have h := G.blk k b (by rw [List.getElem?_eq_getElem hk, e])
  unfold blkErr at h
  split at h
  · omega
  · split at h
    · omega
    · split at h
      · omega
      · split at h
        · rename_i h1
          exact absurd h h1
        · rename_i h1
          unfold txErr at h1
          by_cases h2 : 2000 < b.text.size
          · rw [if_pos h2] at h1
            exact absurd (by decide) h1
          · omega
section
variable {w w' : World} {S : Nat → Prop} {A : Option Addr} {n c B : Nat}
theorem tbV_len (x : List Vl × Value) : (tbV x).length = 1 := rfl
theorem RTab.keep {tt : List (List Vl)} {v : Value} (h : RTab w S v tt) (hk : ∀ p : Addr, S p.block → w'.cell? p = w.cell? p) : RTab w' S v tt := by
  obtain ⟨A, n, c, M, h1, h2, h3, h4, h5, h6⟩ := h
  exact ⟨A, n, c, M, h1, h2, h3, h4, h5.keep hk, fun x hx => (h6 x hx).keep hk⟩
theorem RTab.len {tt : List (List Vl)} (h : RTab w S (.slice A n c) tt) : n = tt.length := by
  obtain ⟨A', n', c', M, h1, e, h3, _⟩ := h
  injection e with e1 e2 e3
  rw [e2, h3, ← h1, List.length_map]
theorem RTab.at_ {tt : List (List Vl)} (h : RTab w S (.slice A n c) tt) (hS : ∀ b, S b → b < B) {k : Nat} {row : List Vl} (hk : tt[k]? = some row) : ∃ b off Ar nr cr, A = some ⟨b, off, none⟩ ∧ b < B ∧ w.cell? ⟨b, off + k, none⟩ = some (.slice Ar nr cr) ∧ RV w B (.slice Ar nr cr) row := by
  obtain ⟨A', n', c', M, h1, e, h3, h4, h5, h6⟩ := h
  injection e with e1 e2 e3
  subst e1 e2 e3
  obtain ⟨y, hy, rfl⟩ : ∃ y, M[k]? = some y ∧ y.1 = row := by
    rw [← h1, List.getElem?_map, Option.map_eq_some_iff] at hk
    exact hk
  obtain ⟨b, off, e, hb, hc⟩ := (h5.reads hS).plain_at (by omega) tbV_len h3 hy
  have h7 := (h6 y (List.mem_of_getElem? hy)).reads hS
  obtain ⟨y1, v⟩ := y
  obtain ⟨Ar, nr, cr, rfl⟩ := h7.slice
  exact ⟨b, off, Ar, nr, cr, e, hb, by simpa using hc 0 _ rfl, h7⟩
theorem RV.len_ {l : List Vl} (h : RV w B (.slice A n c) l) : n = l.length ∧ n ≤ c ∧ n * 64 ≤ 140737488351232 := by
  obtain ⟨A', n', c', M, h1, e, h3, h4, _⟩ := h.open_
  injection e with e1 e2 e3
  subst e2 e3
  exact ⟨by rw [h3, ← h1, List.length_map], h4⟩
theorem RV.at_ {l : List Vl} (h : RV w B (.slice A n c) l) {k : Nat} {x : Vl} (hk : l[k]? = some x) : ∃ b off Av nv cv, A = some ⟨b, off, none⟩ ∧ b < B ∧ w.cell? ⟨b, off + k * 5, none⟩ = some (.int .i64 x.kind) ∧ w.cell? ⟨b, off + k * 5 + 1, none⟩ = some (.int .i64 x.int_) ∧ w.cell? ⟨b, off + k * 5 + 2, none⟩ = some (.int .i64 x.to_) ∧ w.cell? ⟨b, off + k * 5 + 3, none⟩ = some (.string x.text) ∧ w.cell? ⟨b, off + k * 5 + 4, none⟩ = some (.slice Av nv cv) ∧ RV w B (.slice Av nv cv) x.items := by
  obtain ⟨A', n', c', M, h1, e, h3, h4, h5, h6⟩ := h.open_
  injection e with e1 e2 e3
  subst e1 e2 e3
  obtain ⟨y, hy, rfl⟩ : ∃ y, M[k]? = some y ∧ y.1 = x := by
    rw [← h1, List.getElem?_map, Option.map_eq_some_iff] at hk
    exact hk
  obtain ⟨b, off, e, hb, hc⟩ := h5.plain_at (by omega) vlV_len h3 hy
  have h7 := h6 y (List.mem_of_getElem? hy)
  obtain ⟨⟨kx, ix, tx, sx, lx⟩, v⟩ := y
  obtain ⟨Av, nv, cv, rfl⟩ := h7.slice
  exact ⟨b, off, Av, nv, cv, e, hb, hc 0 _ rfl, hc 1 _ rfl, hc 2 _ rfl, hc 3 _ rfl, hc 4 _ rfl, h7⟩
end
/-- ask.Table -/
theorem table_any (l : List Bl) (f : Int → Option Int) (hf : DepOk l f) (A : Option Addr) (n c : Nat) (ids : List Int) (Ai : Option Addr) (ni ci : Nat) (cols : List ByteArray) (Ac : Option Addr) (nc cc : Nat) (w : World) (hb : RB w w.heap.size (.slice A n c) l)
    (hi : RIn w w.heap.size (.slice Ai ni ci) ids) (hc : RSs w w.heap.size (.slice Ac nc cc) cols) :
    Calls Tryz.prog 6 #[.slice A n c, .slice Ai ni ci, .slice Ac nc cc] w (TabP (tabE l f ids cols) (ids.map (rowL l f cols)) w) := by
  by_cases hbad : baseE l f ≠ 0 ∨ 2000 < ids.length ∨ 10 < cols.length
  · refine (table_bad l f hf A n c ids Ai ni ci cols Ac nc cc w hb hi.len.1 hc.len.1 hbad).mono ?_
    rintro e w' ⟨rfl, h⟩
    refine ⟨.inl ⟨?_, rfl⟩, h⟩
    unfold tabE
    by_cases hE : baseE l f = 0
    · rw [if_neg (fun h => h hE), if_pos (hbad.resolve_left fun h => h hE)]
      decide
    · rw [if_pos hE]; exact hE
  · have hE : baseE l f = 0 := Classical.byContradiction fun h => hbad (.inl h)
    have G := good_of hE hf
    exact table_good l f G hE A n c ids Ai ni ci cols Ac nc cc w hb hi hc (by omega) (by omega) (good_text G)
end Go.Proofs.YtemngidkfgcigaaGreatDoor
namespace Go.Proofs.YtemngidkfgcigaaGreatDoor
open Go.RowKit

theorem spans_plain1 (s : ByteArray) : ∀ x ∈ spans s, x.kind = 1 → x.text = s.extract x.frm x.to_ := by
  intro x hx hk
  obtain ⟨y, _, rfl⟩ := List.mem_map.1 hx
  obtain ⟨u1, u2, u3, _⟩ := fillT_kind' s y
  rw [u2, u3]
  rw [u1] at hk
  unfold fillT
  rw [if_pos hk]
def plainB (s : ByteArray) (l : List Sp) : ByteArray := ⟨(plainL s l).toArray⟩
theorem cat_ba (a : List UInt8) (b : ByteArray) : (⟨a.toArray⟩ : ByteArray) ++ b = ⟨(a ++ b.data.toList).toArray⟩ := by
  apply ba_ext
  simp
theorem plainB_snoc (s : ByteArray) (l : List Sp) (x : Sp) : plainB s (l ++ [x]) = plainB s l ++ shown s x := by
  unfold plainB
  rw [cat_ba, plainL_snoc]
theorem plainB_size {s : ByteArray} {l q : List Sp} (h : spans s = l ++ q) (hs : s.size ≤ 1048576) : (plainB s l).size ≤ 4398046511104 := by
  have h1 := plainL_len (s := s) (l := l) (fun x hx => spans_ok s x (by rw [h]; exact List.mem_append_left _ hx))
  have hl : l.length ≤ s.size := by have := (cont_le (spans_cont s)).2; rw [h] at this; simp at this; omega
  have hm : l.length * (s.size + 2) ≤ 1048576 * 1048578 := Nat.mul_le_mul (by omega) (by omega)
  have : (plainB s l).size = (plainL s l).length := by unfold plainB; show (plainL s l).toArray.size = _; simp
  omega
set_option maxHeartbeats 4000000 in
set_option maxRecDepth 100000 in
theorem rplain_any (s : ByteArray) (w : World) (hs : s.size ≤ 1048576) :
    Calls Tryz.prog 31 #[.string s] w fun e w' => e = .returned (.string (plain s)) ∧ Below w.heap.size w w' := by
  obtain ⟨L, hL⟩ : ∃ L, L = spans s := ⟨_, rfl⟩
  have hll : L.length ≤ 1048576 := by rw [hL]; have := (cont_le (spans_cont s)).2; omega
  have HL := Lib.hid hL
  clear hL
  go_enter Tryz.func31, Tryz.ntmps31
  go_wp2_with fail
  refine (rspans_any s _ hs).mono ?_
  rintro e w2 ⟨v, rfl, hown, hb⟩
  rw [← HL.out] at hown
  obtain ⟨A, c, rfl, hnc, hA⟩ := own_shape hown
  have hz2' := hb.size
  go_wp2_with fail
  go_loopg [3, 11] L.length (fun gg s3 s11 wr => ∃ k : Nat, k + gg = L.length ∧ s11 = .int .i64 k ∧ s3 = .string (plainB s (L.take k)) ∧ Below w2.heap.size w2 wr)
  case atStart => exact ⟨0, by omega, rfl, by rw [List.take_zero]; rfl, Below.refl _ _⟩
  case round =>
    obtain ⟨k, hkg, rfl, rfl, hbel⟩ := hrel
    by_cases hk : k < L.length
    · obtain ⟨g, rfl⟩ := hA (by omega)
      obtain ⟨x, hx⟩ : ∃ x, L[k]? = some x := ⟨_, List.getElem?_eq_getElem hk⟩
      obtain ⟨c0, c1, c2, c3, c4, c5, c6⟩ := sp_cells hown hbel hx
      have hxm : x ∈ spans s := by rw [← HL.out]; exact List.mem_of_getElem? hx
      obtain ⟨_, m1, m2⟩ := cont_mem (spans_cont s) x hxm
      have ok := spans_ok s x hxm
      have HSP := Lib.hid (And.intro (spans_is s x hxm) (spans_plain1 s x hxm))
      have htk : L.take (k + 1) = L.take k ++ [x] := by rw [List.take_add_one, hx]; rfl
      have r1 := plainB_size (s := s) (l := L.take (k + 1)) (q := L.drop (k + 1)) (by rw [← HL.out, List.take_append_drop]) hs
      have r0 := plainB_size (s := s) (l := L.take k) (q := L.drop k) (by rw [← HL.out, List.take_append_drop]) hs
      have hsn := plainB_snoc s (L.take k) x
      rw [← htk] at hsn
      have hshl := shown_le ok
      obtain ⟨T0, hT0⟩ : ∃ T0, T0 = plainB s (L.take k) := ⟨_, rfl⟩
      obtain ⟨T1, hT1⟩ : ∃ T1, T1 = plainB s (L.take (k + 1)) := ⟨_, rfl⟩
      rw [← hT0, ← hT1] at hsn
      rw [← hT0] at r0
      rw [← hT1] at r1
      rw [← hT0]
      have HSN := Lib.hid hsn
      have HT1 := Lib.hid hT1
      have ik : (k : Int) < (L.length : Int) := by omega
      have ik0 : (0 : Int) ≤ (k : Int) := by omega
      have hts := ok.1
      clear hx hxm htk ok hsn hT0 hT1
      go_wp2_with fail
      rw [show Value.agg #[Value.int .i64 x.kind, .int .i64 x.frm, .int .i64 x.to_, .string x.text, .string x.show_, .int .i64 x.id, .bool x.strong] = spV x from rfl]
      refine (rshown_any s x _ HSP.out.1 m1 m2 HSP.out.2 hs (by omega)).mono ?_
      rintro e w3 ⟨v3, rfl, hown4, hb3⟩
      have R : Hid (Below w2.heap.size w2 w3) := hbel.trans (((Below.refl _ _).alloc hbel.size _).trans (hb3.mono (by have := hbel.size; simp; omega)))
      clear hown4 hb3
      go_wp2_with fail
      go_roundg (L.length - (k + 1))
      case measure => omega
      case rel => exact ⟨k + 1, by omega, by go_num, by rw [← HT1.out, HSN.out], R.out⟩
    · obtain rfl : k = L.length := by omega
      have HF : Hid (plainB s (L.take L.length) = plain s) := by show _ = _; rw [List.take_length, HL.out]; rfl
      rw [HF.out]
      have R := Lib.hid (hb.trans (hbel.mono hz2'))
      clear hb hbel hown hnc hA
      go_wp2
      go_ret
      exact ⟨rfl, R.out⟩

end Go.Proofs.YtemngidkfgcigaaGreatDoor
namespace Go.Proofs.YtemngidkfgcigaaGreatDoor
open Go.RowKit

/-- a value that a call has made -/
def ValR1 (v : Vl) (w : World) (e : Ending) (w' : World) : Prop := (∃ A n c, e = .returned (AV (v, .slice A n c)) ∧ RVX w' (fun b => w.heap.size ≤ b ∧ b < w'.heap.size) (.slice A n c) v.items) ∧ Below w.heap.size w w'
set_option maxHeartbeats 4000000 in
set_option maxRecDepth 100000 in
/-- the reference's CellOf -/
theorem cellOf_any (l : List Bl) (K : Kids l) (A : Option Addr) (n c : Nat) (id : Int) (p : Nat) (b : Bl) (s : ByteArray) (d : Nat) (B : Nat) (w : World) (hB : B ≤ w.heap.size)
    (hb : RB w B (.slice A n c) l) (hd : Dp l id d) (hd40 : d ≤ 40) (hp : l[p]? = some b) (hbi : b.id = id) (hs : b.text.size ≤ 1048576) :
    Calls Tryz.prog 12 #[.slice A n c, .int .i64 id, .string s] w (ValR1 (cellV b (d : Int) s) w) := by
  obtain ⟨W1, hW1⟩ : ∃ W1, W1 = w.alloc (.cells #[.int .i64 0, .int .i64 0, .int .i64 0, .string ⟨#[]⟩, .slice none 0 0] 41) := ⟨_, rfl⟩
  have hb1 : Below w.heap.size w W1 := by rw [hW1]; exact (Below.refl _ _).alloc (Nat.le_refl _) _
  have hK1 : Blk W1 w.heap.size 41 #[.int .i64 0, .int .i64 0, .int .i64 0, .string ⟨#[]⟩, .slice none 0 0] := by rw [hW1]; exact Blk.new _ _ _
  have hpo : posOf l id = (p : Int) := by rw [← hbi]; exact posOf_of K.rise hp
  have hat0 := at_any l A n c id W1 B (Nat.le_trans hB hb1.size) (hb.below (hb1.mono hB))
  rw [hpo] at hat0
  have HAT := Lib.hid hat0
  have HPO := Lib.hid fun W (hW : Below w.heap.size w W) => pathOf_any l K A n c B d id W hd hd40 (Nat.le_trans hB hW.size) (hb.below (hW.mono hB))
  obtain ⟨hn, hnc, hn8⟩ := hb.len
  obtain ⟨bl, off, Ak, nk, ck, Ap, np, cp, rfl, hbb, e0, e1, e2, e3, e4, hk, hpr⟩ := hb.at_ hp
  have hpl := (List.getElem?_eq_some_iff.1 hp).1
  have j0 : (0 : Int) ≤ (p : Int) := by omega
  have j1 : (p : Int) < (n : Int) := by omega
  have HPR := Lib.hid hpr
  obtain ⟨q1, r1⟩ : ∃ q, (s.toList == [64, 105, 100]) = q := ⟨_, rfl⟩
  obtain ⟨q2, r2⟩ : ∃ q, (s.toList == [64, 116, 101, 120, 116]) = q := ⟨_, rfl⟩
  obtain ⟨q3, r3⟩ : ∃ q, (s.toList == [64, 100, 101, 112, 116, 104]) = q := ⟨_, rfl⟩
  have HQ1 : Hid (decide (s = idS) = q1) := (ba_lit idS_list).trans r1
  have HQ2 : Hid (decide (s = textS) = q2) := (ba_lit textS_list).trans r2
  have HQ3 : Hid (decide (s = depthS) = q3) := (ba_lit depthS_list).trans r3
  have HPL := Lib.hid fun W => rplain_any b.text W hs
  have HW1 := Lib.hid hW1
  have HB1 := Lib.hid hb1
  have HK1 := Lib.hid hK1
  have HBI := Lib.hid hbi
  have HBB := Lib.hid (show bl < w.heap.size by omega)
  have HPD := Lib.hid (pth_len (l := l) d id)
  clear hb hpo hd hp hs hW1 hb1 hK1 hbi hk hpr hat0 hn hpl
  go_enter Tryz.func12, Tryz.ntmps12
  go_upto_region 1 with fail
  rw [← HW1.out]
  go_wp2_with fail
  refine HAT.out.mono ?_
  rintro e w2 ⟨rfl, hb2⟩
  have HB2 : Hid (Below w.heap.size w w2) := HB1.out.trans (hb2.mono HB1.out.size)
  have hsz : w.heap.size + 1 ≤ w2.heap.size := by have := hb2.size; have := HK1.out.lt; omega
  have HK2 := Lib.hid (HK1.out.below hb2 HK1.out.lt)
  have e0 := (HB2.out.cell (p := ⟨bl, off + p * 5, none⟩) HBB.out).trans e0
  have e1 := (HB2.out.cell (p := ⟨bl, off + p * 5 + 1, none⟩) HBB.out).trans e1
  have e2 := (HB2.out.cell (p := ⟨bl, off + p * 5 + 2, none⟩) HBB.out).trans e2
  have e3 := (HB2.out.cell (p := ⟨bl, off + p * 5 + 3, none⟩) HBB.out).trans e3
  have e4 := (HB2.out.cell (p := ⟨bl, off + p * 5 + 4, none⟩) HBB.out).trans e4
  clear hb2
  obtain ⟨w3, hw3⟩ : ∃ w3, w3 = w2.alloc (.cells #[.int .i64 b.id, .int .i64 b.parent, .slice Ak nk ck, .string b.text, .slice Ap np cp] 35) := ⟨_, rfl⟩
  have hal : Below w2.heap.size w2 w3 := by rw [hw3]; exact (Below.refl _ _).alloc (Nat.le_refl _) _
  have kb : Blk w3 w2.heap.size 35 #[.int .i64 b.id, .int .i64 b.parent, .slice Ak nk ck, .string b.text, .slice Ap np cp] := by rw [hw3]; exact Blk.new _ _ _
  have HB3 : Hid (Below w.heap.size w w3) := HB2.out.trans (hal.mono (by omega))
  have HK3 := Lib.hid (HK2.out.below hal (by omega))
  have hsz3 : w.heap.size + 1 ≤ w3.heap.size := by have := hal.size; omega
  have k3 : w3.cell? ⟨w2.heap.size, 3, none⟩ = some (.string b.text) := kb.cell 3
  have k4 : w3.cell? ⟨w2.heap.size, 4, none⟩ = some (.slice Ap np cp) := kb.cell 4
  have HW3 := Lib.hid hw3
  clear hw3 hal kb
  go_upto_region 2 with fail
  rw [← HW3.out]
  clear e0 e1 e2 e3 e4
  cases q1
  · cases q2
    · cases q3
      · have HV2 : Hid (cellV b (d : Int) s = getP b.props s) := by
          have e1 := of_decide_eq_false HQ1.out
          have e2 := of_decide_eq_false HQ2.out
          have e3 := of_decide_eq_false HQ3.out
          show cellV b (d : Int) s = _
          rw [cellV, if_neg e1, if_neg e2, if_neg e3]
        obtain ⟨v0, r5⟩ : ∃ v, getP b.props s = v := ⟨_, rfl⟩
        have HR5 := Lib.hid r5
        rw [r5] at HV2
        have HGP : Hid (Calls Tryz.prog 33 #[.slice Ap np cp, .string s] w3 (GetPR b.props s w3)) := getP_any b.props Ap np cp s w3 B (Nat.le_trans hB HB3.out.size) (HPR.out.below (HB3.out.mono hB))
        clear r5
        go_wp2_with fail
        refine HGP.out.mono ?_
        rintro e w4 ⟨⟨A', n', c', rfl, hrv⟩, hb4⟩
        have HRV := Lib.hid hrv
        have HB4 : Hid (Below w.heap.size w w4) := HB3.out.trans (hb4.mono (by omega))
        have HK4 := Lib.hid (HK3.out.below hb4 (by omega))
        have hsz4 : w3.heap.size ≤ w4.heap.size := hb4.size
        rw [HR5.out]
        rw [HR5.out] at HRV
        clear hb4 hrv k3 k4
        obtain ⟨kx, ix, tx, sx, lx⟩ := v0
        dsimp only [AV, Vl.kind, Vl.int_, Vl.to_, Vl.text, Vl.items] at HRV ⊢
        obtain ⟨w5, hw5⟩ : ∃ w5, w5 = w4.alloc (.cells #[.int .i64 kx, .int .i64 ix, .int .i64 tx, .string sx, .slice A' n' c'] 41) := ⟨_, rfl⟩
        have hal5 : Below w4.heap.size w4 w5 := by rw [hw5]; exact (Below.refl _ _).alloc (Nat.le_refl _) _
        have kb5 : Blk w5 w4.heap.size 41 #[.int .i64 kx, .int .i64 ix, .int .i64 tx, .string sx, .slice A' n' c'] := by rw [hw5]; exact Blk.new _ _ _
        have HB5 : Hid (Below w.heap.size w w5) := HB4.out.trans (hal5.mono HB4.out.size)
        have HK5 := Lib.hid (HK4.out.below hal5 (by omega))
        have HRV5 : Hid (RVX w5 (fun b => w.heap.size + 1 ≤ b ∧ b < w5.heap.size) (.slice A' n' c') lx) := (RVX.keep HRV.out (fun p hp => hal5.cell hp.2)).weak fun b hb => ⟨by omega, Nat.lt_of_lt_of_le hb.2 hal5.size⟩
        have HW5 := Lib.hid hw5
        have m0 := kb5.cell 0
        have m1 := kb5.cell 1
        have m2 := kb5.cell 2
        have m3 := kb5.cell 3
        have m4 := kb5.cell 4
        clear hw5 hal5 kb5
        go_upto_region 10 with fail
        rw [← HW5.out]
        have f0 := fun i => HK5.out.frozen i
        have t0 := fun i => HK5.out.cell i
        go_wp2_with fail
        obtain ⟨WF, hWF⟩ : ∃ WF, WF = ((((w5.setCell ⟨w.heap.size, 0, none⟩ (.int .i64 kx)).setCell ⟨w.heap.size, 1, none⟩ (.int .i64 ix)).setCell ⟨w.heap.size, 2, none⟩ (.int .i64 tx)).setCell ⟨w.heap.size, 3, none⟩ (.string sx)).setCell ⟨w.heap.size, 4, none⟩ (.slice A' n' c') := ⟨_, rfl⟩
        rw [← hWF]
        obtain ⟨⟨⟨u0, u1, u2, u3, u4⟩, bF⟩, uk, us⟩ := valFin (w1 := w5) HB5.out HK5.out _ _ _ _ _ WF hWF
        refine bodyPost_ret (v := .agg #[.int .i64 kx, .int .i64 ix, .int .i64 tx, .string sx, .slice A' n' c']) (by simp [results, Tryz.results12, go_sem, u0, u1, u2, u3, u4]) rfl ?_
        rw [HV2.out]
        exact ⟨⟨A', n', c', rfl, (RVX.keep HRV5.out (fun p hp => uk p (by omega))).weak fun b hb => ⟨by omega, by rw [us]; exact hb.2⟩⟩, bF⟩
      · have HV2 : Hid (cellV b (d : Int) s = .mk 2 d 0 ⟨#[]⟩ []) := by
          have e1 := of_decide_eq_false HQ1.out
          have e2 := of_decide_eq_false HQ2.out
          have e3 := of_decide_eq_true HQ3.out
          show cellV b (d : Int) s = _
          rw [cellV, if_neg e1, if_neg e2, if_pos e3]
        go_wp2_with fail
        refine (HPO.out w3 HB3.out).mono ?_
        rintro e w4 ⟨⟨A', n', c', rfl, _, _, hr4, _⟩, hb4⟩
        have hn4 : n' = d := by
          obtain ⟨_, _, _, e', h5, _⟩ := hr4
          injection e' with _ e2 e3
          rw [e2, h5, HPD.out]
        have HB4 : Hid (Below w.heap.size w w4) := HB3.out.trans (hb4.mono (by omega))
        have HK4 := Lib.hid (HK3.out.below hb4 (by omega))
        subst hn4
        clear hb4 hr4 k3 k4
        have f0 := fun i => HK4.out.frozen i
        have t0 := fun i => HK4.out.cell i
        go_wp2_with fail
        obtain ⟨WF, hWF⟩ : ∃ WF, WF = ((((w4.setCell ⟨w.heap.size, 0, none⟩ (.int .i64 2)).setCell ⟨w.heap.size, 1, none⟩ (.int .i64 (n' : Int))).setCell ⟨w.heap.size, 2, none⟩ (.int .i64 0)).setCell ⟨w.heap.size, 3, none⟩ (.string ⟨#[]⟩)).setCell ⟨w.heap.size, 4, none⟩ (.slice none 0 0) := ⟨_, rfl⟩
        rw [← hWF]
        obtain ⟨⟨⟨u0, u1, u2, u3, u4⟩, bF⟩, _, _⟩ := valFin (w1 := w4) HB4.out HK4.out _ _ _ _ _ WF hWF
        refine bodyPost_ret (v := .agg #[.int .i64 2, .int .i64 (n' : Int), .int .i64 0, .string ⟨#[]⟩, .slice none 0 0]) (by simp [results, Tryz.results12, go_sem, u0, u1, u2, u3, u4]) rfl ?_
        rw [HV2.out]
        exact ⟨⟨none, 0, 0, rfl, RVX.nil _ _⟩, bF⟩
    · have HV2 : Hid (cellV b (d : Int) s = .mk 3 0 0 (plain b.text) []) := by
        have e1 := of_decide_eq_false HQ1.out
        have e2 := of_decide_eq_true HQ2.out
        show cellV b (d : Int) s = _
        rw [cellV, if_neg e1, if_pos e2]
      go_wp2_with fail
      refine (HPL.out w3).mono ?_
      rintro e w4 ⟨rfl, hb4⟩
      have HB4 : Hid (Below w.heap.size w w4) := HB3.out.trans (hb4.mono (by omega))
      have HK4 := Lib.hid (HK3.out.below hb4 (by omega))
      clear hb4 k3 k4
      have f0 := fun i => HK4.out.frozen i
      have t0 := fun i => HK4.out.cell i
      go_wp2_with fail
      obtain ⟨WF, hWF⟩ : ∃ WF, WF = ((((w4.setCell ⟨w.heap.size, 0, none⟩ (.int .i64 3)).setCell ⟨w.heap.size, 1, none⟩ (.int .i64 0)).setCell ⟨w.heap.size, 2, none⟩ (.int .i64 0)).setCell ⟨w.heap.size, 3, none⟩ (.string (plain b.text))).setCell ⟨w.heap.size, 4, none⟩ (.slice none 0 0) := ⟨_, rfl⟩
      rw [← hWF]
      obtain ⟨⟨⟨u0, u1, u2, u3, u4⟩, bF⟩, _, _⟩ := valFin (w1 := w4) HB4.out HK4.out _ _ _ _ _ WF hWF
      refine bodyPost_ret (v := .agg #[.int .i64 3, .int .i64 0, .int .i64 0, .string (plain b.text), .slice none 0 0]) (by simp [results, Tryz.results12, go_sem, u0, u1, u2, u3, u4]) rfl ?_
      rw [HV2.out]
      exact ⟨⟨none, 0, 0, rfl, RVX.nil _ _⟩, bF⟩
  · have HV2 : Hid (cellV b (d : Int) s = .mk 2 id 0 ⟨#[]⟩ []) := by
      have e := of_decide_eq_true HQ1.out
      show cellV b (d : Int) s = _
      rw [cellV, if_pos e, HBI.out]
    have f0 := fun i => HK3.out.frozen i
    have t0 := fun i => HK3.out.cell i
    go_wp2_with fail
    obtain ⟨WF, hWF⟩ : ∃ WF, WF = ((((w3.setCell ⟨w.heap.size, 0, none⟩ (.int .i64 2)).setCell ⟨w.heap.size, 1, none⟩ (.int .i64 id)).setCell ⟨w.heap.size, 2, none⟩ (.int .i64 0)).setCell ⟨w.heap.size, 3, none⟩ (.string ⟨#[]⟩)).setCell ⟨w.heap.size, 4, none⟩ (.slice none 0 0) := ⟨_, rfl⟩
    rw [← hWF]
    obtain ⟨⟨⟨u0, u1, u2, u3, u4⟩, bF⟩, _, _⟩ := valFin (w1 := w3) HB3.out HK3.out _ _ _ _ _ WF hWF
    refine bodyPost_ret (v := .agg #[.int .i64 2, .int .i64 id, .int .i64 0, .string ⟨#[]⟩, .slice none 0 0]) (by simp [results, Tryz.results12, go_sem, u0, u1, u2, u3, u4]) rfl ?_
    rw [HV2.out]
    exact ⟨⟨none, 0, 0, rfl, RVX.nil _ _⟩, bF⟩
end Go.Proofs.YtemngidkfgcigaaGreatDoor
