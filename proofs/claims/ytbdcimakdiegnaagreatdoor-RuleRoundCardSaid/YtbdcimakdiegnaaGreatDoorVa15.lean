/-
  DERIVED. The walks of prop.written at every value, prop.Text, to the byte. Conditions: the table of powers of ten is laid.
  Plain law: what is written of a value is read as it. Conditions: none.
  A reader of values in memory; what is left of its text; all blocks but one as they were. Conditions: none.
  By an AI agent.
-/
import Derived.Test.YtbdcimakdiegnaaGreatDoorVa14
import Derived.Test.YtbdcimakdiegnaaGreatDoorVa06
import Derived.Deep.LoopGhost
import Derived.Test.YtbdcimakdiegnaaGreatDoorVa01
namespace Go.Proofs.YtbdcimakdiegnaaGreatDoor
open Go.RowKit

set_option maxHeartbeats 4000000 in
set_option maxRecDepth 100000 in
theorem written_list (i t : Int) (s : ByteArray) (M : List (Vl × Value)) (A : Option Addr) (n c : Nat) (w : World) (B : Nat) (hB : B ≤ w.heap.size) (h1 : Reads w B 5 A n (M.flatMap vlV)) (hn : n = M.length) (hn20 : n ≤ 20)
    (hs1 : ∀ x ∈ M, ∃ A n c, x.2 = .slice A n c)
    (hcl : ∀ x ∈ M, ∀ W, Below w.heap.size w W → Calls Tryz.prog 17 #[AV x] W fun e w' => e = .returned (.string (wrV x.1)) ∧ (wrV x.1).size ≤ 4100 ∧ Below W.heap.size W w') :
    Calls Tryz.prog 17 #[.agg #[.int .i64 7, .int .i64 i, .int .i64 t, .string s, .slice A n c]] w fun e w' => e = .returned (.string (⟨#[91]⟩ ++ joinB ((M.map Prod.fst).map wrV) ⟨#[44, 32]⟩ ++ ⟨#[93]⟩)) ∧ (⟨#[91]⟩ ++ joinB ((M.map Prod.fst).map wrV) ⟨#[44, 32]⟩ ++ ⟨#[93]⟩ : ByteArray).size ≤ 100000 ∧ Below w.heap.size w w' := by
  obtain ⟨i0, hi, hi0, hi1, hi2⟩ := info_parts str_info
  have H1 := Lib.hid h1
  have HN := Lib.hid hn
  have HC := Lib.hid hcl
  have S1 := Lib.hid hs1
  obtain ⟨J, hJ⟩ : ∃ J, J = joinB ((M.map Prod.fst).map wrV) ⟨#[44, 32]⟩ := ⟨_, rfl⟩
  rw [← hJ]
  have HJE := Lib.hid hJ
  clear h1 hn hcl hs1 hJ
  go_enter Tryz.func17, Tryz.ntmps17
  go_wp2_with fail
  have hbX : Below w.heap.size w (w.alloc (.cells #[.int .i64 7, .int .i64 i, .int .i64 t, .string s, .slice A n c] 24)) := (Below.refl _ _).alloc (Nat.le_refl _) _
  generalize (w.alloc (.cells #[.int .i64 7, .int .i64 i, .int .i64 t, .string s, .slice A n c] 24)) = X at hbX ⊢
  have HBX := Lib.hid hbX
  clear hbX
  go_loopg [9, 73] n (fun gg s9 s73 wr => ∃ k : Nat, ∃ v : Value, ∃ L : List ByteArray, k + gg = n ∧ s73 = .int .i64 (k : Int) ∧ v = s9 ∧ Hid (L = ((M.take k).map Prod.fst).map wrV) ∧ Hid (wr.ownsRow X.heap.size 9 1 v k (L.map .string)) ∧ Hid (Below X.heap.size X wr) ∧ Hid (∀ y ∈ L, y.size ≤ 4100))
  case atStart => exact ⟨0, _, [], by omega, rfl, rfl, rfl, World.ownsRow_nil _ _ _ _, Below.refl _ _, fun y hy => by simp at hy⟩
  case round =>
    obtain ⟨k, v, L, hkg, rfl, rfl, hL, hown, hbel, hsz⟩ := hrel
    by_cases hk : k < n
    · obtain ⟨x, hx⟩ : ∃ x, M[k]? = some x := ⟨_, List.getElem?_eq_getElem (by have := HN.out; omega)⟩
      obtain ⟨b, off, rfl, hbb, hc⟩ := H1.out.plain_at (by omega) vlV_len HN.out hx
      have HBR : Hid (Below w.heap.size w wr) := HBX.out.trans (hbel.out.mono HBX.out.size)
      have HX : Hid (∀ W, Below wr.heap.size wr W → Calls _ _ #[AV x] W _) := fun W hW => HC.out x (List.mem_of_getElem? hx) W (HBR.out.trans (hW.mono HBR.out.size))
      have HT3 : Hid (L ++ [wrV x.1] = ((M.take (k + 1)).map Prod.fst).map wrV) := by
        show _ = _
        rw [List.take_add_one, hx, hL.out]
        simp
      obtain ⟨T, hT⟩ : ∃ T, T = wrV x.1 := ⟨_, rfl⟩
      rw [← hT] at HT3
      simp only [← hT] at HX
      clear hT
      obtain ⟨⟨kx, ix, tx, sx, lx⟩, vx⟩ := x
      obtain ⟨Ax, nx, cx, rfl⟩ := S1.out _ (List.mem_of_getElem? hx)
      have g0 := (HBR.out.cell (p := ⟨b, off + k * 5, none⟩) (by show b < _; omega)).trans (hc 0 _ rfl)
      have g1 := (HBR.out.cell (p := ⟨b, off + k * 5 + 1, none⟩) (by show b < _; omega)).trans (hc 1 _ rfl)
      have g2 := (HBR.out.cell (p := ⟨b, off + k * 5 + 2, none⟩) (by show b < _; omega)).trans (hc 2 _ rfl)
      have g3 := (HBR.out.cell (p := ⟨b, off + k * 5 + 3, none⟩) (by show b < _; omega)).trans (hc 3 _ rfl)
      have g4 := (HBR.out.cell (p := ⟨b, off + k * 5 + 4, none⟩) (by show b < _; omega)).trans (hc 4 _ rfl)
      have j0 : (0 : Int) ≤ (k : Int) := by omega
      have j1 : (k : Int) < (n : Int) := by omega
      clear hx hc
      dsimp only [AV, Vl.kind, Vl.int_, Vl.to_, Vl.text] at HX g0 g1 g2 g3
      have hal : Below wr.heap.size wr (wr.alloc (.cells #[.int .i64 kx, .int .i64 ix, .int .i64 tx, .string sx, .slice Ax nx cx] 24)) := (Below.refl _ _).alloc (Nat.le_refl _) _
      have HX' := Lib.hid (HX.out _ hal)
      have HAL := Lib.hid hal
      clear hal HX
      go_wp2_with fail
      refine HX'.out.mono ?_
      rintro e w5 ⟨rfl, hsT, hb⟩
      have HB5 : Hid (Below wr.heap.size wr w5) := HAL.out.trans (hb.mono HAL.out.size)
      have HO5 : Hid (w5.ownsRow X.heap.size 9 1 v k (L.map .string)) := own_below hown.out HB5.out
      have HBE5 : Hid (Below X.heap.size X w5) := hbel.out.trans (HB5.out.mono hbel.out.size)
      clear hb HX'
      have hz5 := HBE5.out.size
      have hcn : (w5.alloc (.cells #[.string T] 9)).cell? ⟨w5.heap.size, 0, none⟩ = some (.string T) := World.cell?_alloc_mark w5 #[.string T] 9 (0, 0) 0
      have hOA := Lib.hid (own_below HO5.out ((Below.refl _ _).alloc (Nat.le_refl _) (.cells #[.string T] 9)))
      have hRD : Hid (Reads (w5.alloc (.cells #[.string T] 9)) (w5.heap.size + 1) 1 (some ⟨w5.heap.size, 0, none⟩) 1 [.string T]) := ⟨rfl, fun _ => ⟨_, rfl, Nat.lt_succ_self _, fun j u hu => by
        obtain rfl : j = 0 := by
          rcases Nat.lt_or_ge j 1 with h | h
          · omega
          · rw [List.getElem?_eq_none (by simpa using h)] at hu; cases hu
        simp at hu
        subst hu
        rw [Addr.add_lit]
        exact hcn⟩⟩
      clear hcn
      have HZ5 := Lib.hid hz5
      clear hz5
      go_wp2_with (at_builtin; refine wpList_append_any _ rfl _ _ 73 rfl X.heap.size 9 i0 (.string .empty) 1 16 Tryz.underlying73 hi hi0 hi1 hi2 rfl (by decide) v k _ rfl hOA.out (w5.heap.size + 1) (some ⟨w5.heap.size, 0, none⟩) 1 1 [.string T] rfl hRD.out (str_one T) (by show k + 1 ≤ maxLen; unfold maxLen; omega) (by omega) (by have := HZ5.out; simp; omega) ?_)
      intro v2 w6 hown6 hg6 hbl6
      have HB6 : Hid (Below X.heap.size X w6) := by
        refine (HBE5.out.alloc HZ5.out _).grown hg6 (by have := HZ5.out; simp; omega) (fun g hg => ?_)
        exact (own_block_lt hOA.out g hg).1
      have HO6 := Lib.hid hown6
      have HS6 : Hid (∀ y ∈ L ++ [T], y.size ≤ 4100) := fun y hy => by
        rcases List.mem_append.1 hy with hy | hy
        · exact hsz.out y hy
        · rw [List.mem_singleton] at hy
          subst hy
          exact hsT
      clear hown6 hg6 hbl6
      go_wp2_with fail
      go_roundg (n - (k + 1))
      case measure => omega
      case rel => exact ⟨k + 1, v2, L ++ [T], by omega, by go_num, rfl, HT3, by rw [List.map_append]; exact HO6.out, HB6, HS6⟩
    · obtain rfl : k = n := by omega
      have ht : M.take k = M := List.take_of_length_le (by rw [← HN.out]; exact Nat.le_refl _)
      rw [ht] at hL
      have hlen : L.length = k := by rw [hL.out, List.length_map, List.length_map]; exact HN.out.symm
      have hle := joinB_le ⟨#[44, 32]⟩ 4100 L hsz.out
      rw [hlen] at hle
      have hle2 : (joinB L ⟨#[44, 32]⟩).size ≤ 90000 := Nat.le_trans hle (by show k * 4102 ≤ _; omega)
      have HJ := Lib.hid (join_own L ⟨#[44, 32]⟩ wr _ k v hown.out hlen.symm (by omega) (by omega))
      rw [hL.out, ← HJE.out] at HJ hle2
      clear hle hlen
      go_wp2_with fail
      refine HJ.out.mono ?_
      rintro e w7 ⟨rfl, hb7⟩
      have HB7 : Hid (Below X.heap.size X w7) := hbel.out.trans (hb7.mono hbel.out.size)
      clear hb7
      go_wp2_with fail
      go_ret
      refine ⟨rfl, ?_, HBX.out.trans (HB7.out.mono HBX.out.size)⟩
      simp only [ByteArray.size_append]
      show 1 + _ + 1 ≤ 100000
      omega

def wrB (k : Int) : Nat := if k = 7 then 100000 else 4100
def WrP (x : Vl) (w : World) (e : Ending) (w' : World) : Prop := e = .returned (.string (wrV x)) ∧ (wrV x).size ≤ wrB x.kind ∧ Below w.heap.size w w'
theorem nuErr_zero {k i t : Int} (h : nuErr k i t = 0) : (k = 1 → 0 ≤ i ∧ i ≤ 1) ∧ (k = 2 → i.natAbs ≤ 1000000000) ∧ (k = 4 → 0 ≤ i ∧ i ≤ 100000) ∧ (k = 5 → (0 ≤ i ∧ i ≤ 100000) ∧ (0 ≤ t ∧ t ≤ 100000)) := by
  unfold nuErr outI at h
  refine ⟨fun e => ?_, fun e => ?_, fun e => ?_, fun e => ?_⟩
  · subst e
    rw [if_pos (by decide)] at h
    split at h
    · cases h
    · rename_i h1
      simp at h1
      omega
  · subst e
    rw [if_neg (by decide), if_pos (by decide)] at h
    split at h
    · cases h
    · rename_i h1
      simp at h1
      omega
  · subst e
    rw [if_neg (by decide), if_neg (by decide), if_pos (by decide)] at h
    split at h
    · cases h
    · rename_i h1
      simp at h1
      omega
  · subst e
    rw [if_neg (by decide), if_neg (by decide), if_neg (by decide), if_pos (by decide)] at h
    split at h
    · cases h
    · rename_i h1
      simp at h1
      omega
theorem written_walk (x : Vl × Value) (M : List (Vl × Value)) (A : Option Addr) (n c : Nat) (w : World) (B : Nat) (hB : B ≤ w.heap.size) (hx : x.2 = .slice A n c) (hl : M.map Prod.fst = x.1.items) (h1 : Reads w B 5 A n (M.flatMap vlV)) (hn : n = M.length)
    (hs1 : ∀ x ∈ M, ∃ A n c, x.2 = .slice A n c) (hP : Pow w) (hv : vErr x.1 = 0)
    (hcl : ∀ x ∈ M, vErr x.1 = 0 → ∀ W, Below w.heap.size w W → Calls Tryz.prog 17 #[AV x] W (WrP x.1 W)) :
    Calls Tryz.prog 17 #[AV x] w (WrP x.1 w) := by
  obtain ⟨⟨hk0, hk7⟩, hnu, ht, hl20, hit⟩ := vErr_zero hv
  obtain ⟨n1, n2, n4, n5⟩ := nuErr_zero hnu
  obtain ⟨⟨k, i, t, s, l⟩, v⟩ := x
  obtain rfl : v = _ := hx
  obtain rfl : _ = l := hl
  unfold WrP
  rw [wrV_eq]
  dsimp only [AV, Vl.kind, Vl.int_, Vl.to_, Vl.text, Vl.items] at hk0 hk7 ht hl20 hit n1 n2 n4 n5 ⊢
  rcases (show k = 0 ∨ k = 1 ∨ k = 2 ∨ k = 3 ∨ k = 4 ∨ k = 5 ∨ k = 6 ∨ k = 7 by omega) with rfl | rfl | rfl | rfl | rfl | rfl | rfl | rfl
  · refine (written_none i t s A n c w).mono ?_
    rintro e w' ⟨rfl, hb⟩
    exact ⟨rfl, by show 1 ≤ 4100; omega, hb⟩
  · refine (written_flag i t s A n c w (n1 rfl).1 (n1 rfl).2).mono ?_
    rintro e w' ⟨rfl, hb⟩
    refine ⟨rfl, ?_, hb⟩
    show (if i = 0 then (⟨#[110, 111]⟩ : ByteArray) else ⟨#[121, 101, 115]⟩).size ≤ 4100
    split
    · show 2 ≤ 4100; omega
    · show 3 ≤ 4100; omega
  · refine (written_num i t s A n c w (n2 rfl) hP).mono ?_
    rintro e w' ⟨rfl, hb⟩
    have := wd_size21 (n2 rfl)
    exact ⟨rfl, by show (wd i).size ≤ 4100; omega, hb⟩
  · refine (written_str i t s A n c w ht).mono ?_
    rintro e w' ⟨rfl, hb⟩
    have := quoS_size s
    exact ⟨rfl, by show (quoS s).size ≤ 4100; omega, hb⟩
  · refine (written_date i t s A n c w (n4 rfl).1 (n4 rfl).2 hP).mono ?_
    rintro e w' ⟨rfl, hz, hb⟩
    exact ⟨rfl, by show (dtS i).size ≤ 4100; omega, hb⟩
  · refine (written_span i t s A n c w (n5 rfl).1.1 (n5 rfl).1.2 (n5 rfl).2.1 (n5 rfl).2.2 hP).mono ?_
    rintro e w' ⟨rfl, hz, hb⟩
    exact ⟨rfl, by show (dtS i ++ ⟨#[46, 46]⟩ ++ dtS t : ByteArray).size ≤ 4100; omega, hb⟩
  · refine (written_link i t s A n c w ht).mono ?_
    rintro e w' ⟨rfl, hb⟩
    refine ⟨rfl, ?_, hb⟩
    show (⟨#[91, 91]⟩ ++ s ++ ⟨#[93, 93]⟩ : ByteArray).size ≤ 4100
    simp only [ByteArray.size_append]
    show 2 + _ + 2 ≤ 4100
    omega
  · have hit' := itErr_mem hit
    refine (written_list i t s M A n c w B hB h1 hn (by rw [List.length_map] at hl20; omega) hs1 fun x hx W hW => ?_).mono ?_
    · obtain ⟨a1, a2, _⟩ := hit' x.1 (List.mem_map.2 ⟨x, hx, rfl⟩)
      refine (hcl x hx a1 W hW).mono ?_
      rintro e w' ⟨rfl, hz, hb⟩
      exact ⟨rfl, by unfold wrB at hz; rw [if_neg a2] at hz; exact hz, hb⟩
    · rintro e w' ⟨rfl, hz, hb⟩
      exact ⟨rfl, hz, hb⟩
/-- prop.written at a right value -/
theorem written_any : ∀ (d : Nat) (x : Vl × Value) (w : World) (B : Nat), B ≤ w.heap.size → RVd w B d x.2 x.1.items → Pow w → vErr x.1 = 0 →
    Calls Tryz.prog 17 #[AV x] w (WrP x.1 w)
  | 0, x, w, B, hB, hx, hP, hv => by
    obtain ⟨A, n, c, M, h1, h2, h3, h4, h5, h6⟩ := hx.deeper
    have e : M = [] := by rw [← List.map_eq_nil_iff, h1]; exact hx.1
    exact written_walk x M A n c w B hB h2 h1 h5 h3 (fun z hz => (RV.slice ⟨_, h6 z hz⟩)) hP hv (fun z hz => by rw [e] at hz; cases hz)
  | d + 1, x, w, B, hB, ⟨A, n, c, M, h1, h2, h3, h4, h5, h6⟩, hP, hv =>
    written_walk x M A n c w B hB h2 h1 h5 h3 (fun z hz => (RV.slice ⟨_, h6 z hz⟩)) hP hv (fun z hz hv W hW => written_any d z W B (Nat.le_trans hB hW.size) ((h6 z hz).below (hW.mono hB)) (hP.below hW) hv)

/-- what prop.Text returns -/
noncomputable def txS (x : Vl) : ByteArray := if vErr x = 0 then wrV x else ⟨#[]⟩
def TxP (x : Vl) (w : World) (e : Ending) (w' : World) : Prop := e = .returned (.tuple #[.string (txS x), .int .i64 (vErr x)]) ∧ (txS x).size ≤ 100000 ∧ Below w.heap.size w w'
set_option maxHeartbeats 4000000 in
set_option maxRecDepth 100000 in
theorem text_any (x : Vl) (A : Option Addr) (n c : Nat) (w : World) (B : Nat) (hB : B ≤ w.heap.size) (hx : RV w B (.slice A n c) x.items) (hP : Pow w) :
    Calls Tryz.prog 7 #[AV (x, .slice A n c)] w (TxP x w) := by
  obtain ⟨d, hd⟩ := hx
  have HV : Hid (∀ W, Below w.heap.size w W → Calls Tryz.prog 16 #[AV (x, .slice A n c)] W fun e w' => e = .returned (.int .i64 (vErr x)) ∧ Below W.heap.size W w') := fun W hW => checkValue_any d (x, .slice A n c) W B (Nat.le_trans hB hW.size) (hd.below (hW.mono hB))
  have HW : Hid (vErr x = 0 → ∀ W, Below w.heap.size w W → Calls Tryz.prog 17 #[AV (x, .slice A n c)] W fun e w' => e = .returned (.string (wrV x)) ∧ (wrV x).size ≤ wrB x.kind ∧ Below W.heap.size W w') := fun hv W hW => written_any d (x, .slice A n c) W B (Nat.le_trans hB hW.size) (hd.below (hW.mono hB)) (hP.below hW) hv
  unfold TxP
  have T0 : Hid (vErr x = 0 → txS x = wrV x) := fun h => if_pos h
  have T1 : Hid (vErr x ≠ 0 → txS x = ⟨#[]⟩) := fun h => if_neg h
  obtain ⟨E, hE⟩ : ∃ E, E = vErr x := ⟨_, rfl⟩
  obtain ⟨T, hT⟩ : ∃ T, T = txS x := ⟨_, rfl⟩
  rw [← hE, ← hT] at T0 T1
  rw [← hE, ← hT]
  rw [← hE] at HV HW
  clear hE hT hd hP
  have hz : Hid (wrB x.kind ≤ 100000) := by show wrB _ ≤ _; unfold wrB; split <;> omega
  obtain ⟨k, i, t, s, l⟩ := x
  dsimp only [AV, Vl.kind, Vl.int_, Vl.to_, Vl.text] at HV HW hz ⊢
  obtain ⟨R, hR⟩ : ∃ R, R = wrV (.mk k i t s l) := ⟨_, rfl⟩
  rw [← hR] at T0
  simp only [← hR] at HW
  clear hR
  have hal : Below w.heap.size w (w.alloc (.cells #[.int .i64 k, .int .i64 i, .int .i64 t, .string s, .slice A n c] 24)) := (Below.refl _ _).alloc (Nat.le_refl _) _
  have HAL := Lib.hid hal
  have KX := Blk.new w 24 #[.int .i64 k, .int .i64 i, .int .i64 t, .string s, .slice A n c]
  go_enter Tryz.func7, Tryz.ntmps7
  go_wp2_with fail
  refine (HV.out _ hal).mono ?_
  rintro e w1 ⟨rfl, hb1⟩
  have HB1 : Hid (Below w.heap.size w w1) := HAL.out.trans (hb1.mono HAL.out.size)
  have K1 := KX.below hb1 KX.lt
  have c0 : w1.cell? ⟨w.heap.size, 0, none⟩ = some (.int .i64 k) := K1.cell 0
  have c1 : w1.cell? ⟨w.heap.size, 1, none⟩ = some (.int .i64 i) := K1.cell 1
  have c2 : w1.cell? ⟨w.heap.size, 2, none⟩ = some (.int .i64 t) := K1.cell 2
  have c3 : w1.cell? ⟨w.heap.size, 3, none⟩ = some (.string s) := K1.cell 3
  have c4 : w1.cell? ⟨w.heap.size, 4, none⟩ = some (.slice A n c) := K1.cell 4
  clear hb1 KX K1 hal
  by_cases h0 : E = 0
  · have HT := Lib.hid (T0.out h0)
    have HWW := Lib.hid (HW.out h0 _ HB1.out)
    subst h0
    go_wp2_with fail
    refine HWW.out.mono ?_
    rintro e w2 ⟨rfl, hsz, hb2⟩
    have HB2 : Hid (Below w.heap.size w w2) := HB1.out.trans (hb2.mono HB1.out.size)
    clear hb2
    go_wp2_with fail
    go_ret2
    exact ⟨by rw [HT.out]; rfl, by rw [HT.out]; exact Nat.le_trans hsz hz.out, HB2.out⟩
  · have HT := Lib.hid (T1.out h0)
    have hne : (E != 0) = true := by simpa using h0
    clear h0
    go_wp2_with fail
    go_ret2
    exact ⟨by rw [HT.out]; rfl, by rw [HT.out]; exact Nat.zero_le _, HB1.out⟩
end Go.Proofs.YtbdcimakdiegnaaGreatDoor
namespace Go.Proofs.YtbdcimakdiegnaaGreatDoor
open cal

/-- what may stand behind a value -/
def StopR (r : List UInt8) : Prop := r = [] ∨ ∃ x, r = 44 :: x ∨ r = 93 :: x
theorem rdQuo_esc (r : List UInt8) : ∀ s : List UInt8, rdQuo (escL s ++ 34 :: r) = some (s, r)
  | [] => rdQuo_end r
  | c :: s => by
    have ih := rdQuo_esc r s
    rw [escL_cons]
    by_cases h : c = 34
    · subst h
      rw [escB_34]
      show rdQuo (92 :: 34 :: (escL s ++ 34 :: r)) = _
      rw [rdQuo_esc2 (.inl rfl), ih]
      rfl
    · by_cases h' : c = 92
      · subst h'
        rw [escB_92]
        show rdQuo (92 :: 92 :: (escL s ++ 34 :: r)) = _
        rw [rdQuo_esc2 (.inr rfl), ih]
        rfl
      · rw [escB_other h h']
        show rdQuo (c :: (escL s ++ 34 :: r)) = _
        rw [rdQuo_chr h h', ih]
        rfl
theorem stop_dg {r : List UInt8} (h : StopR r) : r.takeWhile isDg = [] := by
  rcases h with rfl | ⟨x, rfl | rfl⟩ <;> rfl
theorem tw_app {l r : List UInt8} (h : l.all isDg = true) (hr : StopR r) : (l ++ r).takeWhile isDg = l := by
  induction l with
  | nil => exact stop_dg hr
  | cons b l ih =>
    rw [List.all_cons, Bool.and_eq_true] at h
    rw [List.cons_append, List.takeWhile_cons, if_pos h.1, ih h.2]
theorem dd_dg (u : Nat) : (Lib.decDigits u).all isDg = true := by
  rw [List.all_eq_true]
  intro b hb
  exact (isDg_iff b).2 (dd_all u b hb)
theorem dg_ne {c : UInt8} (h : isDg c = true) (n : UInt8) (hn : n.toNat < 48 ∨ 57 < n.toNat) : (n == c) = false := by
  have := (isDg_iff c).1 h
  cases e : n == c
  · rfl
  · rw [beq_iff_eq] at e
    subst e
    omega
/-- a number's text: a minus and digits, or digits -/
theorem itoa_two (i : Int) : (i < 0 ∧ Lib.itoa i = 45 :: Lib.decDigits i.natAbs) ∨ (0 ≤ i ∧ Lib.itoa i = Lib.decDigits i.natAbs) := by
  unfold Lib.itoa
  by_cases h : i < 0
  · rw [if_pos h]
    exact .inl ⟨h, rfl⟩
  · rw [if_neg h, show i.toNat = i.natAbs by omega]
    exact .inr ⟨by omega, rfl⟩
theorem dd_cons (u : Nat) : ∃ c x, Lib.decDigits u = c :: x ∧ isDg c = true ∧ x.all isDg = true := by
  rcases hd : Lib.decDigits u with _ | ⟨c, x⟩
  · exact absurd hd (dd_ne u)
  · have := dd_dg u
    rw [hd, List.all_cons, Bool.and_eq_true] at this
    exact ⟨c, x, rfl, this⟩
theorem numL_itoa (i : Int) {r : List UInt8} (hr : StopR r) : numL (Lib.itoa i ++ r) = (Lib.itoa i).length := by
  unfold numL
  rcases itoa_two i with ⟨_, e⟩ | ⟨_, e⟩
  · rw [e, List.cons_append, pre_cons, pre_nil, if_pos (by simp)]
    rw [show (45 :: (Lib.decDigits i.natAbs ++ r)).drop 1 = Lib.decDigits i.natAbs ++ r from rfl, tw_app (dd_dg _) hr, List.length_cons]
    omega
  · obtain ⟨c, x, hc, h1, h2⟩ := dd_cons i.natAbs
    rw [e]
    rw [if_neg (by rw [hc, List.cons_append, pre_cons, dg_ne h1 45 (by decide)]; simp), tw_app (dd_dg _) hr]
theorem plN_itoa {i : Int} (h : i.natAbs ≤ 1000000000) : plN (Lib.itoa i) = some i := by
  unfold plN
  rw [itoa_digits, atoi_itoa]
  have h1 : (Lib.decDigits i.natAbs).isEmpty = false := by
    rw [List.isEmpty_eq_false_iff]; exact dd_ne _
  have h2 := dd_len 9 i.natAbs (by omega)
  rw [h1, dd_dg, if_neg (by simp; omega)]
  simp
theorem rdNum_itoa {i : Int} (h : i.natAbs ≤ 1000000000) {r : List UInt8} (hr : StopR r) : rdNum (Lib.itoa i ++ r) = some (vI 2 i 0, r, false) := by
  unfold rdNum
  rw [numL_itoa i hr, List.take_append_of_le_length (Nat.le_refl _), List.take_length, plN_itoa h, List.drop_append_of_le_length (Nat.le_refl _), List.drop_length]
  rfl

/-! ### dates -/
theorem year_ex {d : Int} (h : 0 ≤ d) : ∀ k : Nat, d < bef (2001 + k) → ∃ y, 2001 ≤ y ∧ bef y ≤ d ∧ d < bef (y + 1)
  | 0, hk => by
    have : bef (2001 + ((0 : Nat) : Int)) = 0 := by decide
    omega
  | k + 1, hk => by
    by_cases h1 : d < bef (2001 + k)
    · exact year_ex h k h1
    · exact ⟨2001 + k, by omega, by omega, by rw [show (2001 : Int) + k + 1 = 2001 + ((k + 1 : Nat) : Int) by omega]; exact hk⟩
theorem month_ex (y : Int) {q : Int} (h : 0 ≤ q) : ∀ n : Nat, (n : Int) ≤ 12 → q < cum y (n + 1) → ∃ m, 1 ≤ m ∧ m ≤ 12 ∧ cum y m ≤ q ∧ q < cum y (m + 1)
  | 0, _, hq => by
    have : cum y (((0 : Nat) : Int) + 1) = 0 := rfl
    omega
  | n + 1, hn, hq => by
    by_cases h1 : q < cum y (n + 1)
    · exact month_ex y h n (by omega) h1
    · exact ⟨n + 1, by omega, by omega, by omega, by rw [show ((n : Int) + 1 + 1) = ((n + 1 : Nat) : Int) + 1 by omega]; exact hq⟩
theorem date_ex {d : Int} (h : 0 ≤ d) (h' : d ≤ 100000) : ∃ y m k, IsDate d y m k := by
  obtain ⟨y, y0, b0, b1⟩ := year_ex h 600 (by have : bef (2001 + ((600 : Nat) : Int)) = 219145 := by decide
                                              omega)
  have e := bef_succ y
  obtain ⟨m, m0, m1, c0, c1⟩ := month_ex y (q := d - bef y) (by omega) 12 (by omega) (by show _ < cum y 13; rw [cum_13]; omega)
  have := cum_succ y m0 m1
  exact ⟨y, m, d - bef y - cum y m + 1, y0, b0, b1, m0, m1, by omega, by omega, by omega⟩
theorem dec_zeros : ∀ z : Nat, Lib.decFrom 0 (List.replicate z 48) = some 0
  | 0 => rfl
  | z + 1 => by
    rw [List.replicate_succ]
    simp only [Lib.decFrom]
    rw [show Lib.digitVal 48 = some 0 from rfl]
    exact dec_zeros z
theorem padL_at {n : Int} {g : Nat} (h0 : 0 ≤ n) (h1 : n.natAbs < 10 ^ g) (hg : 0 < g) : (padL n g).length = g ∧ (padL n g).all isDg = true ∧ dNum (padL n g) = n := by
  have e : Lib.itoa n = Lib.decDigits n.natAbs := by
    rcases itoa_two n with ⟨a, _⟩ | ⟨_, e⟩
    · omega
    · exact e
  obtain ⟨g, rfl⟩ : ∃ k, g = k + 1 := ⟨g - 1, by omega⟩
  have hl := dd_len g n.natAbs h1
  have hp : padL n ((g + 1 : Nat) : Int) = List.replicate (g + 1 - (Lib.decDigits n.natAbs).length) 48 ++ Lib.decDigits n.natAbs := by
    unfold padL
    rw [e, show ((((g + 1 : Nat) : Int)) - ((Lib.decDigits n.natAbs).length : Int)).toNat = g + 1 - (Lib.decDigits n.natAbs).length by omega]
  rw [hp]
  refine ⟨by rw [List.length_append, List.length_replicate]; omega, ?_, ?_⟩
  · rw [List.all_append, dd_dg, Bool.and_true, List.all_eq_true]
    intro b hb
    rw [List.eq_of_mem_replicate hb]
    rfl
  · unfold dNum Lib.decNat
    rw [if_neg (by simp [dd_ne]), decFrom_app, dec_zeros]
    show ((((Lib.decFrom 0 (Lib.decDigits n.natAbs)).getD 0 : Nat)) : Int) = n
    rw [dd_val]
    show ((n.natAbs : Nat) : Int) = n
    omega
theorem four {l : List UInt8} (h : l.length = 4) : ∃ a b c d, l = [a, b, c, d] := by
  match l, h with
  | [a, b, c, d], _ => exact ⟨a, b, c, d, rfl⟩
theorem two {l : List UInt8} (h : l.length = 2) : ∃ a b, l = [a, b] := by
  match l, h with
  | [a, b], _ => exact ⟨a, b, rfl⟩
/-- a date as it is written: ten octets -/
theorem dat_ten {d : Int} (h : 0 ≤ d) (h' : d ≤ 100000) : ∃ a0 a1 a2 a3 b0 b1 c0 c1, datL d = [a0, a1, a2, a3, 45, b0, b1, 45, c0, c1] ∧ ([a0, a1, a2, a3] ++ [b0, b1] ++ [c0, c1]).all isDg = true ∧ doD (dNum [a0, a1, a2, a3]) (dNum [b0, b1]) (dNum [c0, c1]) = (d, 0) := by
  obtain ⟨y, m, k, hd⟩ := date_ex h h'
  have hy := bef_hi hd.b0 (by omega)
  have hk := ml_hi y m
  obtain ⟨a, ad, an⟩ := padL_at (n := y) (g := 4) (by have := hd.y0; omega) (by have := hd.y0; omega) (by omega)
  obtain ⟨b, bd, bn⟩ := padL_at (n := m) (g := 2) (by have := hd.m0; omega) (by have := hd.m0; have := hd.m1; omega) (by omega)
  obtain ⟨c, cd, cn⟩ := padL_at (n := k) (g := 2) (by have := hd.k0; omega) (by have := hd.k0; have := hd.k1; omega) (by omega)
  obtain ⟨a0, a1, a2, a3, ea⟩ := four a
  obtain ⟨b0, b1, eb⟩ := two b
  obtain ⟨c0, c1, ec⟩ := two c
  rw [ea] at ad an
  rw [eb] at bd bn
  rw [ec] at cd cn
  refine ⟨a0, a1, a2, a3, b0, b1, c0, c1, ?_, ?_, ?_⟩
  · unfold datL
    rw [ymd_is hd]
    show padL y ((4 : Nat) : Int) ++ [45] ++ padL m ((2 : Nat) : Int) ++ [45] ++ padL k ((2 : Nat) : Int) = _
    rw [ea, eb, ec]
    rfl
  · rw [List.all_append, List.all_append, ad, bd, cd]
    rfl
  · rw [an, bn, cn]
    obtain ⟨q0, q1, q2, q3, q4, q5, q6, q7⟩ := hd
    unfold doD
    rw [if_neg (by omega), if_neg (by omega), if_neg (by omega), if_neg (by omega), ← q7]
theorem dat_at {d : Int} (h : 0 ≤ d) (h' : d ≤ 100000) (r : List UInt8) : dateB (datL d ++ r) = true ∧ dayV (datL d ++ r) = d ∧ dayF (datL d ++ r) = false ∧ (datL d ++ r).drop 10 = r ∧ ∃ c x, datL d ++ r = c :: x ∧ isDg c = true := by
  obtain ⟨a0, a1, a2, a3, b0, b1, c0, c1, e, hd, hv⟩ := dat_ten h h'
  have ht : (datL d ++ r).take 10 = [a0, a1, a2, a3, 45, b0, b1, 45, c0, c1] := by rw [e]; rfl
  have hr : rdDate [a0, a1, a2, a3, 45, b0, b1, 45, c0, c1] = (d, 0) := hv
  refine ⟨?_, ?_, ?_, by rw [e]; rfl, a0, _, by rw [e]; rfl, ?_⟩
  · unfold dateB
    rw [ht]
    have : dForm [a0, a1, a2, a3, 45, b0, b1, 45, c0, c1] = true := by
      unfold dForm
      simpa using hd
    rw [this, e]
    simp
  · unfold dayV
    rw [ht, hr]
  · unfold dayF
    rw [ht, hr]
    rfl
  · simp only [List.cons_append, List.all_cons, Bool.and_eq_true] at hd
    exact hd.1
theorem rdDays_date {d : Int} (h : 0 ≤ d) (h' : d ≤ 100000) {r : List UInt8} (hr : StopR r) : rdDays (datL d ++ r) = some (vI 4 d 0, r, false) := by
  obtain ⟨_, h2, h3, h4, _⟩ := dat_at h h' r
  unfold rdDays
  rw [h4, h2, h3, if_neg]
  rcases hr with rfl | ⟨x, rfl | rfl⟩
  · simp [pre_no]
  · simp [pre_cons]
  · simp [pre_cons]
theorem rdDays_span {d e : Int} (h : 0 ≤ d) (h' : d ≤ 100000) (g : 0 ≤ e) (g' : e ≤ 100000) (r : List UInt8) : rdDays (datL d ++ (46 :: 46 :: (datL e ++ r))) = some (vI 5 d e, r, false) := by
  obtain ⟨_, h2, h3, h4, _⟩ := dat_at h h' (46 :: 46 :: (datL e ++ r))
  obtain ⟨g1, g2, g3, g4, _⟩ := dat_at g g' r
  have h5 : (datL d ++ (46 :: 46 :: (datL e ++ r))).drop 12 = datL e ++ r := by
    rw [show (12 : Nat) = 10 + 2 from rfl, ← List.drop_drop, h4]
    rfl
  have h6 : (datL d ++ (46 :: 46 :: (datL e ++ r))).drop 22 = r := by
    rw [show (22 : Nat) = 12 + 10 from rfl, ← List.drop_drop, h5, g4]
  unfold rdDays
  rw [h4, h5, h6, h2, h3, g1, g2, g3, if_pos (by simp [pre_cons, pre_nil]), if_pos rfl]
  rfl
end Go.Proofs.YtbdcimakdiegnaaGreatDoor
namespace Go.Proofs.YtbdcimakdiegnaaGreatDoor
open Go.RowKit

theorem gr_trans {w w1 w2 : World} {r : Option Nat} (h : w.grownBy w1 r) (k : w1.grownBy w2 r) : w.grownBy w2 r :=
  ⟨k.os.trans h.os, k.tape.trans h.tape, k.output.trans h.output, Nat.le_trans h.size k.size, fun i hi hn => (k.block i (Nat.lt_of_lt_of_le hi h.size) hn).trans (h.block i hi hn)⟩
theorem gr_below {w w1 w2 : World} {r : Option Nat} (h : w.grownBy w1 r) (hb : Below w1.heap.size w1 w2) : w.grownBy w2 r :=
  ⟨hb.os.trans h.os, hb.tape.trans h.tape, hb.output.trans h.output, Nat.le_trans h.size hb.size, fun i hi hn => (hb.block i (Nat.lt_of_lt_of_le hi h.size)).trans (h.block i hi hn)⟩
theorem gr_of {w w1 : World} {r : Option Nat} (hb : Below w.heap.size w w1) : w.grownBy w1 r := gr_below (World.grownBy.refl w r) hb
theorem gr_set {w w1 : World} {g : Nat} (h : w.grownBy w1 (some g)) (i : Nat) (v : Value) : w.grownBy (w1.setCell ⟨g, i, none⟩ v) (some g) := by
  have hb : Below g w1 (w1.setCell ⟨g, i, none⟩ v) := (Below.refl g w1).setCell (p := ⟨g, i, none⟩) (Nat.le_refl _) v
  exact ⟨hb.os.trans h.os, hb.tape.trans h.tape, hb.output.trans h.output, Nat.le_trans h.size hb.size, fun j hj hn => (Below.heap_setCell w1 ⟨g, i, none⟩ v j (fun e => hn (congrArg some e))).trans (h.block j hj hn)⟩
theorem gr_base {w w1 : World} {g B : Nat} (h : w.grownBy w1 (some g)) (hg : B ≤ g) (hb : B ≤ w.heap.size) : Below B w w1 := (Below.refl B w).grown h hb (fun k hk => by injection hk with hk; omega)

/-- what is left of a text -/
def rs (s : ByteArray) (a : Nat) : List UInt8 := s.data.toList.drop a
theorem rs_len (s : ByteArray) (a : Nat) : (rs s a).length = s.size - a := by
  unfold rs
  rw [List.length_drop, ← Lib.size_eq]
theorem rs_drop (s : ByteArray) (a k : Nat) : (rs s a).drop k = rs s (a + k) := by
  unfold rs
  rw [List.drop_drop]
theorem rs_ext (s : ByteArray) (a : Nat) (_h : a ≤ s.size) : (s.extract a s.size).data.toList = rs s a := by
  rw [← Lib.toList_data, Lib.extract_toList]
  unfold rs
  rw [List.take_of_length_le (by rw [List.length_drop, ← Lib.size_eq]; exact Nat.le_refl _)]
theorem rs_cut (s : ByteArray) (a k : Nat) : (s.extract a (a + k)).data.toList = (rs s a).take k := by
  rw [← Lib.toList_data, Lib.extract_toList]
  unfold rs
  rw [show a + k - a = k by omega]
theorem rs_at {s : ByteArray} {a : Nat} (h : a < s.size) : rs s a = s[a] :: rs s (a + 1) := by
  unfold rs
  rw [List.drop_eq_getElem_cons (by rw [← Lib.size_eq]; exact h)]
  rfl
theorem rs_end {s : ByteArray} {a : Nat} (h : s.size ≤ a) : rs s a = [] := by
  unfold rs
  rw [List.drop_eq_nil_of_le (by rw [← Lib.size_eq]; exact h)]
theorem rs_pre {s : ByteArray} {a : Nat} {p : List UInt8} (h : pre p (rs s a) = true) (ha : a ≤ s.size) : a + p.length ≤ s.size := by
  have := pre_len h
  rw [rs_len] at this
  omega
/-- a reader: its text, where it stands, its two marks -/
def RdM (w : World) (rb : Nat) (s : ByteArray) (a : Nat) (bad far : Bool) : Prop := Blk w rb 91 #[.string s, .int .i64 (a : Int), .bool bad, .bool far]
section
variable {w w' : World} {rb a : Nat} {s : ByteArray} {bad far : Bool}
theorem RdM.at_ (h : RdM w rb s a bad far) : (w.cell? ⟨rb, 0, none⟩ = some (.string s) ∧ w.cell? ⟨rb, 1, none⟩ = some (.int .i64 (a : Int)) ∧ w.cell? ⟨rb, 2, none⟩ = some (.bool bad) ∧ w.cell? ⟨rb, 3, none⟩ = some (.bool far)) ∧ w.frozen? ⟨rb, 1, none⟩ = false ∧ w.frozen? ⟨rb, 2, none⟩ = false ∧ w.frozen? ⟨rb, 3, none⟩ = false :=
  ⟨⟨Blk.cell h 0, Blk.cell h 1, Blk.cell h 2, Blk.cell h 3⟩, Blk.frozen h 1, Blk.frozen h 2, Blk.frozen h 3⟩
theorem RdM.below (h : RdM w rb s a bad far) (hb : Below w.heap.size w w') : RdM w' rb s a bad far := Blk.below h hb (Blk.lt h)
theorem RdM.go (h : RdM w rb s a bad far) (b : Nat) : RdM (w.setCell ⟨rb, 1, none⟩ (.int .i64 (b : Int))) rb s b bad far := Blk.set_ h 1 _
theorem RdM.bads (h : RdM w rb s a bad far) (q : Bool) : RdM (w.setCell ⟨rb, 2, none⟩ (.bool q)) rb s a q far := Blk.set_ h 2 _
theorem RdM.fars (h : RdM w rb s a bad far) (q : Bool) : RdM (w.setCell ⟨rb, 3, none⟩ (.bool q)) rb s a bad q := Blk.set_ h 3 _
end
/-- what a reading method of a value leaves behind -/
structure RdOut (o : RdR) (rb : Nat) (s : ByteArray) (far : Bool) (w : World) (v : Vl × Value) (w' : World) : Prop where
  gr : w.grownBy w' (some rb)
  mem : RV w' w'.heap.size v.2 v.1.items
  st : ∃ a' bad' far', RdM w' rb s a' bad' far' ∧ a' ≤ s.size ∧ (match o with | none => bad' = true | some x => bad' = false ∧ far' = (far || x.2.2) ∧ rs s a' = x.2.1 ∧ v.1 = x.1)
end Go.Proofs.YtbdcimakdiegnaaGreatDoor
