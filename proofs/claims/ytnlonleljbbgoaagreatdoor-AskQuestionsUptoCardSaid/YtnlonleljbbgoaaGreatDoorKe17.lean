/-
  DERIVED. The walks of prop.written at every value, prop.Text, to the byte. Conditions: the table of powers of ten is laid.
  By an AI agent.
-/
import Derived.Test.YtnlonleljbbgoaaGreatDoorKe16
import Derived.Test.YtnlonleljbbgoaaGreatDoorKe11
import Derived.Deep.LoopGhost
namespace Go.Proofs.YtnlonleljbbgoaaGreatDoor
open Go.RowKit

set_option maxHeartbeats 4000000 in
set_option maxRecDepth 100000 in
theorem written_list (i t : Int) (s : ByteArray) (M : List (Vl × Value)) (A : Option Addr) (n c : Nat) (w : World) (B : Nat) (hB : B ≤ w.heap.size) (h1 : Reads w B 5 A n (M.flatMap vlV)) (hn : n = M.length) (hn20 : n ≤ 20)
    (hs1 : ∀ x ∈ M, ∃ A n c, x.2 = .slice A n c)
    (hcl : ∀ x ∈ M, ∀ W, Below w.heap.size w W → Calls Tryz.prog 112 #[AV x] W fun e w' => e = .returned (.string (wrV x.1)) ∧ (wrV x.1).size ≤ 4100 ∧ Below W.heap.size W w') :
    Calls Tryz.prog 112 #[.agg #[.int .i64 7, .int .i64 i, .int .i64 t, .string s, .slice A n c]] w fun e w' => e = .returned (.string (⟨#[91]⟩ ++ joinB ((M.map Prod.fst).map wrV) ⟨#[44, 32]⟩ ++ ⟨#[93]⟩)) ∧ (⟨#[91]⟩ ++ joinB ((M.map Prod.fst).map wrV) ⟨#[44, 32]⟩ ++ ⟨#[93]⟩ : ByteArray).size ≤ 100000 ∧ Below w.heap.size w w' := by
  obtain ⟨i0, hi, hi0, hi1, hi2⟩ := info_parts rp_str_info
  have H1 := Lib.hid h1
  have HN := Lib.hid hn
  have HC := Lib.hid hcl
  have S1 := Lib.hid hs1
  obtain ⟨J, hJ⟩ : ∃ J, J = joinB ((M.map Prod.fst).map wrV) ⟨#[44, 32]⟩ := ⟨_, rfl⟩
  rw [← hJ]
  have HJE := Lib.hid hJ
  clear h1 hn hcl hs1 hJ
  go_enter Tryz.func112, Tryz.ntmps112
  go_wp2_with fail
  have hbX : Below w.heap.size w (w.alloc (.cells #[.int .i64 7, .int .i64 i, .int .i64 t, .string s, .slice A n c] 24)) := (Below.refl _ _).alloc (Nat.le_refl _) _
  generalize (w.alloc (.cells #[.int .i64 7, .int .i64 i, .int .i64 t, .string s, .slice A n c] 24)) = X at hbX ⊢
  have HBX := Lib.hid hbX
  clear hbX
  go_loopg [9, 73] n (fun gg s9 s73 wr => ∃ k : Nat, ∃ v : Value, ∃ L : List ByteArray, k + gg = n ∧ s73 = .int .i64 (k : Int) ∧ v = s9 ∧ Hid (L = ((M.take k).map Prod.fst).map wrV) ∧ Hid (wr.ownsRow X.heap.size 9 1 v k (L.map .string)) ∧ Hid (Below X.heap.size X wr) ∧ Hid (∀ y ∈ L, y.size ≤ 4100))
  case atStart => exact ⟨0, _, [], by omega, rfl, rfl, rfl, World.ownsRow_nil _ _ _ _, Below.refl _ _, fun y hy => by simp at hy⟩
  case round =>
    obtain ⟨k, v, L, hkg, rfl, rfl, hL, hown, hbel, hsz⟩ := hrel
    by_cases hk : k < n
    · obtain ⟨x, hx⟩ : ∃ x, M[k]? = some x := ⟨_, List.getElem?_eq_getElem (by have := HN.out; omega)⟩
      obtain ⟨b, off, rfl, hbb, hc⟩ := H1.out.plain_at (by omega) vlV_len HN.out hx
      have HBR : Hid (Below w.heap.size w wr) := HBX.out.trans (hbel.out.mono HBX.out.size)
      have HX : Hid (∀ W, Below wr.heap.size wr W → Calls _ _ #[AV x] W _) := fun W hW => HC.out x (List.mem_of_getElem? hx) W (HBR.out.trans (hW.mono HBR.out.size))
      have HT3 : Hid (L ++ [wrV x.1] = ((M.take (k + 1)).map Prod.fst).map wrV) := by
        show _ = _
        rw [List.take_add_one, hx, hL.out]
        simp
      obtain ⟨T, hT⟩ : ∃ T, T = wrV x.1 := ⟨_, rfl⟩
      rw [← hT] at HT3
      simp only [← hT] at HX
      clear hT
      obtain ⟨⟨kx, ix, tx, sx, lx⟩, vx⟩ := x
      obtain ⟨Ax, nx, cx, rfl⟩ := S1.out _ (List.mem_of_getElem? hx)
      have g0 := (HBR.out.cell (p := ⟨b, off + k * 5, none⟩) (by show b < _; omega)).trans (hc 0 _ rfl)
      have g1 := (HBR.out.cell (p := ⟨b, off + k * 5 + 1, none⟩) (by show b < _; omega)).trans (hc 1 _ rfl)
      have g2 := (HBR.out.cell (p := ⟨b, off + k * 5 + 2, none⟩) (by show b < _; omega)).trans (hc 2 _ rfl)
      have g3 := (HBR.out.cell (p := ⟨b, off + k * 5 + 3, none⟩) (by show b < _; omega)).trans (hc 3 _ rfl)
      have g4 := (HBR.out.cell (p := ⟨b, off + k * 5 + 4, none⟩) (by show b < _; omega)).trans (hc 4 _ rfl)
      have j0 : (0 : Int) ≤ (k : Int) := by omega
      have j1 : (k : Int) < (n : Int) := by omega
      clear hx hc
      dsimp only [AV, Vl.kind, Vl.int_, Vl.to_, Vl.text] at HX g0 g1 g2 g3
      have hal : Below wr.heap.size wr (wr.alloc (.cells #[.int .i64 kx, .int .i64 ix, .int .i64 tx, .string sx, .slice Ax nx cx] 24)) := (Below.refl _ _).alloc (Nat.le_refl _) _
      have HX' := Lib.hid (HX.out _ hal)
      have HAL := Lib.hid hal
      clear hal HX
      go_wp2_with fail
      refine HX'.out.mono ?_
      rintro e w5 ⟨rfl, hsT, hb⟩
      have HB5 : Hid (Below wr.heap.size wr w5) := HAL.out.trans (hb.mono HAL.out.size)
      have HO5 : Hid (w5.ownsRow X.heap.size 9 1 v k (L.map .string)) := own_below hown.out HB5.out
      have HBE5 : Hid (Below X.heap.size X w5) := hbel.out.trans (HB5.out.mono hbel.out.size)
      clear hb HX'
      have hz5 := HBE5.out.size
      have hcn : (w5.alloc (.cells #[.string T] 9)).cell? ⟨w5.heap.size, 0, none⟩ = some (.string T) := World.cell?_alloc_mark w5 #[.string T] 9 (0, 0) 0
      have hOA := Lib.hid (own_below HO5.out ((Below.refl _ _).alloc (Nat.le_refl _) (.cells #[.string T] 9)))
      have hRD : Hid (Reads (w5.alloc (.cells #[.string T] 9)) (w5.heap.size + 1) 1 (some ⟨w5.heap.size, 0, none⟩) 1 [.string T]) := ⟨rfl, fun _ => ⟨_, rfl, Nat.lt_succ_self _, fun j u hu => by
        obtain rfl : j = 0 := by
          rcases Nat.lt_or_ge j 1 with h | h
          · omega
          · rw [List.getElem?_eq_none (by simpa using h)] at hu; cases hu
        simp at hu
        subst hu
        rw [Addr.add_lit]
        exact hcn⟩⟩
      clear hcn
      have HZ5 := Lib.hid hz5
      clear hz5
      go_wp2_with (at_builtin; refine wpList_append_any _ rfl _ _ 92 rfl X.heap.size 9 i0 (.string .empty) 1 16 Tryz.underlying92 hi hi0 hi1 hi2 rfl (by decide) v k _ rfl hOA.out (w5.heap.size + 1) (some ⟨w5.heap.size, 0, none⟩) 1 1 [.string T] rfl hRD.out (str_one T) (by show k + 1 ≤ maxLen; unfold maxLen; omega) (by omega) (by have := HZ5.out; simp; omega) ?_)
      intro v2 w6 hown6 hg6 hbl6
      have HB6 : Hid (Below X.heap.size X w6) := by
        refine (HBE5.out.alloc HZ5.out _).grown hg6 (by have := HZ5.out; simp; omega) (fun g hg => ?_)
        exact (own_block_lt hOA.out g hg).1
      have HO6 := Lib.hid hown6
      have HS6 : Hid (∀ y ∈ L ++ [T], y.size ≤ 4100) := fun y hy => by
        rcases List.mem_append.1 hy with hy | hy
        · exact hsz.out y hy
        · rw [List.mem_singleton] at hy
          subst hy
          exact hsT
      clear hown6 hg6 hbl6
      go_wp2_with fail
      go_roundg (n - (k + 1))
      case measure => omega
      case rel => exact ⟨k + 1, v2, L ++ [T], by omega, by go_num, rfl, HT3, by rw [List.map_append]; exact HO6.out, HB6, HS6⟩
    · obtain rfl : k = n := by omega
      have ht : M.take k = M := List.take_of_length_le (by rw [← HN.out]; exact Nat.le_refl _)
      rw [ht] at hL
      have hlen : L.length = k := by rw [hL.out, List.length_map, List.length_map]; exact HN.out.symm
      have hle := joinB_le ⟨#[44, 32]⟩ 4100 L hsz.out
      rw [hlen] at hle
      have hle2 : (joinB L ⟨#[44, 32]⟩).size ≤ 90000 := Nat.le_trans hle (by show k * 4102 ≤ _; omega)
      have HJ := Lib.hid (join_own L ⟨#[44, 32]⟩ wr _ k v hown.out hlen.symm (by omega) (by omega))
      rw [hL.out, ← HJE.out] at HJ hle2
      clear hle hlen
      go_wp2_with fail
      refine HJ.out.mono ?_
      rintro e w7 ⟨rfl, hb7⟩
      have HB7 : Hid (Below X.heap.size X w7) := hbel.out.trans (hb7.mono hbel.out.size)
      clear hb7
      go_wp2_with fail
      go_ret
      refine ⟨rfl, ?_, HBX.out.trans (HB7.out.mono HBX.out.size)⟩
      simp only [ByteArray.size_append]
      show 1 + _ + 1 ≤ 100000
      omega

def wrB (k : Int) : Nat := if k = 7 then 100000 else 4100
def WrP (x : Vl) (w : World) (e : Ending) (w' : World) : Prop := e = .returned (.string (wrV x)) ∧ (wrV x).size ≤ wrB x.kind ∧ Below w.heap.size w w'
theorem nuErr_zero {k i t : Int} (h : nuErr k i t = 0) : (k = 1 → 0 ≤ i ∧ i ≤ 1) ∧ (k = 2 → i.natAbs ≤ 1000000000) ∧ (k = 4 → 0 ≤ i ∧ i ≤ 100000) ∧ (k = 5 → (0 ≤ i ∧ i ≤ 100000) ∧ (0 ≤ t ∧ t ≤ 100000)) := by
  unfold nuErr outI at h
  refine ⟨fun e => ?_, fun e => ?_, fun e => ?_, fun e => ?_⟩
  · subst e
    rw [if_pos (by decide)] at h
    split at h
    · cases h
    · rename_i h1
      simp at h1
      omega
  · subst e
    rw [if_neg (by decide), if_pos (by decide)] at h
    split at h
    · cases h
    · rename_i h1
      simp at h1
      omega
  · subst e
    rw [if_neg (by decide), if_neg (by decide), if_pos (by decide)] at h
    split at h
    · cases h
    · rename_i h1
      simp at h1
      omega
  · subst e
    rw [if_neg (by decide), if_neg (by decide), if_neg (by decide), if_pos (by decide)] at h
    split at h
    · cases h
    · rename_i h1
      simp at h1
      omega
theorem written_walk (x : Vl × Value) (M : List (Vl × Value)) (A : Option Addr) (n c : Nat) (w : World) (B : Nat) (hB : B ≤ w.heap.size) (hx : x.2 = .slice A n c) (hl : M.map Prod.fst = x.1.items) (h1 : Reads w B 5 A n (M.flatMap vlV)) (hn : n = M.length)
    (hs1 : ∀ x ∈ M, ∃ A n c, x.2 = .slice A n c) (hP : Pow w) (hv : vErr x.1 = 0)
    (hcl : ∀ x ∈ M, vErr x.1 = 0 → ∀ W, Below w.heap.size w W → Calls Tryz.prog 112 #[AV x] W (WrP x.1 W)) :
    Calls Tryz.prog 112 #[AV x] w (WrP x.1 w) := by
  obtain ⟨⟨hk0, hk7⟩, hnu, ht, hl20, hit⟩ := vErr_zero hv
  obtain ⟨n1, n2, n4, n5⟩ := nuErr_zero hnu
  obtain ⟨⟨k, i, t, s, l⟩, v⟩ := x
  obtain rfl : v = _ := hx
  obtain rfl : _ = l := hl
  unfold WrP
  rw [wrV_eq]
  dsimp only [AV, Vl.kind, Vl.int_, Vl.to_, Vl.text, Vl.items] at hk0 hk7 ht hl20 hit n1 n2 n4 n5 ⊢
  rcases (show k = 0 ∨ k = 1 ∨ k = 2 ∨ k = 3 ∨ k = 4 ∨ k = 5 ∨ k = 6 ∨ k = 7 by omega) with rfl | rfl | rfl | rfl | rfl | rfl | rfl | rfl
  · refine (written_none i t s A n c w).mono ?_
    rintro e w' ⟨rfl, hb⟩
    exact ⟨rfl, by show 1 ≤ 4100; omega, hb⟩
  · refine (written_flag i t s A n c w (n1 rfl).1 (n1 rfl).2).mono ?_
    rintro e w' ⟨rfl, hb⟩
    refine ⟨rfl, ?_, hb⟩
    show (if i = 0 then (⟨#[110, 111]⟩ : ByteArray) else ⟨#[121, 101, 115]⟩).size ≤ 4100
    split
    · show 2 ≤ 4100; omega
    · show 3 ≤ 4100; omega
  · refine (written_num i t s A n c w (n2 rfl) hP).mono ?_
    rintro e w' ⟨rfl, hb⟩
    have := wd_size21 (n2 rfl)
    exact ⟨rfl, by show (wd i).size ≤ 4100; omega, hb⟩
  · refine (written_str i t s A n c w ht).mono ?_
    rintro e w' ⟨rfl, hb⟩
    have := quoS_size s
    exact ⟨rfl, by show (quoS s).size ≤ 4100; omega, hb⟩
  · refine (written_date i t s A n c w (n4 rfl).1 (n4 rfl).2 hP).mono ?_
    rintro e w' ⟨rfl, hz, hb⟩
    exact ⟨rfl, by show (dtS i).size ≤ 4100; omega, hb⟩
  · refine (written_span i t s A n c w (n5 rfl).1.1 (n5 rfl).1.2 (n5 rfl).2.1 (n5 rfl).2.2 hP).mono ?_
    rintro e w' ⟨rfl, hz, hb⟩
    exact ⟨rfl, by show (dtS i ++ ⟨#[46, 46]⟩ ++ dtS t : ByteArray).size ≤ 4100; omega, hb⟩
  · refine (written_link i t s A n c w ht).mono ?_
    rintro e w' ⟨rfl, hb⟩
    refine ⟨rfl, ?_, hb⟩
    show (⟨#[91, 91]⟩ ++ s ++ ⟨#[93, 93]⟩ : ByteArray).size ≤ 4100
    simp only [ByteArray.size_append]
    show 2 + _ + 2 ≤ 4100
    omega
  · have hit' := itErr_mem hit
    refine (written_list i t s M A n c w B hB h1 hn (by rw [List.length_map] at hl20; omega) hs1 fun x hx W hW => ?_).mono ?_
    · obtain ⟨a1, a2, _⟩ := hit' x.1 (List.mem_map.2 ⟨x, hx, rfl⟩)
      refine (hcl x hx a1 W hW).mono ?_
      rintro e w' ⟨rfl, hz, hb⟩
      exact ⟨rfl, by unfold wrB at hz; rw [if_neg a2] at hz; exact hz, hb⟩
    · rintro e w' ⟨rfl, hz, hb⟩
      exact ⟨rfl, hz, hb⟩
/-- prop.written at a right value -/
theorem written_any : ∀ (d : Nat) (x : Vl × Value) (w : World) (B : Nat), B ≤ w.heap.size → RVd w B d x.2 x.1.items → Pow w → vErr x.1 = 0 →
    Calls Tryz.prog 112 #[AV x] w (WrP x.1 w)
  | 0, x, w, B, hB, hx, hP, hv => by
    obtain ⟨A, n, c, M, h1, h2, h3, h4, h5, h6⟩ := hx.deeper
    have e : M = [] := by rw [← List.map_eq_nil_iff, h1]; exact hx.1
    exact written_walk x M A n c w B hB h2 h1 h5 h3 (fun z hz => (RV.slice ⟨_, h6 z hz⟩)) hP hv (fun z hz => by rw [e] at hz; cases hz)
  | d + 1, x, w, B, hB, ⟨A, n, c, M, h1, h2, h3, h4, h5, h6⟩, hP, hv =>
    written_walk x M A n c w B hB h2 h1 h5 h3 (fun z hz => (RV.slice ⟨_, h6 z hz⟩)) hP hv (fun z hz hv W hW => written_any d z W B (Nat.le_trans hB hW.size) ((h6 z hz).below (hW.mono hB)) (hP.below hW) hv)

/-- what prop.Text returns -/
noncomputable def txS (x : Vl) : ByteArray := if vErr x = 0 then wrV x else ⟨#[]⟩
def TxP (x : Vl) (w : World) (e : Ending) (w' : World) : Prop := e = .returned (.tuple #[.string (txS x), .int .i64 (vErr x)]) ∧ (txS x).size ≤ 100000 ∧ Below w.heap.size w w'
set_option maxHeartbeats 4000000 in
set_option maxRecDepth 100000 in
theorem text_any (x : Vl) (A : Option Addr) (n c : Nat) (w : World) (B : Nat) (hB : B ≤ w.heap.size) (hx : RV w B (.slice A n c) x.items) (hP : Pow w) :
    Calls Tryz.prog 64 #[AV (x, .slice A n c)] w (TxP x w) := by
  obtain ⟨d, hd⟩ := hx
  have HV : Hid (∀ W, Below w.heap.size w W → Calls Tryz.prog 88 #[AV (x, .slice A n c)] W fun e w' => e = .returned (.int .i64 (vErr x)) ∧ Below W.heap.size W w') := fun W hW => checkValue_any d (x, .slice A n c) W B (Nat.le_trans hB hW.size) (hd.below (hW.mono hB))
  have HW : Hid (vErr x = 0 → ∀ W, Below w.heap.size w W → Calls Tryz.prog 112 #[AV (x, .slice A n c)] W fun e w' => e = .returned (.string (wrV x)) ∧ (wrV x).size ≤ wrB x.kind ∧ Below W.heap.size W w') := fun hv W hW => written_any d (x, .slice A n c) W B (Nat.le_trans hB hW.size) (hd.below (hW.mono hB)) (hP.below hW) hv
  unfold TxP
  have T0 : Hid (vErr x = 0 → txS x = wrV x) := fun h => if_pos h
  have T1 : Hid (vErr x ≠ 0 → txS x = ⟨#[]⟩) := fun h => if_neg h
  obtain ⟨E, hE⟩ : ∃ E, E = vErr x := ⟨_, rfl⟩
  obtain ⟨T, hT⟩ : ∃ T, T = txS x := ⟨_, rfl⟩
  rw [← hE, ← hT] at T0 T1
  rw [← hE, ← hT]
  rw [← hE] at HV HW
  clear hE hT hd hP
  have hz : Hid (wrB x.kind ≤ 100000) := by show wrB _ ≤ _; unfold wrB; split <;> omega
  obtain ⟨k, i, t, s, l⟩ := x
  dsimp only [AV, Vl.kind, Vl.int_, Vl.to_, Vl.text] at HV HW hz ⊢
  obtain ⟨R, hR⟩ : ∃ R, R = wrV (.mk k i t s l) := ⟨_, rfl⟩
  rw [← hR] at T0
  simp only [← hR] at HW
  clear hR
  have hal : Below w.heap.size w (w.alloc (.cells #[.int .i64 k, .int .i64 i, .int .i64 t, .string s, .slice A n c] 24)) := (Below.refl _ _).alloc (Nat.le_refl _) _
  have HAL := Lib.hid hal
  have KX := Blk.new w 24 #[.int .i64 k, .int .i64 i, .int .i64 t, .string s, .slice A n c]
  go_enter Tryz.func64, Tryz.ntmps64
  go_wp2_with fail
  refine (HV.out _ hal).mono ?_
  rintro e w1 ⟨rfl, hb1⟩
  have HB1 : Hid (Below w.heap.size w w1) := HAL.out.trans (hb1.mono HAL.out.size)
  have K1 := KX.below hb1 KX.lt
  have c0 : w1.cell? ⟨w.heap.size, 0, none⟩ = some (.int .i64 k) := K1.cell 0
  have c1 : w1.cell? ⟨w.heap.size, 1, none⟩ = some (.int .i64 i) := K1.cell 1
  have c2 : w1.cell? ⟨w.heap.size, 2, none⟩ = some (.int .i64 t) := K1.cell 2
  have c3 : w1.cell? ⟨w.heap.size, 3, none⟩ = some (.string s) := K1.cell 3
  have c4 : w1.cell? ⟨w.heap.size, 4, none⟩ = some (.slice A n c) := K1.cell 4
  clear hb1 KX K1 hal
  by_cases h0 : E = 0
  · have HT := Lib.hid (T0.out h0)
    have HWW := Lib.hid (HW.out h0 _ HB1.out)
    subst h0
    go_wp2_with fail
    refine HWW.out.mono ?_
    rintro e w2 ⟨rfl, hsz, hb2⟩
    have HB2 : Hid (Below w.heap.size w w2) := HB1.out.trans (hb2.mono HB1.out.size)
    clear hb2
    go_wp2_with fail
    go_ret2
    exact ⟨by rw [HT.out]; rfl, by rw [HT.out]; exact Nat.le_trans hsz hz.out, HB2.out⟩
  · have HT := Lib.hid (T1.out h0)
    have hne : (E != 0) = true := by simpa using h0
    clear h0
    go_wp2_with fail
    go_ret2
    exact ⟨by rw [HT.out]; rfl, by rw [HT.out]; exact Nat.zero_le _, HB1.out⟩
end Go.Proofs.YtnlonleljbbgoaaGreatDoor
