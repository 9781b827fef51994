/-
  DERIVED. The walk of florref1.shown. Conditions: a span of the text.
  By an AI agent.
-/
import Derived.Test.YtemngidkfgcigaaGreatDoorKa28
import Derived.Test.YtemngidkfgcigaaGreatDoorKa25
namespace Go.Proofs.YtemngidkfgcigaaGreatDoor
open Go.RowKit

theorem ext_cut (s : ByteArray) {a c b : Nat} (h1 : a ≤ c) (h2 : c ≤ b) : s.extract a b = s.extract a c ++ s.extract c b := by
  apply ba_ext
  rw [ByteArray.data_append, Array.toList_append, ext_list2, ext_list2, ext_list2, show b - a = (c - a) + (b - c) by omega, List.take_add, List.drop_drop, show a + (c - a) = c by omega]
theorem ext_one {s : ByteArray} {a : Nat} {c : UInt8} (h : bt s a = c.toNat) : s.extract a (a + 1) = ⟨#[c]⟩ := by
  have hx := bt_in (s := s) (i := a) (by omega)
  rw [bt_at hx] at h
  apply ba_ext
  rw [ext_list2, show a + 1 - a = 1 by omega, drop_bt hx]
  have : s[a] = c := UInt8.toNat_inj.1 (by have h' : ((s[a].toNat : Nat) : Int) = (c.toNat : Int) := h; omega)
  rw [this]; rfl
theorem ext_pair {s : ByteArray} {a : Nat} {c : UInt8} (h0 : bt s a = c.toNat) (h1 : bt s (a + 1) = c.toNat) : s.extract a (a + 2) = ⟨#[c, c]⟩ := by
  rw [ext_cut s (show a ≤ a + 1 by omega) (show a + 1 ≤ a + 2 by omega), ext_one h0, ext_one h1]
  rfl
theorem shown_ref {s : ByteArray} {x : Sp} (h : SpIs s x) (hk : x.kind = 5) : (⟨#[40, 40]⟩ ++ x.text) ++ ⟨#[41, 41]⟩ = shown s x := by
  obtain ⟨g1, g2, _, g4, g5, g6, g7⟩ := h.e5 hk
  have e1 : s.extract x.frm (x.frm + 2) = ⟨#[40, 40]⟩ := ext_pair (c := 40) g4 g5
  have e2 : s.extract (x.to_ - 2) x.to_ = ⟨#[41, 41]⟩ := by
    have := ext_pair (s := s) (a := x.to_ - 2) (c := 41) g6 (by rw [show x.to_ - 2 + 1 = x.to_ - 1 by omega]; exact g7)
    rwa [show x.to_ - 2 + 2 = x.to_ by omega] at this
  unfold shown
  rw [if_neg (by omega), if_neg (by omega), if_neg (by omega), g2, ← e1, ← e2, ← ext_cut s (by omega) (by omega), ← ext_cut s (by omega) (by omega)]
theorem shown_tag {s : ByteArray} {x : Sp} (h : SpIs s x) (hk : x.kind = 6) : ⟨#[35]⟩ ++ x.text = shown s x := by
  obtain ⟨g1, g2, _, _, g5⟩ := h.e6 hk
  have e1 : s.extract x.frm (x.frm + 1) = ⟨#[35]⟩ := ext_one (c := 35) g5
  unfold shown
  rw [if_neg (by omega), if_neg (by omega), if_neg (by omega), g2, ← e1, ← ext_cut s (by omega) (by omega)]

theorem rs_int_info : (Tryz.prog.info? 3).map (fun i => (i.zero, i.size, i.bytes)) = some (some (.int .i64 0), 1, 8) := by kernel_rfl
/-- the places that a span's bytes come from -/
def placesL (a : Int) (n : Nat) : List Value := (List.range n).map fun i => .int .i64 (a + (i : Nat))
theorem placesL_snoc (a : Int) (n : Nat) : placesL a (n + 1) = placesL a n ++ [.int .i64 (a + (n : Nat))] := by simp [placesL, List.range_succ]

set_option maxHeartbeats 4000000 in
set_option maxRecDepth 100000 in
theorem rshown_any (s : ByteArray) (x : Sp) (w : World) (h : SpIs s x) (h1 : x.frm < x.to_) (h2 : x.to_ ≤ s.size) (hT1 : x.kind = 1 → x.text = s.extract x.frm x.to_) (hs : s.size ≤ 1048576) (hts : x.text.size ≤ 1048578) :
    Calls Tryz.prog 44 #[spV x] w fun e w' => ∃ v, e = .returned (.tuple #[.string (shown s x), v]) ∧ w'.ownsRow w.heap.size 3 1 v (shown s x).size (placesL (shownAt x) (shown s x).size) ∧ Below w.heap.size w w' := by
  obtain ⟨i0, hi, hz0, hz1, hz2⟩ := info_parts rs_int_info
  obtain ⟨ca, hca, hca1, hca2, _⟩ := shown_at h h1 h2
  obtain ⟨SH, hSH⟩ : ∃ SH, SH = shown s x := ⟨_, rfl⟩
  obtain ⟨FR, hFR⟩ : ∃ FR, FR = shownAt x := ⟨_, rfl⟩
  rw [← hFR] at hca
  rw [← hSH] at hca2
  have fr0 : (0 : Int) ≤ FR := by omega
  have fr1 : FR ≤ 1048576 := by omega
  have sz1 : (SH.size : Int) ≤ 1048576 := by omega
  have f0 : (0 : Int) ≤ (x.frm : Int) := by omega
  have f1 : (x.frm : Int) ≤ 1048576 := by omega
  have f2 : (x.to_ : Int) ≤ 1048576 := by omega
  have t1 : (x.text.size : Int) ≤ 1048578 := by omega
  have HH := Lib.hid h
  have hk := h.k
  rw [← hSH, ← hFR]
  rw [show spV x = .agg #[.int .i64 x.kind, .int .i64 x.frm, .int .i64 x.to_, .string x.text, .string x.show_, .int .i64 x.id, .bool x.strong] from rfl]
  have HTT := Lib.hid hT1
  have h12 := Lib.hid (And.intro h1 h2)
  clear hT1 hca hca1 hca2 h h1 h2
  rcases (show x.kind = 2 ∨ x.kind = 3 ∨ x.kind = 4 ∨ x.kind = 5 ∨ x.kind = 6 ∨ x.kind = 7 ∨ x.kind = 1 by omega) with hK | hK | hK | hK | hK | hK | hK
  · skip
    have g2 : (x.kind == 2) = true := by rw [hK]; rfl
    have g3 : (x.kind == 3) = false := by rw [hK]; rfl
    have g4 : (x.kind == 4) = false := by rw [hK]; rfl
    have g5 : (x.kind == 5) = false := by rw [hK]; rfl
    have g6 : (x.kind == 6) = false := by rw [hK]; rfl
    have g7 : (x.kind == 7) = false := by rw [hK]; rfl
    have HS : Hid (x.text = SH) := by show _ = _; rw [hSH]; unfold shown; rw [if_pos (.inl hK)]
    have HF : Hid ((x.frm : Int) + 1 = FR) := by show _ = _; rw [hFR]; unfold shownAt; rw [if_pos (.inl hK)]
    clear hSH hFR hK hk
    go_enter Tryz.func44, Tryz.ntmps44
    go_wp2_with fail
    go_quiet (fail)
    go_upto_region 16 with (fail)
    rw [HS.out]
    try rw [HF.out]
    go_wp2_with fail
    go_loopg [6, 49] SH.size (fun g s6 s49 wr => ∃ k : Nat, k + g = SH.size ∧ s49 = .int .i64 k ∧ wr.ownsRow w.heap.size 3 1 s6 k (placesL FR k) ∧ Below w.heap.size w wr)
    case atStart => exact ⟨0, by omega, rfl, World.ownsRow_nil _ _ _ _, by repeat (first | exact Below.refl _ _ | apply bdrew | exact (Below.refl _ _).alloc (Nat.le_refl _) _)⟩
    case round =>
      obtain ⟨k, hkg, rfl, hown, hbel⟩ := hrel
      by_cases hlt : k < SH.size
      · have ik : (k : Int) < (SH.size : Int) := by omega
        have ik0 : (0 : Int) ≤ (k : Int) := by omega
        have hzz := hbel.size
        go_wp2_with (at_builtin; refine wpList_append_own_at _ rfl _ _ 23 rfl w.heap.size 3 i0 (.int .i64 0) 1 8 Tryz.underlying23 hi hz0 hz1 hz2 rfl (by decide) _ k _ rfl (hown.alloc _) ⟨wr.heap.size, 0, none⟩ 1 1 [.int .i64 (FR + (k : Nat))] rfl rfl (cells_new _ _ [.int .i64 (FR + (k : Nat))] _ (by simp)) (by intro u hu; simp at hu; subst hu; rfl) (by unfold maxLen; omega) (by omega) (by simp; omega) ?_; intro v2 w2 hown2 hg2 _ _)
        have R : Hid (w2.ownsRow w.heap.size 3 1 v2 (k + 1) (placesL FR (k + 1)) ∧ Below w.heap.size w w2) := ⟨by rw [placesL_snoc]; exact hown2, (hbel.alloc (by omega) _).grown hg2 (by simp; omega) (fun g h => (hown.lt g h).1)⟩
        clear hown2 hg2 hown
        go_roundg (SH.size - (k + 1))
        case measure => omega
        case rel => exact ⟨k + 1, by omega, by go_num, R.out.1, R.out.2⟩
      · obtain rfl : k = SH.size := by omega
        have R := Lib.hid (And.intro hown hbel)
        clear hown hbel
        go_wp2_with fail
        go_ret2
        exact ⟨_, rfl, R.out.1, R.out.2⟩
  · skip
    have g2 : (x.kind == 2) = false := by rw [hK]; rfl
    have g3 : (x.kind == 3) = true := by rw [hK]; rfl
    have g4 : (x.kind == 4) = false := by rw [hK]; rfl
    have g5 : (x.kind == 5) = false := by rw [hK]; rfl
    have g6 : (x.kind == 6) = false := by rw [hK]; rfl
    have g7 : (x.kind == 7) = false := by rw [hK]; rfl
    have HS : Hid (x.text = SH) := by show _ = _; rw [hSH]; unfold shown; rw [if_pos (.inr hK)]
    have HF : Hid ((x.frm : Int) + 1 = FR) := by show _ = _; rw [hFR]; unfold shownAt; rw [if_pos (.inr hK)]
    clear hSH hFR hK hk
    go_enter Tryz.func44, Tryz.ntmps44
    go_wp2_with fail
    go_quiet (fail)
    go_upto_region 16 with (fail)
    rw [HS.out]
    try rw [HF.out]
    go_wp2_with fail
    go_loopg [6, 49] SH.size (fun g s6 s49 wr => ∃ k : Nat, k + g = SH.size ∧ s49 = .int .i64 k ∧ wr.ownsRow w.heap.size 3 1 s6 k (placesL FR k) ∧ Below w.heap.size w wr)
    case atStart => exact ⟨0, by omega, rfl, World.ownsRow_nil _ _ _ _, by repeat (first | exact Below.refl _ _ | apply bdrew | exact (Below.refl _ _).alloc (Nat.le_refl _) _)⟩
    case round =>
      obtain ⟨k, hkg, rfl, hown, hbel⟩ := hrel
      by_cases hlt : k < SH.size
      · have ik : (k : Int) < (SH.size : Int) := by omega
        have ik0 : (0 : Int) ≤ (k : Int) := by omega
        have hzz := hbel.size
        go_wp2_with (at_builtin; refine wpList_append_own_at _ rfl _ _ 23 rfl w.heap.size 3 i0 (.int .i64 0) 1 8 Tryz.underlying23 hi hz0 hz1 hz2 rfl (by decide) _ k _ rfl (hown.alloc _) ⟨wr.heap.size, 0, none⟩ 1 1 [.int .i64 (FR + (k : Nat))] rfl rfl (cells_new _ _ [.int .i64 (FR + (k : Nat))] _ (by simp)) (by intro u hu; simp at hu; subst hu; rfl) (by unfold maxLen; omega) (by omega) (by simp; omega) ?_; intro v2 w2 hown2 hg2 _ _)
        have R : Hid (w2.ownsRow w.heap.size 3 1 v2 (k + 1) (placesL FR (k + 1)) ∧ Below w.heap.size w w2) := ⟨by rw [placesL_snoc]; exact hown2, (hbel.alloc (by omega) _).grown hg2 (by simp; omega) (fun g h => (hown.lt g h).1)⟩
        clear hown2 hg2 hown
        go_roundg (SH.size - (k + 1))
        case measure => omega
        case rel => exact ⟨k + 1, by omega, by go_num, R.out.1, R.out.2⟩
      · obtain rfl : k = SH.size := by omega
        have R := Lib.hid (And.intro hown hbel)
        clear hown hbel
        go_wp2_with fail
        go_ret2
        exact ⟨_, rfl, R.out.1, R.out.2⟩
  · have n23 : ¬ (x.kind = 2 ∨ x.kind = 3) := by omega
    obtain ⟨e, y1, y2, y3, y4, y5, y6, y7, y8⟩ := HH.out.e4 hK
    have ht : x.text.size = e - (x.frm + 2) := by rw [y3, ByteArray.size_extract]; omega
    rcases y8 with ⟨y9, y10⟩ | ⟨y9, y0, y10⟩
    · have z : x.show_.size = 0 := by rw [y10]; rfl
      have g2 : (x.kind == 2) = false := by rw [hK]; rfl
      have g3 : (x.kind == 3) = false := by rw [hK]; rfl
      have g4 : (x.kind == 4) = true := by rw [hK]; rfl
      have g5 : (x.kind == 5) = false := by rw [hK]; rfl
      have g6 : (x.kind == 6) = false := by rw [hK]; rfl
      have g7 : (x.kind == 7) = false := by rw [hK]; rfl
      have hem : x.show_.toList.isEmpty = true := by rw [Lib.toList_data, empty_of z]; rfl
      have HS : Hid (x.text = SH) := by show _ = _; rw [hSH]; unfold shown; rw [if_neg n23, if_pos hK, if_pos z]
      have HF : Hid ((x.frm : Int) + 2 = FR) := by show _ = _; rw [hFR]; unfold shownAt; rw [if_neg n23, if_pos hK, if_pos z]
      clear hSH hFR hK hk y1 y2 y3 y4 y5 y6 y7 y9 y10 ht z n23
      go_enter Tryz.func44, Tryz.ntmps44
      go_wp2_with fail
      go_quiet (fail)
      go_upto_region 16 with (fail)
      rw [HS.out]
      try rw [HF.out]
      go_wp2_with fail
      go_loopg [6, 49] SH.size (fun g s6 s49 wr => ∃ k : Nat, k + g = SH.size ∧ s49 = .int .i64 k ∧ wr.ownsRow w.heap.size 3 1 s6 k (placesL FR k) ∧ Below w.heap.size w wr)
      case atStart => exact ⟨0, by omega, rfl, World.ownsRow_nil _ _ _ _, by repeat (first | exact Below.refl _ _ | apply bdrew | exact (Below.refl _ _).alloc (Nat.le_refl _) _)⟩
      case round =>
        obtain ⟨k, hkg, rfl, hown, hbel⟩ := hrel
        by_cases hlt : k < SH.size
        · have ik : (k : Int) < (SH.size : Int) := by omega
          have ik0 : (0 : Int) ≤ (k : Int) := by omega
          have hzz := hbel.size
          go_wp2_with (at_builtin; refine wpList_append_own_at _ rfl _ _ 23 rfl w.heap.size 3 i0 (.int .i64 0) 1 8 Tryz.underlying23 hi hz0 hz1 hz2 rfl (by decide) _ k _ rfl (hown.alloc _) ⟨wr.heap.size, 0, none⟩ 1 1 [.int .i64 (FR + (k : Nat))] rfl rfl (cells_new _ _ [.int .i64 (FR + (k : Nat))] _ (by simp)) (by intro u hu; simp at hu; subst hu; rfl) (by unfold maxLen; omega) (by omega) (by simp; omega) ?_; intro v2 w2 hown2 hg2 _ _)
          have R : Hid (w2.ownsRow w.heap.size 3 1 v2 (k + 1) (placesL FR (k + 1)) ∧ Below w.heap.size w w2) := ⟨by rw [placesL_snoc]; exact hown2, (hbel.alloc (by omega) _).grown hg2 (by simp; omega) (fun g h => (hown.lt g h).1)⟩
          clear hown2 hg2 hown
          go_roundg (SH.size - (k + 1))
          case measure => omega
          case rel => exact ⟨k + 1, by omega, by go_num, R.out.1, R.out.2⟩
        · obtain rfl : k = SH.size := by omega
          have R := Lib.hid (And.intro hown hbel)
          clear hown hbel
          go_wp2_with fail
          go_ret2
          exact ⟨_, rfl, R.out.1, R.out.2⟩
    · have z : x.show_.size = x.to_ - 2 - (e + 1) := by rw [y10, ByteArray.size_extract]; omega
      have g2 : (x.kind == 2) = false := by rw [hK]; rfl
      have g3 : (x.kind == 3) = false := by rw [hK]; rfl
      have g4 : (x.kind == 4) = true := by rw [hK]; rfl
      have g5 : (x.kind == 5) = false := by rw [hK]; rfl
      have g6 : (x.kind == 6) = false := by rw [hK]; rfl
      have g7 : (x.kind == 7) = false := by rw [hK]; rfl
      have hem : x.show_.toList.isEmpty = false := notEmpty_of (by omega)
      have hzi : IntKind.i64.wrap ((x.frm : Int) + 2 + x.text.size) = (x.frm : Int) + 2 + x.text.size := IntWalk.i64_in _ (by omega)
      have hzj : IntKind.i64.wrap ((x.frm : Int) + 2 + x.text.size + 1) = (x.frm : Int) + 2 + x.text.size + 1 := IntWalk.i64_in _ (by omega)
      have HS : Hid (x.show_ = SH) := by show _ = _; rw [hSH]; unfold shown; rw [if_neg n23, if_pos hK, if_neg (by omega)]
      have HF : Hid ((x.frm : Int) + 2 + x.text.size + 1 = FR) := by show _ = _; rw [hFR]; unfold shownAt; rw [if_neg n23, if_pos hK, if_neg (by omega)]; omega
      clear hSH hFR hK hk y1 y2 y3 y4 y5 y6 y7 y9 y0 y10 ht z n23
      go_enter Tryz.func44, Tryz.ntmps44
      go_wp2_with fail
      go_quiet (fail)
      go_wp2_with fail
      go_quiet (fail)
      go_upto_region 16 with (fail)
      rw [HS.out]
      try rw [HF.out]
      go_wp2_with fail
      go_loopg [6, 49] SH.size (fun g s6 s49 wr => ∃ k : Nat, k + g = SH.size ∧ s49 = .int .i64 k ∧ wr.ownsRow w.heap.size 3 1 s6 k (placesL FR k) ∧ Below w.heap.size w wr)
      case atStart => exact ⟨0, by omega, rfl, World.ownsRow_nil _ _ _ _, by repeat (first | exact Below.refl _ _ | apply bdrew | exact (Below.refl _ _).alloc (Nat.le_refl _) _)⟩
      case round =>
        obtain ⟨k, hkg, rfl, hown, hbel⟩ := hrel
        by_cases hlt : k < SH.size
        · have ik : (k : Int) < (SH.size : Int) := by omega
          have ik0 : (0 : Int) ≤ (k : Int) := by omega
          have hzz := hbel.size
          go_wp2_with (at_builtin; refine wpList_append_own_at _ rfl _ _ 23 rfl w.heap.size 3 i0 (.int .i64 0) 1 8 Tryz.underlying23 hi hz0 hz1 hz2 rfl (by decide) _ k _ rfl (hown.alloc _) ⟨wr.heap.size, 0, none⟩ 1 1 [.int .i64 (FR + (k : Nat))] rfl rfl (cells_new _ _ [.int .i64 (FR + (k : Nat))] _ (by simp)) (by intro u hu; simp at hu; subst hu; rfl) (by unfold maxLen; omega) (by omega) (by simp; omega) ?_; intro v2 w2 hown2 hg2 _ _)
          have R : Hid (w2.ownsRow w.heap.size 3 1 v2 (k + 1) (placesL FR (k + 1)) ∧ Below w.heap.size w w2) := ⟨by rw [placesL_snoc]; exact hown2, (hbel.alloc (by omega) _).grown hg2 (by simp; omega) (fun g h => (hown.lt g h).1)⟩
          clear hown2 hg2 hown
          go_roundg (SH.size - (k + 1))
          case measure => omega
          case rel => exact ⟨k + 1, by omega, by go_num, R.out.1, R.out.2⟩
        · obtain rfl : k = SH.size := by omega
          have R := Lib.hid (And.intro hown hbel)
          clear hown hbel
          go_wp2_with fail
          go_ret2
          exact ⟨_, rfl, R.out.1, R.out.2⟩
  · skip
    have g2 : (x.kind == 2) = false := by rw [hK]; rfl
    have g3 : (x.kind == 3) = false := by rw [hK]; rfl
    have g4 : (x.kind == 4) = false := by rw [hK]; rfl
    have g5 : (x.kind == 5) = true := by rw [hK]; rfl
    have g6 : (x.kind == 6) = false := by rw [hK]; rfl
    have g7 : (x.kind == 7) = false := by rw [hK]; rfl
    have HS : Hid ((⟨#[40, 40]⟩ ++ x.text) ++ ⟨#[41, 41]⟩ = SH) := by show _ = _; rw [hSH]; exact shown_ref HH.out hK
    have HF : Hid ((x.frm : Int) = FR) := by show _ = _; rw [hFR]; unfold shownAt; rw [if_neg (by omega), if_neg (by omega), if_neg (by omega)]
    clear hSH hFR hK hk
    go_enter Tryz.func44, Tryz.ntmps44
    go_wp2_with fail
    go_quiet (fail)
    go_upto_region 16 with (fail)
    rw [HS.out]
    try rw [HF.out]
    go_wp2_with fail
    go_loopg [6, 49] SH.size (fun g s6 s49 wr => ∃ k : Nat, k + g = SH.size ∧ s49 = .int .i64 k ∧ wr.ownsRow w.heap.size 3 1 s6 k (placesL FR k) ∧ Below w.heap.size w wr)
    case atStart => exact ⟨0, by omega, rfl, World.ownsRow_nil _ _ _ _, by repeat (first | exact Below.refl _ _ | apply bdrew | exact (Below.refl _ _).alloc (Nat.le_refl _) _)⟩
    case round =>
      obtain ⟨k, hkg, rfl, hown, hbel⟩ := hrel
      by_cases hlt : k < SH.size
      · have ik : (k : Int) < (SH.size : Int) := by omega
        have ik0 : (0 : Int) ≤ (k : Int) := by omega
        have hzz := hbel.size
        go_wp2_with (at_builtin; refine wpList_append_own_at _ rfl _ _ 23 rfl w.heap.size 3 i0 (.int .i64 0) 1 8 Tryz.underlying23 hi hz0 hz1 hz2 rfl (by decide) _ k _ rfl (hown.alloc _) ⟨wr.heap.size, 0, none⟩ 1 1 [.int .i64 (FR + (k : Nat))] rfl rfl (cells_new _ _ [.int .i64 (FR + (k : Nat))] _ (by simp)) (by intro u hu; simp at hu; subst hu; rfl) (by unfold maxLen; omega) (by omega) (by simp; omega) ?_; intro v2 w2 hown2 hg2 _ _)
        have R : Hid (w2.ownsRow w.heap.size 3 1 v2 (k + 1) (placesL FR (k + 1)) ∧ Below w.heap.size w w2) := ⟨by rw [placesL_snoc]; exact hown2, (hbel.alloc (by omega) _).grown hg2 (by simp; omega) (fun g h => (hown.lt g h).1)⟩
        clear hown2 hg2 hown
        go_roundg (SH.size - (k + 1))
        case measure => omega
        case rel => exact ⟨k + 1, by omega, by go_num, R.out.1, R.out.2⟩
      · obtain rfl : k = SH.size := by omega
        have R := Lib.hid (And.intro hown hbel)
        clear hown hbel
        go_wp2_with fail
        go_ret2
        exact ⟨_, rfl, R.out.1, R.out.2⟩
  · skip
    have g2 : (x.kind == 2) = false := by rw [hK]; rfl
    have g3 : (x.kind == 3) = false := by rw [hK]; rfl
    have g4 : (x.kind == 4) = false := by rw [hK]; rfl
    have g5 : (x.kind == 5) = false := by rw [hK]; rfl
    have g6 : (x.kind == 6) = true := by rw [hK]; rfl
    have g7 : (x.kind == 7) = false := by rw [hK]; rfl
    have HS : Hid (⟨#[35]⟩ ++ x.text = SH) := by show _ = _; rw [hSH]; exact shown_tag HH.out hK
    have HF : Hid ((x.frm : Int) = FR) := by show _ = _; rw [hFR]; unfold shownAt; rw [if_neg (by omega), if_neg (by omega), if_neg (by omega)]
    clear hSH hFR hK hk
    go_enter Tryz.func44, Tryz.ntmps44
    go_wp2_with fail
    go_quiet (fail)
    go_upto_region 16 with (fail)
    rw [HS.out]
    try rw [HF.out]
    go_wp2_with fail
    go_loopg [6, 49] SH.size (fun g s6 s49 wr => ∃ k : Nat, k + g = SH.size ∧ s49 = .int .i64 k ∧ wr.ownsRow w.heap.size 3 1 s6 k (placesL FR k) ∧ Below w.heap.size w wr)
    case atStart => exact ⟨0, by omega, rfl, World.ownsRow_nil _ _ _ _, by repeat (first | exact Below.refl _ _ | apply bdrew | exact (Below.refl _ _).alloc (Nat.le_refl _) _)⟩
    case round =>
      obtain ⟨k, hkg, rfl, hown, hbel⟩ := hrel
      by_cases hlt : k < SH.size
      · have ik : (k : Int) < (SH.size : Int) := by omega
        have ik0 : (0 : Int) ≤ (k : Int) := by omega
        have hzz := hbel.size
        go_wp2_with (at_builtin; refine wpList_append_own_at _ rfl _ _ 23 rfl w.heap.size 3 i0 (.int .i64 0) 1 8 Tryz.underlying23 hi hz0 hz1 hz2 rfl (by decide) _ k _ rfl (hown.alloc _) ⟨wr.heap.size, 0, none⟩ 1 1 [.int .i64 (FR + (k : Nat))] rfl rfl (cells_new _ _ [.int .i64 (FR + (k : Nat))] _ (by simp)) (by intro u hu; simp at hu; subst hu; rfl) (by unfold maxLen; omega) (by omega) (by simp; omega) ?_; intro v2 w2 hown2 hg2 _ _)
        have R : Hid (w2.ownsRow w.heap.size 3 1 v2 (k + 1) (placesL FR (k + 1)) ∧ Below w.heap.size w w2) := ⟨by rw [placesL_snoc]; exact hown2, (hbel.alloc (by omega) _).grown hg2 (by simp; omega) (fun g h => (hown.lt g h).1)⟩
        clear hown2 hg2 hown
        go_roundg (SH.size - (k + 1))
        case measure => omega
        case rel => exact ⟨k + 1, by omega, by go_num, R.out.1, R.out.2⟩
      · obtain rfl : k = SH.size := by omega
        have R := Lib.hid (And.intro hown hbel)
        clear hown hbel
        go_wp2_with fail
        go_ret2
        exact ⟨_, rfl, R.out.1, R.out.2⟩
  · have g2 : (x.kind == 2) = false := by rw [hK]; rfl
    have g3 : (x.kind == 3) = false := by rw [hK]; rfl
    have g4 : (x.kind == 4) = false := by rw [hK]; rfl
    have g5 : (x.kind == 5) = false := by rw [hK]; rfl
    have g6 : (x.kind == 6) = false := by rw [hK]; rfl
    have g7 : (x.kind == 7) = true := by rw [hK]; rfl
    have HS : Hid (SH = ⟨#[]⟩) := by show _ = _; rw [hSH]; unfold shown; rw [if_neg (by omega), if_neg (by omega), if_pos hK]; rfl
    clear hSH hFR hK hk
    rw [HS.out]
    go_enter Tryz.func44, Tryz.ntmps44
    go_wp2_with fail
    go_quiet (fail)
    go_wp2_with fail
    go_loopg [6, 49] 0 (fun g s6 s49 wr => s6 = .slice none 0 0 ∧ s49 = .int .i64 0 ∧ Below w.heap.size w wr)
    case atStart => exact ⟨rfl, rfl, by repeat (first | exact Below.refl _ _ | apply bdrew | exact (Below.refl _ _).alloc (Nat.le_refl _) _)⟩
    case round =>
      obtain ⟨rfl, rfl, hbel⟩ := hrel
      have R := Lib.hid hbel
      clear hbel
      go_wp2_with fail
      go_ret2
      exact ⟨_, rfl, World.ownsRow_nil _ _ _ _, R.out⟩
  · skip
    have g2 : (x.kind == 2) = false := by rw [hK]; rfl
    have g3 : (x.kind == 3) = false := by rw [hK]; rfl
    have g4 : (x.kind == 4) = false := by rw [hK]; rfl
    have g5 : (x.kind == 5) = false := by rw [hK]; rfl
    have g6 : (x.kind == 6) = false := by rw [hK]; rfl
    have g7 : (x.kind == 7) = false := by rw [hK]; rfl
    have HS : Hid (x.text = SH) := by show _ = _; rw [hSH]; unfold shown; rw [if_neg (by omega), if_neg (by omega), if_neg (by omega)]; exact HTT.out hK
    have HF : Hid ((x.frm : Int) = FR) := by show _ = _; rw [hFR]; unfold shownAt; rw [if_neg (by omega), if_neg (by omega), if_neg (by omega)]
    clear hSH hFR hK hk
    go_enter Tryz.func44, Tryz.ntmps44
    go_wp2_with fail
    go_quiet (fail)
    go_upto_region 16 with (fail)
    rw [HS.out]
    try rw [HF.out]
    go_wp2_with fail
    go_loopg [6, 49] SH.size (fun g s6 s49 wr => ∃ k : Nat, k + g = SH.size ∧ s49 = .int .i64 k ∧ wr.ownsRow w.heap.size 3 1 s6 k (placesL FR k) ∧ Below w.heap.size w wr)
    case atStart => exact ⟨0, by omega, rfl, World.ownsRow_nil _ _ _ _, by repeat (first | exact Below.refl _ _ | apply bdrew | exact (Below.refl _ _).alloc (Nat.le_refl _) _)⟩
    case round =>
      obtain ⟨k, hkg, rfl, hown, hbel⟩ := hrel
      by_cases hlt : k < SH.size
      · have ik : (k : Int) < (SH.size : Int) := by omega
        have ik0 : (0 : Int) ≤ (k : Int) := by omega
        have hzz := hbel.size
        go_wp2_with (at_builtin; refine wpList_append_own_at _ rfl _ _ 23 rfl w.heap.size 3 i0 (.int .i64 0) 1 8 Tryz.underlying23 hi hz0 hz1 hz2 rfl (by decide) _ k _ rfl (hown.alloc _) ⟨wr.heap.size, 0, none⟩ 1 1 [.int .i64 (FR + (k : Nat))] rfl rfl (cells_new _ _ [.int .i64 (FR + (k : Nat))] _ (by simp)) (by intro u hu; simp at hu; subst hu; rfl) (by unfold maxLen; omega) (by omega) (by simp; omega) ?_; intro v2 w2 hown2 hg2 _ _)
        have R : Hid (w2.ownsRow w.heap.size 3 1 v2 (k + 1) (placesL FR (k + 1)) ∧ Below w.heap.size w w2) := ⟨by rw [placesL_snoc]; exact hown2, (hbel.alloc (by omega) _).grown hg2 (by simp; omega) (fun g h => (hown.lt g h).1)⟩
        clear hown2 hg2 hown
        go_roundg (SH.size - (k + 1))
        case measure => omega
        case rel => exact ⟨k + 1, by omega, by go_num, R.out.1, R.out.2⟩
      · obtain rfl : k = SH.size := by omega
        have R := Lib.hid (And.intro hown hbel)
        clear hown hbel
        go_wp2_with fail
        go_ret2
        exact ⟨_, rfl, R.out.1, R.out.2⟩
end Go.Proofs.YtemngidkfgcigaaGreatDoor
