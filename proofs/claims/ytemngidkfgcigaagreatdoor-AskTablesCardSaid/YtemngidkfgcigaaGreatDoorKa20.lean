/-
  DERIVED. The walk of prop.CheckProps. Conditions: sizes.
  The walk of tree.checkBlock. Conditions: sizes.
  By an AI agent.
-/
import Derived.Test.YtemngidkfgcigaaGreatDoorKa15
import Derived.Laws.Cover1
import Derived.Test.YtemngidkfgcigaaGreatDoorKa07
import Derived.Test.YtemngidkfgcigaaGreatDoorKa06
namespace Go.Proofs.YtemngidkfgcigaaGreatDoor
open Go.RowKit

/-- is a name not behind another -/
def strLe (a b : ByteArray) : Bool := Op.bytesLess a.toList b.toList || (a.toList == b.toList)
def lePrev : Option ByteArray → ByteArray → Bool
  | none, _ => false
  | some q, a => strLe a q
/-- the error of properties behind a name -/
def prsErr : Option ByteArray → List Pr → Int
  | _, [] => 0
  | p, x :: l => if nmErr x.name ≠ 0 then nmErr x.name else if lePrev p x.name = true then 5 else if (x.val.kind == 0) = true then 10 else if vErr x.val ≠ 0 then vErr x.val else prsErr (some x.name) l
/-- the error of a list of properties -/
def cpErr (l : List Pr) : Int := if 20 < l.length then 4 else prsErr none l
def prevOf (l : List Pr) (k : Nat) : Option ByteArray := if k = 0 then none else (l[k - 1]?).map (·.name)
theorem prevOf_succ {l : List Pr} {k : Nat} {x : Pr} (h : l[k]? = some x) : prevOf l (k + 1) = some x.name := by
  unfold prevOf; rw [if_neg (by omega), Nat.add_sub_cancel, h]; rfl
theorem prsErr_at {l : List Pr} {k : Nat} {x : Pr} (h : l[k]? = some x) : prsErr (prevOf l k) (l.drop k) = if nmErr x.name ≠ 0 then nmErr x.name else if lePrev (prevOf l k) x.name = true then 5 else if (x.val.kind == 0) = true then 10 else if vErr x.val ≠ 0 then vErr x.val else prsErr (prevOf l (k + 1)) (l.drop (k + 1)) := by
  rw [prevOf_succ h]
  obtain ⟨hk, e⟩ := List.getElem?_eq_some_iff.1 h
  rw [List.drop_eq_getElem_cons hk, prsErr, e]
theorem nmErr_ways (s : ByteArray) : nmErr s = 0 ∨ nmErr s = 3 := by
  unfold nmErr; split <;> simp

set_option maxHeartbeats 4000000 in
theorem checkProps_walk (M : List (Pr × Value)) (A : Option Addr) (n c : Nat) (w : World) (B : Nat) (hB : B ≤ w.heap.size) (h1 : Reads w B 6 A n (M.flatMap prV)) (hn : n = M.length) (hbig : n ≤ 140737488351232)
    (hs1 : ∀ x ∈ M, ∃ A n c, x.2 = .slice A n c)
    (hcl : ∀ x ∈ M, ∀ W, Below w.heap.size w W → Calls Tryz.prog 42 #[AV (x.1.val, x.2)] W fun e w' => e = .returned (.int .i64 (vErr x.1.val)) ∧ Below W.heap.size W w') :
    Calls Tryz.prog 26 #[.slice A n c] w fun e w' => e = .returned (.int .i64 (cpErr (M.map Prod.fst))) ∧ Below w.heap.size w w' := by
  obtain ⟨V, hV⟩ : ∃ V, V = cpErr (M.map Prod.fst) := ⟨_, rfl⟩
  rw [← hV]
  unfold cpErr at hV
  rw [List.length_map, ← hn] at hV
  by_cases hl : 20 < n
  · rw [if_pos hl] at hV
    have hl' : (20 : Int) < (n : Int) := by omega
    subst hV
    clear h1 hn hcl hs1 hl
    go_enter Tryz.func26, Tryz.ntmps26
    go_wp2_with fail
    go_ret
    exact ⟨rfl, Below.refl _ _⟩
  rw [if_neg hl] at hV
  have hl' : ¬ (20 : Int) < (n : Int) := by omega
  have H1 := Lib.hid h1
  have HN := Lib.hid hn
  have HC := Lib.hid hcl
  have S1 := Lib.hid hs1
  have HV := Lib.hid hV
  clear h1 hn hcl hs1 hl hV
  go_enter Tryz.func26, Tryz.ntmps26
  go_wp2_with fail
  go_loopg [12] n (fun gg s12 wr => ∃ k : Nat, k + gg = n ∧ s12 = .int .i64 (k : Int) ∧ Hid (V = prsErr (prevOf (M.map Prod.fst) k) ((M.map Prod.fst).drop k)) ∧ Hid (Below w.heap.size w wr))
  case atStart => exact ⟨0, by omega, rfl, HV, Below.refl _ _⟩
  case round =>
    obtain ⟨k, hkg, rfl, hno, hbel⟩ := hrel
    by_cases hk : k < n
    · obtain ⟨x, hx⟩ : ∃ x, M[k]? = some x := ⟨_, List.getElem?_eq_getElem (by have := HN.out; omega)⟩
      obtain ⟨b, off, rfl, hbb, hc⟩ := H1.out.plain_at (by omega) prV_len HN.out hx
      have HX : Hid (∀ W, Below wr.heap.size wr W → Calls _ _ #[AV (x.1.val, x.2)] W _) := fun W hW => HC.out x (List.mem_of_getElem? hx) W (hbel.out.trans (hW.mono hbel.out.size))
      have hst := hno.out.trans (prsErr_at (k := k) (x := x.1) (by rw [List.getElem?_map, hx]; rfl))
      obtain ⟨e0, he0⟩ : ∃ q, (x.1.val.kind == 0) = q := ⟨_, rfl⟩
      rw [he0] at hst
      have HKX := Lib.hid hx
      obtain ⟨⟨nm, ⟨kx, ix, tx, sx, lx⟩⟩, vx⟩ := x
      obtain ⟨Ax, nx, cx, rfl⟩ := S1.out _ (List.mem_of_getElem? hx)
      have g0 := (hbel.out.cell (p := ⟨b, off + k * 6, none⟩) (by show b < _; omega)).trans (hc 0 _ rfl)
      have g1 := (hbel.out.cell (p := ⟨b, off + k * 6 + 1, none⟩) (by show b < _; omega)).trans (hc 1 _ rfl)
      have g2 := (hbel.out.cell (p := ⟨b, off + k * 6 + 2, none⟩) (by show b < _; omega)).trans (hc 2 _ rfl)
      have g3 := (hbel.out.cell (p := ⟨b, off + k * 6 + 3, none⟩) (by show b < _; omega)).trans (hc 3 _ rfl)
      have g4 := (hbel.out.cell (p := ⟨b, off + k * 6 + 4, none⟩) (by show b < _; omega)).trans (hc 4 _ rfl)
      have g5 := (hbel.out.cell (p := ⟨b, off + k * 6 + 5, none⟩) (by show b < _; omega)).trans (hc 5 _ rfl)
      have j0 : (0 : Int) ≤ (k : Int) := by omega
      have j1 : (k : Int) < (n : Int) := by omega
      clear hx hc
      dsimp only [AV, Vl.kind, Vl.int_, Vl.to_, Vl.text] at HX g0 g1 g2 g3 g4 g5 he0
      have hst' : V = if nmErr nm ≠ 0 then nmErr nm else if lePrev (prevOf (M.map Prod.fst) k) nm = true then 5 else if e0 = true then 10 else if vErr (.mk kx ix tx sx lx) ≠ 0 then vErr (.mk kx ix tx sx lx) else prsErr (prevOf (M.map Prod.fst) (k + 1)) ((M.map Prod.fst).drop (k + 1)) := hst
      clear hst
      obtain ⟨vk, hvk⟩ : ∃ v, v = vErr (Vl.mk kx ix tx sx lx) := ⟨_, rfl⟩
      rw [← hvk] at hst'
      simp only [← hvk] at HX
      clear hvk
      have HCN := Lib.hid fun W => checkName_any nm W
      have hal : Below wr.heap.size wr (wr.alloc (.cells #[.string nm, .int .i64 kx, .int .i64 ix, .int .i64 tx, .string sx, .slice Ax nx cx] 74)) := (Below.refl _ _).alloc (Nat.le_refl _) _
      have HBA := Lib.hid (hbel.out.trans (hal.mono hbel.out.size))
      rcases nmErr_ways nm with e3 | e3
      case inr =>
        rw [e3] at hst' HCN
        have HV := Lib.hid (hst'.trans (if_pos (by decide)))
        clear hst' e3 hal
        go_wp2_with fail
        refine (HCN.out _).mono ?_
        rintro e w1 ⟨rfl, rfl⟩
        go_wp2_with fail
        go_ret
        exact ⟨by rw [HV.out]; rfl, HBA.out⟩
      rw [e3] at hst' HCN
      have hst := hst'.trans (if_neg (by decide))
      clear hst' e3
      obtain ⟨le, hle⟩ : ∃ q, q = lePrev (prevOf (M.map Prod.fst) k) nm := ⟨_, rfl⟩
      rw [← hle] at hst
      have HLE := Lib.hid hle
      have HST := Lib.hid hst
      clear hle hst
      have HAL := Lib.hid hal
      clear hal
      go_wp2_with fail
      refine (HCN.out _).mono ?_
      rintro e w1 ⟨rfl, rfl⟩
      go_wp2_with fail
      go_cut [23] (fun s23 wc => s23 = .bool le ∧ ∃ q, wc = (wr.alloc (.cells #[.string nm, .int .i64 kx, .int .i64 ix, .int .i64 tx, .string sx, .slice Ax nx cx] 74)).drewN q)
      case first =>
        rcases k with _ | j
        · have e := HLE.out
          obtain rfl : le = false := e
          have jz : ¬ (0 : Int) < ((0 : Nat) : Int) := by omega
          go_quiet (fail)
          go_wp2_with fail
          go_meet
          exact ⟨rfl, _, rfl⟩
        · obtain ⟨y, hy⟩ : ∃ y, M[j]? = some y := ⟨_, List.getElem?_eq_getElem (by have := HN.out; omega)⟩
          obtain ⟨b', off', e, hbb', hc⟩ := H1.out.plain_at (by omega) prV_len HN.out hy
          obtain ⟨rfl, rfl⟩ : b = b' ∧ off = off' := by injection e with e; injection e with e1 e2; exact ⟨e1, e2⟩
          have k0 := (HBA.out.cell (p := ⟨b, off + j * 6, none⟩) (by show b < _; omega)).trans (hc 0 _ rfl)
          have e := HLE.out
          rw [prevOf_succ (x := y.1) (by rw [List.getElem?_map, hy]; rfl)] at e
          unfold lePrev strLe at e
          obtain ⟨q1, hq1⟩ : ∃ q, Op.bytesLess nm.toList y.1.name.toList = q := ⟨_, rfl⟩
          obtain ⟨q2, hq2⟩ : ∃ q, (nm.toList == y.1.name.toList) = q := ⟨_, rfl⟩
          dsimp only at e
          rw [hq1, hq2] at e
          subst e
          clear hc hy
          obtain ⟨⟨ynm, yvl⟩, yv⟩ := y
          dsimp only at hq1 hq2 k0
          have jz : (0 : Int) < ((j + 1 : Nat) : Int) := by omega
          have jw : IntKind.i64.wrap (j : Int) = (j : Int) := IntWalk.i64_in _ (by omega)
          have jn : (j : Int) < (n : Int) := by omega
          have jp : (0 : Int) ≤ (j : Int) := by omega
          go_quiet (fail)
          go_wp2_with fail
          go_meet
          exact ⟨rfl, _, rfl⟩
      case rest =>
      obtain ⟨rfl, q, rfl⟩ := hcut
      have HBQ : Hid (Below w.heap.size w ((wr.alloc (.cells #[.string nm, .int .i64 kx, .int .i64 ix, .int .i64 tx, .string sx, .slice Ax nx cx] 74)).drewN q)) := bdrew HBA.out _
      cases le
      case true =>
        have HV := Lib.hid (HST.out.trans (if_pos rfl))
        clear HST
        go_wp2_with fail
        go_ret
        exact ⟨by rw [HV.out]; rfl, HBQ.out⟩
      cases e0
      case true =>
        have HV := Lib.hid (HST.out.trans ((if_neg (by decide)).trans (if_pos rfl)))
        clear HST
        go_wp2_with fail
        go_ret
        exact ⟨by rw [HV.out]; rfl, HBQ.out⟩
      have hst := HST.out.trans ((if_neg (by decide)).trans (if_neg (by decide)))
      have HX' := Lib.hid (HX.out _ (bdrew HAL.out q))
      clear HST
      by_cases hz : vk = 0
      · have HV := Lib.hid (hst.trans (if_neg (fun e => e hz)))
        subst hz
        clear hst
        go_wp2_with fail
        refine HX'.out.mono ?_
        rintro e w5 ⟨rfl, hb⟩
        have HB5 : Hid (Below w.heap.size w w5) := HBQ.out.trans (hb.mono HBQ.out.size)
        clear hb
        go_wp2_with fail
        go_roundg (n - (k + 1))
        case measure => omega
        case rel => exact ⟨k + 1, by omega, by go_num, HV, HB5⟩
      · have HV := Lib.hid (hst.trans (if_pos hz))
        have hz' : (vk != 0) = true := by simpa using hz
        clear hst hz
        go_wp2_with fail
        refine HX'.out.mono ?_
        rintro e w5 ⟨rfl, hb⟩
        have HB5 : Hid (Below w.heap.size w w5) := HBQ.out.trans (hb.mono HBQ.out.size)
        clear hb
        go_wp2_with fail
        go_ret
        exact ⟨by rw [HV.out]; rfl, HB5.out⟩
    · obtain rfl : k = n := by omega
      have hz : V = 0 := hno.out.trans (by rw [List.drop_of_length_le (by rw [List.length_map, ← HN.out]; exact Nat.le_refl _), prsErr])
      have HZ := Lib.hid hz
      clear hz
      go_wp2_with fail
      go_ret
      exact ⟨by rw [HZ.out]; rfl, hbel.out⟩
/-- prop.CheckProps -/
theorem checkProps_any (v : Value) (l : List Pr) (w : World) (B : Nat) (hB : B ≤ w.heap.size) (h : RPr w B v l) :
    Calls Tryz.prog 26 #[v] w fun e w' => e = .returned (.int .i64 (cpErr l)) ∧ Below w.heap.size w w' := by
  obtain ⟨A, n, c, M, rfl, rfl, h3, h4, h5, h6⟩ := h
  refine checkProps_walk M A n c w B hB h5 h3 (by omega) (fun z hz => (h6 z hz).slice) fun z hz W hW => ?_
  obtain ⟨d, hd⟩ := h6 z hz
  exact checkValue_any d (z.1.val, z.2) W B (Nat.le_trans hB hW.size) (hd.below (hW.mono hB))
end Go.Proofs.YtemngidkfgcigaaGreatDoor
namespace Go.Proofs.YtemngidkfgcigaaGreatDoor
open Go.RowKit

def rngB : Option Bl → Bl → Bool
  | none, x => x.id != 0
  | some _, x => decide (x.id < 1) || decide (1000000 < x.id)
def ordB : Option Bl → Bl → Bool
  | none, _ => false
  | some y, x => decide (x.id ≤ y.id)
def rootB : Option Bl → Bl → Bool
  | none, x => !x.text.toList.isEmpty || decide (0 < x.props.length) || (x.parent != 0)
  | some _, _ => false
/-- the error of a block behind another (none: the first) -/
def blkErr (p : Option Bl) (x : Bl) : Int :=
  if rngB p x = true then 2 else if ordB p x = true then 5 else if rootB p x = true then 1 else if txErr x.text ≠ 0 then txErr x.text else if 500 < x.kids.length then 4 else cpErr x.props
def prevB (l : List Bl) (k : Nat) : Option Bl := if k = 0 then none else l[k - 1]?
theorem prevB_succ {l : List Bl} {k : Nat} {x : Bl} (h : l[k]? = some x) : prevB l (k + 1) = some x := by
  unfold prevB; rw [if_neg (by omega), Nat.add_sub_cancel, h]
set_option maxHeartbeats 4000000 in
/-- tree.checkBlock -/
theorem checkBlock_any (l : List Bl) (A : Option Addr) (n c : Nat) (k : Nat) (x : Bl) (w : World) (B : Nat) (hB : B ≤ w.heap.size) (h : RB w B (.slice A n c) l) (hx : l[k]? = some x) :
    Calls Tryz.prog 35 #[.slice A n c, .int .i64 k] w fun e w' => e = .returned (.int .i64 (blkErr (prevB l k) x)) ∧ Below w.heap.size w w' := by
  have hbg : n * 80 ≤ 140737488351232 := h.len.2.2
  have hkl := (List.getElem?_eq_some_iff.1 hx).1
  have hkn : k < n := by have := h.len.1; omega
  obtain ⟨b, off, Ak, nk, ck, Ap, np, cp, rfl, hbb, g0, g1, g2, g3, g4, hK, hP⟩ := h.at_ hx
  obtain ⟨V, hV⟩ : ∃ V, V = blkErr (prevB l k) x := ⟨_, rfl⟩
  rw [← hV]
  unfold blkErr at hV
  have hk1 := hK.len
  have hp1 : np = x.props.length := by
    obtain ⟨A', n', c', M, e1, e, e2, _⟩ := hP
    injection e with _ e3
    rw [e3, e2, ← e1, List.length_map]
  rw [← hk1.1] at hV
  obtain ⟨r1, hr1⟩ : ∃ r, r = rngB (prevB l k) x := ⟨_, rfl⟩
  obtain ⟨r2, hr2⟩ : ∃ r, r = ordB (prevB l k) x := ⟨_, rfl⟩
  obtain ⟨r3, hr3⟩ : ∃ r, r = rootB (prevB l k) x := ⟨_, rfl⟩
  rw [← hr1, ← hr2, ← hr3] at hV
  have HV := Lib.hid hV
  have R1 := Lib.hid hr1
  have R2 := Lib.hid hr2
  have R3 := Lib.hid hr3
  have HPL := Lib.hid hp1
  have HT := Lib.hid fun W => checkT_any x.text W
  have HCP := Lib.hid fun W hW => checkProps_any (.slice Ap np cp) x.props W B (Nat.le_trans hB (Below.size hW)) (hP.below (Below.mono hW hB))
  have hkb := hk1.2
  have H := Lib.hid h
  have HX := Lib.hid hx
  clear hV hr1 hr2 hr3 h hx hK hP hk1 hp1 hkl
  have j0 : (0 : Int) ≤ (k : Int) := by omega
  have j1 : (k : Int) < (n : Int) := by omega
  obtain ⟨wa, hwa⟩ : ∃ wa, wa = w.alloc (.cells #[.int .i64 x.id, .int .i64 x.parent, .slice Ak nk ck, .string x.text, .slice Ap np cp] 35) := ⟨_, rfl⟩
  have HBA : Hid (Below w.heap.size w wa) := by rw [hwa]; exact (Below.refl _ _).alloc (Nat.le_refl _) _
  have p0 : Blk wa w.heap.size 35 #[.int .i64 x.id, .int .i64 x.parent, .slice Ak nk ck, .string x.text, .slice Ap np cp] := by rw [hwa]; exact Blk.new w _ _
  have m0 : wa.cell? ⟨w.heap.size, 0, none⟩ = some (.int .i64 x.id) := p0.cell 0
  have m1 : wa.cell? ⟨w.heap.size, 1, none⟩ = some (.int .i64 x.parent) := p0.cell 1
  have m2 : wa.cell? ⟨w.heap.size, 2, none⟩ = some (.slice Ak nk ck) := p0.cell 2
  have m3 : wa.cell? ⟨w.heap.size, 3, none⟩ = some (.string x.text) := p0.cell 3
  have m4 : wa.cell? ⟨w.heap.size, 4, none⟩ = some (.slice Ap np cp) := p0.cell 4
  go_enter Tryz.func35, Tryz.ntmps35
  go_upto_region 2 with fail
  rw [← hwa]
  clear hwa p0
  go_cut [11] (fun s11 wc => s11 = .bool r1 ∧ wa = wc)
  case first =>
    rcases k with _ | j
    · have e := R1.out
      rw [show prevB l 0 = none from rfl] at e
      unfold rngB at e
      dsimp only at e
      obtain ⟨q1, hq1⟩ : ∃ q, (x.id != 0) = q := ⟨_, rfl⟩
      rw [hq1] at e
      subst e
      cases r1
      all_goals
        go_wp2_with fail
        go_meet
        exact ⟨rfl, rfl⟩
    · have hj : j < l.length := by have := (List.getElem?_eq_some_iff.1 HX.out).1; omega
      have e := R1.out
      rw [prevB_succ (List.getElem?_eq_getElem hj)] at e
      unfold rngB at e
      dsimp only at e
      have z0 : ¬ ((j + 1 : Nat) : Int) = 0 := by omega
      have z1 : (0 : Int) < ((j + 1 : Nat) : Int) := by omega
      have z2 : (((j + 1 : Nat) : Int) == 0) = false := by simpa using z0
      by_cases a1 : x.id < 1
      · rw [decide_eq_true a1, Bool.true_or] at e
        subst e
        go_wp2_with fail
        go_meet
        exact ⟨rfl, rfl⟩
      · by_cases a2 : 1000000 < x.id
        · rw [decide_eq_true a2, Bool.or_true] at e
          subst e
          go_wp2_with fail
          go_meet
          exact ⟨rfl, rfl⟩
        · rw [decide_eq_false a1, decide_eq_false a2] at e
          obtain rfl : r1 = false := e
          go_wp2_with fail
          go_meet
          exact ⟨rfl, rfl⟩
  case rest =>
  obtain ⟨rfl, rfl⟩ := hcut
  cases r1
  case true =>
    have hv := HV.out.trans (if_pos rfl)
    have HZ := Lib.hid hv
    clear hv
    go_wp2_with fail
    go_ret
    exact ⟨by rw [HZ.out]; rfl, HBA.out⟩
  have HV2 := Lib.hid (HV.out.trans (if_neg (by decide)))
  clear HV
  go_upto_region 4 with fail
  go_cut [33] (fun s33 wc => s33 = .bool r2 ∧ ∃ q, wc = wa.drewN q)
  case first =>
    rcases k with _ | j
    · obtain rfl : r2 = false := R2.out
      have jz : ¬ (0 : Int) < ((0 : Nat) : Int) := by omega
      go_quiet (fail)
      go_wp2_with fail
      go_meet
      exact ⟨rfl, _, rfl⟩
    · have hj : j < l.length := by have := (List.getElem?_eq_some_iff.1 HX.out).1; omega
      have hy := List.getElem?_eq_getElem hj
      obtain ⟨y, hyy⟩ : ∃ y, y = l[j] := ⟨_, rfl⟩
      rw [← hyy] at hy
      have e := R2.out
      rw [prevB_succ hy] at e
      unfold ordB at e
      dsimp only at e
      obtain ⟨b', off', Ak', nk', ck', Ap', np', cp', e2, hbb', k0, _⟩ := H.out.at_ hy
      obtain ⟨rfl, rfl⟩ : b = b' ∧ off = off' := by injection e2 with e; injection e with e1 e2; exact ⟨e1, e2⟩
      have k0 := (HBA.out.cell (p := ⟨b, off + j * 5, none⟩) (by show b < _; omega)).trans k0
      have jz : (0 : Int) < ((j + 1 : Nat) : Int) := by omega
      have jw : IntKind.i64.wrap (j : Int) = (j : Int) := IntWalk.i64_in _ (by omega)
      have jn : (j : Int) < (n : Int) := by omega
      have jp : (0 : Int) ≤ (j : Int) := by omega
      obtain ⟨q1, hq1⟩ : ∃ q, decide (x.id ≤ y.id) = q := ⟨_, rfl⟩
      rw [hq1] at e
      subst e
      clear hyy hy e2
      cases r2
      · have hq1 := of_decide_eq_false hq1
        go_quiet (fail)
        go_wp2_with fail
        go_meet
        exact ⟨rfl, _, rfl⟩
      · have hq1 := of_decide_eq_true hq1
        go_quiet (fail)
        go_wp2_with fail
        go_meet
        exact ⟨rfl, _, rfl⟩
  case rest =>
  obtain ⟨rfl, q, rfl⟩ := hcut
  have HBQ : Hid (Below w.heap.size w (wa.drewN q)) := bdrew HBA.out _
  cases r2
  case true =>
    have hv := HV2.out.trans (if_pos rfl)
    have HZ := Lib.hid hv
    clear hv
    go_wp2_with fail
    go_ret
    exact ⟨by rw [HZ.out]; rfl, HBQ.out⟩
  have HV3 := Lib.hid (HV2.out.trans (if_neg (by decide)))
  clear HV2
  go_upto_region 6 with fail
  go_cut [47] (fun s47 wc => s47 = .bool r3 ∧ wc = wa.drewN q)
  case first =>
    rcases k with _ | j
    · have e := R3.out
      rw [show prevB l 0 = none from rfl] at e
      unfold rootB at e
      dsimp only at e
      rw [← HPL.out] at e
      obtain ⟨q1, hq1⟩ : ∃ q, (!x.text.toList.isEmpty) = q := ⟨_, rfl⟩
      obtain ⟨q2, hq2⟩ : ∃ q, decide (0 < np) = q := ⟨_, rfl⟩
      obtain ⟨q3, hq3⟩ : ∃ q, (x.parent != 0) = q := ⟨_, rfl⟩
      rw [hq1, hq2, hq3] at e
      have hq2' : decide ((0 : Int) < (np : Int)) = q2 := by rw [← hq2, Bool.eq_iff_iff, decide_eq_true_iff, decide_eq_true_iff]; omega
      subst e
      clear HV3
      cases q1 <;> cases q2 <;> cases q3
      all_goals
        go_wp2_with fail
        go_meet
        exact ⟨rfl, rfl⟩
    · have hj : j < l.length := by have := (List.getElem?_eq_some_iff.1 HX.out).1; omega
      have e := R3.out
      rw [prevB_succ (List.getElem?_eq_getElem hj)] at e
      obtain rfl : r3 = false := e
      have z0 : ¬ ((j + 1 : Nat) : Int) = 0 := by omega
      have z2 : (((j + 1 : Nat) : Int) == 0) = false := by simpa using z0
      go_wp2_with fail
      go_meet
      exact ⟨rfl, rfl⟩
  case rest =>
  obtain ⟨rfl, rfl⟩ := hcut
  cases r3
  case true =>
    have hv := HV3.out.trans (if_pos rfl)
    have HZ := Lib.hid hv
    clear hv
    go_wp2_with fail
    go_ret
    exact ⟨by rw [HZ.out]; rfl, HBQ.out⟩
  have HV4 := Lib.hid (HV3.out.trans (if_neg (by decide)))
  clear HV3
  obtain ⟨tx, htx⟩ : ∃ tx, tx = txErr x.text := ⟨_, rfl⟩
  rw [← htx] at HT HV4
  clear htx
  by_cases hz : tx = 0
  case neg =>
    have HZ := Lib.hid (HV4.out.trans (if_pos hz))
    have hz' : (tx != 0) = true := by simpa using hz
    clear hz
    go_wp2_with fail
    refine (HT.out _).mono ?_
    rintro e w1 ⟨rfl, rfl⟩
    go_wp2_with fail
    go_ret
    exact ⟨by rw [HZ.out]; rfl, HBQ.out⟩
  have HV5 := Lib.hid (HV4.out.trans (if_neg (fun e => e hz)))
  subst hz
  clear HV4
  by_cases hl : 500 < nk
  case pos =>
    have HZ := Lib.hid (HV5.out.trans (if_pos hl))
    have hl' : (500 : Int) < (nk : Int) := by omega
    go_wp2_with fail
    refine (HT.out _).mono ?_
    rintro e w1 ⟨rfl, rfl⟩
    go_wp2_with fail
    go_ret
    exact ⟨by rw [HZ.out]; rfl, HBQ.out⟩
  have HV6 := Lib.hid (HV5.out.trans (if_neg hl))
  have hl' : ¬ (500 : Int) < (nk : Int) := by omega
  clear HV5
  go_wp2_with fail
  refine (HT.out _).mono ?_
  rintro e w1 ⟨rfl, rfl⟩
  go_wp2_with fail
  refine (HCP.out _ HBQ.out).mono ?_
  rintro e w1 ⟨rfl, hb⟩
  have HB2 := Lib.hid (HBQ.out.trans (hb.mono HBQ.out.size))
  clear hb
  rw [← HV6.out]
  go_wp2_with fail
  go_ret
  exact ⟨rfl, HB2.out⟩
end Go.Proofs.YtemngidkfgcigaaGreatDoor
