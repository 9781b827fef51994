/-
  DERIVED. The walk of prop.CheckProps. Conditions: sizes.
  Plain law: properties as a text; where its lines and names end. Conditions: none.
  By an AI agent.
-/
import Derived.Test.YtbdcimakdiegnaaGreatDoorVa13
import Derived.Laws.Cover1
import Derived.Test.YtbdcimakdiegnaaGreatDoorVa17
namespace Go.Proofs.YtbdcimakdiegnaaGreatDoor
open Go.RowKit

/-- is a name not behind another -/
def strLe (a b : ByteArray) : Bool := Op.bytesLess a.toList b.toList || (a.toList == b.toList)
def lePrev : Option ByteArray → ByteArray → Bool
  | none, _ => false
  | some q, a => strLe a q
/-- the error of properties behind a name -/
def prsErr : Option ByteArray → List Pr → Int
  | _, [] => 0
  | p, x :: l => if nmErr x.name ≠ 0 then nmErr x.name else if lePrev p x.name = true then 5 else if (x.val.kind == 0) = true then 10 else if vErr x.val ≠ 0 then vErr x.val else prsErr (some x.name) l
/-- the error of a list of properties -/
def cpErr (l : List Pr) : Int := if 20 < l.length then 4 else prsErr none l
def prevOf (l : List Pr) (k : Nat) : Option ByteArray := if k = 0 then none else (l[k - 1]?).map (·.name)
theorem prevOf_succ {l : List Pr} {k : Nat} {x : Pr} (h : l[k]? = some x) : prevOf l (k + 1) = some x.name := by
  unfold prevOf; rw [if_neg (by omega), Nat.add_sub_cancel, h]; rfl
theorem prsErr_at {l : List Pr} {k : Nat} {x : Pr} (h : l[k]? = some x) : prsErr (prevOf l k) (l.drop k) = if nmErr x.name ≠ 0 then nmErr x.name else if lePrev (prevOf l k) x.name = true then 5 else if (x.val.kind == 0) = true then 10 else if vErr x.val ≠ 0 then vErr x.val else prsErr (prevOf l (k + 1)) (l.drop (k + 1)) := by
  rw [prevOf_succ h]
  obtain ⟨hk, e⟩ := List.getElem?_eq_some_iff.1 h
  rw [List.drop_eq_getElem_cons hk, prsErr, e]
theorem nmErr_ways (s : ByteArray) : nmErr s = 0 ∨ nmErr s = 3 := by
  unfold nmErr; split <;> simp

set_option maxHeartbeats 4000000 in
theorem checkProps_walk (M : List (Pr × Value)) (A : Option Addr) (n c : Nat) (w : World) (B : Nat) (hB : B ≤ w.heap.size) (h1 : Reads w B 6 A n (M.flatMap prV)) (hn : n = M.length) (hbig : n ≤ 140737488351232)
    (hs1 : ∀ x ∈ M, ∃ A n c, x.2 = .slice A n c)
    (hcl : ∀ x ∈ M, ∀ W, Below w.heap.size w W → Calls Tryz.prog 16 #[AV (x.1.val, x.2)] W fun e w' => e = .returned (.int .i64 (vErr x.1.val)) ∧ Below W.heap.size W w') :
    Calls Tryz.prog 24 #[.slice A n c] w fun e w' => e = .returned (.int .i64 (cpErr (M.map Prod.fst))) ∧ Below w.heap.size w w' := by
  obtain ⟨V, hV⟩ : ∃ V, V = cpErr (M.map Prod.fst) := ⟨_, rfl⟩
  rw [← hV]
  unfold cpErr at hV
  rw [List.length_map, ← hn] at hV
  by_cases hl : 20 < n
  · rw [if_pos hl] at hV
    have hl' : (20 : Int) < (n : Int) := by omega
    subst hV
    clear h1 hn hcl hs1 hl
    go_enter Tryz.func24, Tryz.ntmps24
    go_wp2_with fail
    go_ret
    exact ⟨rfl, Below.refl _ _⟩
  rw [if_neg hl] at hV
  have hl' : ¬ (20 : Int) < (n : Int) := by omega
  have H1 := Lib.hid h1
  have HN := Lib.hid hn
  have HC := Lib.hid hcl
  have S1 := Lib.hid hs1
  have HV := Lib.hid hV
  clear h1 hn hcl hs1 hl hV
  go_enter Tryz.func24, Tryz.ntmps24
  go_wp2_with fail
  go_loopg [12] n (fun gg s12 wr => ∃ k : Nat, k + gg = n ∧ s12 = .int .i64 (k : Int) ∧ Hid (V = prsErr (prevOf (M.map Prod.fst) k) ((M.map Prod.fst).drop k)) ∧ Hid (Below w.heap.size w wr))
  case atStart => exact ⟨0, by omega, rfl, HV, Below.refl _ _⟩
  case round =>
    obtain ⟨k, hkg, rfl, hno, hbel⟩ := hrel
    by_cases hk : k < n
    · obtain ⟨x, hx⟩ : ∃ x, M[k]? = some x := ⟨_, List.getElem?_eq_getElem (by have := HN.out; omega)⟩
      obtain ⟨b, off, rfl, hbb, hc⟩ := H1.out.plain_at (by omega) prV_len HN.out hx
      have HX : Hid (∀ W, Below wr.heap.size wr W → Calls _ _ #[AV (x.1.val, x.2)] W _) := fun W hW => HC.out x (List.mem_of_getElem? hx) W (hbel.out.trans (hW.mono hbel.out.size))
      have hst := hno.out.trans (prsErr_at (k := k) (x := x.1) (by rw [List.getElem?_map, hx]; rfl))
      obtain ⟨e0, he0⟩ : ∃ q, (x.1.val.kind == 0) = q := ⟨_, rfl⟩
      rw [he0] at hst
      have HKX := Lib.hid hx
      obtain ⟨⟨nm, ⟨kx, ix, tx, sx, lx⟩⟩, vx⟩ := x
      obtain ⟨Ax, nx, cx, rfl⟩ := S1.out _ (List.mem_of_getElem? hx)
      have g0 := (hbel.out.cell (p := ⟨b, off + k * 6, none⟩) (by show b < _; omega)).trans (hc 0 _ rfl)
      have g1 := (hbel.out.cell (p := ⟨b, off + k * 6 + 1, none⟩) (by show b < _; omega)).trans (hc 1 _ rfl)
      have g2 := (hbel.out.cell (p := ⟨b, off + k * 6 + 2, none⟩) (by show b < _; omega)).trans (hc 2 _ rfl)
      have g3 := (hbel.out.cell (p := ⟨b, off + k * 6 + 3, none⟩) (by show b < _; omega)).trans (hc 3 _ rfl)
      have g4 := (hbel.out.cell (p := ⟨b, off + k * 6 + 4, none⟩) (by show b < _; omega)).trans (hc 4 _ rfl)
      have g5 := (hbel.out.cell (p := ⟨b, off + k * 6 + 5, none⟩) (by show b < _; omega)).trans (hc 5 _ rfl)
      have j0 : (0 : Int) ≤ (k : Int) := by omega
      have j1 : (k : Int) < (n : Int) := by omega
      clear hx hc
      dsimp only [AV, Vl.kind, Vl.int_, Vl.to_, Vl.text] at HX g0 g1 g2 g3 g4 g5 he0
      have hst' : V = if nmErr nm ≠ 0 then nmErr nm else if lePrev (prevOf (M.map Prod.fst) k) nm = true then 5 else if e0 = true then 10 else if vErr (.mk kx ix tx sx lx) ≠ 0 then vErr (.mk kx ix tx sx lx) else prsErr (prevOf (M.map Prod.fst) (k + 1)) ((M.map Prod.fst).drop (k + 1)) := hst
      clear hst
      obtain ⟨vk, hvk⟩ : ∃ v, v = vErr (Vl.mk kx ix tx sx lx) := ⟨_, rfl⟩
      rw [← hvk] at hst'
      simp only [← hvk] at HX
      clear hvk
      have HCN := Lib.hid fun W => checkName_any nm W
      have hal : Below wr.heap.size wr (wr.alloc (.cells #[.string nm, .int .i64 kx, .int .i64 ix, .int .i64 tx, .string sx, .slice Ax nx cx] 60)) := (Below.refl _ _).alloc (Nat.le_refl _) _
      have HBA := Lib.hid (hbel.out.trans (hal.mono hbel.out.size))
      rcases nmErr_ways nm with e3 | e3
      case inr =>
        rw [e3] at hst' HCN
        have HV := Lib.hid (hst'.trans (if_pos (by decide)))
        clear hst' e3 hal
        go_wp2_with fail
        refine (HCN.out _).mono ?_
        rintro e w1 ⟨rfl, rfl⟩
        go_wp2_with fail
        go_ret
        exact ⟨by rw [HV.out]; rfl, HBA.out⟩
      rw [e3] at hst' HCN
      have hst := hst'.trans (if_neg (by decide))
      clear hst' e3
      obtain ⟨le, hle⟩ : ∃ q, q = lePrev (prevOf (M.map Prod.fst) k) nm := ⟨_, rfl⟩
      rw [← hle] at hst
      have HLE := Lib.hid hle
      have HST := Lib.hid hst
      clear hle hst
      have HAL := Lib.hid hal
      clear hal
      go_wp2_with fail
      refine (HCN.out _).mono ?_
      rintro e w1 ⟨rfl, rfl⟩
      go_wp2_with fail
      go_cut [23] (fun s23 wc => s23 = .bool le ∧ ∃ q, wc = (wr.alloc (.cells #[.string nm, .int .i64 kx, .int .i64 ix, .int .i64 tx, .string sx, .slice Ax nx cx] 60)).drewN q)
      case first =>
        rcases k with _ | j
        · have e := HLE.out
          obtain rfl : le = false := e
          have jz : ¬ (0 : Int) < ((0 : Nat) : Int) := by omega
          go_quiet (fail)
          go_wp2_with fail
          go_meet
          exact ⟨rfl, _, rfl⟩
        · obtain ⟨y, hy⟩ : ∃ y, M[j]? = some y := ⟨_, List.getElem?_eq_getElem (by have := HN.out; omega)⟩
          obtain ⟨b', off', e, hbb', hc⟩ := H1.out.plain_at (by omega) prV_len HN.out hy
          obtain ⟨rfl, rfl⟩ : b = b' ∧ off = off' := by injection e with e; injection e with e1 e2; exact ⟨e1, e2⟩
          have k0 := (HBA.out.cell (p := ⟨b, off + j * 6, none⟩) (by show b < _; omega)).trans (hc 0 _ rfl)
          have e := HLE.out
          rw [prevOf_succ (x := y.1) (by rw [List.getElem?_map, hy]; rfl)] at e
          unfold lePrev strLe at e
          obtain ⟨q1, hq1⟩ : ∃ q, Op.bytesLess nm.toList y.1.name.toList = q := ⟨_, rfl⟩
          obtain ⟨q2, hq2⟩ : ∃ q, (nm.toList == y.1.name.toList) = q := ⟨_, rfl⟩
          dsimp only at e
          rw [hq1, hq2] at e
          subst e
          clear hc hy
          obtain ⟨⟨ynm, yvl⟩, yv⟩ := y
          dsimp only at hq1 hq2 k0
          have jz : (0 : Int) < ((j + 1 : Nat) : Int) := by omega
          have jw : IntKind.i64.wrap (j : Int) = (j : Int) := IntWalk.i64_in _ (by omega)
          have jn : (j : Int) < (n : Int) := by omega
          have jp : (0 : Int) ≤ (j : Int) := by omega
          go_quiet (fail)
          go_wp2_with fail
          go_meet
          exact ⟨rfl, _, rfl⟩
      case rest =>
      obtain ⟨rfl, q, rfl⟩ := hcut
      have HBQ : Hid (Below w.heap.size w ((wr.alloc (.cells #[.string nm, .int .i64 kx, .int .i64 ix, .int .i64 tx, .string sx, .slice Ax nx cx] 60)).drewN q)) := bdrew HBA.out _
      cases le
      case true =>
        have HV := Lib.hid (HST.out.trans (if_pos rfl))
        clear HST
        go_wp2_with fail
        go_ret
        exact ⟨by rw [HV.out]; rfl, HBQ.out⟩
      cases e0
      case true =>
        have HV := Lib.hid (HST.out.trans ((if_neg (by decide)).trans (if_pos rfl)))
        clear HST
        go_wp2_with fail
        go_ret
        exact ⟨by rw [HV.out]; rfl, HBQ.out⟩
      have hst := HST.out.trans ((if_neg (by decide)).trans (if_neg (by decide)))
      have HX' := Lib.hid (HX.out _ (bdrew HAL.out q))
      clear HST
      by_cases hz : vk = 0
      · have HV := Lib.hid (hst.trans (if_neg (fun e => e hz)))
        subst hz
        clear hst
        go_wp2_with fail
        refine HX'.out.mono ?_
        rintro e w5 ⟨rfl, hb⟩
        have HB5 : Hid (Below w.heap.size w w5) := HBQ.out.trans (hb.mono HBQ.out.size)
        clear hb
        go_wp2_with fail
        go_roundg (n - (k + 1))
        case measure => omega
        case rel => exact ⟨k + 1, by omega, by go_num, HV, HB5⟩
      · have HV := Lib.hid (hst.trans (if_pos hz))
        have hz' : (vk != 0) = true := by simpa using hz
        clear hst hz
        go_wp2_with fail
        refine HX'.out.mono ?_
        rintro e w5 ⟨rfl, hb⟩
        have HB5 : Hid (Below w.heap.size w w5) := HBQ.out.trans (hb.mono HBQ.out.size)
        clear hb
        go_wp2_with fail
        go_ret
        exact ⟨by rw [HV.out]; rfl, HB5.out⟩
    · obtain rfl : k = n := by omega
      have hz : V = 0 := hno.out.trans (by rw [List.drop_of_length_le (by rw [List.length_map, ← HN.out]; exact Nat.le_refl _), prsErr])
      have HZ := Lib.hid hz
      clear hz
      go_wp2_with fail
      go_ret
      exact ⟨by rw [HZ.out]; rfl, hbel.out⟩
/-- prop.CheckProps -/
theorem checkProps_any (v : Value) (l : List Pr) (w : World) (B : Nat) (hB : B ≤ w.heap.size) (h : RPr w B v l) :
    Calls Tryz.prog 24 #[v] w fun e w' => e = .returned (.int .i64 (cpErr l)) ∧ Below w.heap.size w w' := by
  obtain ⟨A, n, c, M, rfl, rfl, h3, h4, h5, h6⟩ := h
  refine checkProps_walk M A n c w B hB h5 h3 (by omega) (fun z hz => (h6 z hz).slice) fun z hz W hW => ?_
  obtain ⟨d, hd⟩ := h6 z hz
  exact checkValue_any d (z.1.val, z.2) W B (Nat.le_trans hB hW.size) (hd.below (hW.mono hB))
end Go.Proofs.YtbdcimakdiegnaaGreatDoor
namespace Go.Proofs.YtbdcimakdiegnaaGreatDoor
open cal

/-- a property's line -/
noncomputable def lineL (p : Pr) : List UInt8 := p.name.data.toList ++ 58 :: 58 :: 32 :: tx p.val
/-- properties as a text -/
noncomputable def ptL : List Pr → List UInt8
  | [] => []
  | p :: l => lineL p ++ 10 :: ptL l
theorem ctl_byte {s : ByteArray} (h : ctl s = false) : ∀ b ∈ s.data.toList, b ≠ 10 := by
  rintro b hb rfl
  unfold ctl at h
  rw [List.any_eq_false] at h
  exact h 10 hb rfl
theorem vErr_ctl {v : Vl} (h : vErr v = 0) : ctl v.text = false := by
  obtain ⟨⟨hk0, hk7⟩, hnu, ht, hl, hit⟩ := vErr_zero h
  have hu : ufB v = true := by
    rw [vErr_eq] at h
    cases h1 : ufB v
    · rw [h1, if_neg (by unfold outI; rw [decide_eq_false (by omega)]; decide), if_pos rfl] at h
      cases h
    · rfl
  have htt : ttErr (v.kind == 6) v.text = 0 := by
    rw [vErr_eq, if_neg (by unfold outI; rw [decide_eq_false (by omega)]; decide), if_neg (by rw [hu]; decide), if_neg (fun e => e hnu)] at h
    by_cases h2 : ttErr (v.kind == 6) v.text = 0
    · exact h2
    · rw [if_pos h2] at h; exact absurd h h2
  unfold ttErr at htt
  rw [if_neg (by omega)] at htt
  cases q3 : ctl v.text
  · rfl
  · rw [q3] at htt
    by_cases q2 : (v.kind == 6) = true ∧ 100 < v.text.size
    · rw [if_pos q2] at htt; cases htt
    · rw [if_neg q2, if_pos rfl] at htt; cases htt
theorem dg_nl {l : List UInt8} (h : l.all isDg = true) : ∀ b ∈ l, b ≠ 10 := by
  rintro b hb rfl
  have := List.all_eq_true.1 h _ hb
  cases this
theorem itoa_nl (i : Int) : ∀ b ∈ Lib.itoa i, b ≠ 10 := by
  intro b hb
  rcases itoa_two i with ⟨_, e⟩ | ⟨_, e⟩
  · rw [e] at hb
    rcases List.mem_cons.1 hb with rfl | hb
    · decide
    · exact dg_nl (dd_dg _) b hb
  · rw [e] at hb
    exact dg_nl (dd_dg _) b hb
theorem dat_nl {d : Int} (h : 0 ≤ d) (h' : d ≤ 100000) : ∀ b ∈ datL d, b ≠ 10 := by
  obtain ⟨a0, a1, a2, a3, b0, b1, c0, c1, e, hd, _⟩ := dat_ten h h'
  intro b hb
  rw [e] at hb
  have hm : b = 45 ∨ b ∈ [a0, a1, a2, a3] ++ [b0, b1] ++ [c0, c1] := by
    simp only [List.mem_cons, List.not_mem_nil, or_false] at hb
    simp only [List.mem_append, List.mem_cons, List.not_mem_nil, or_false]
    rcases hb with h | h | h | h | h | h | h | h | h | h <;> simp [h]
  rcases hm with rfl | hm
  · decide
  · exact dg_nl hd b hm
theorem esc_nl {l : List UInt8} (h : ∀ b ∈ l, b ≠ 10) : ∀ b ∈ escL l, b ≠ 10 := by
  intro b hb
  unfold escL at hb
  rw [List.mem_flatMap] at hb
  obtain ⟨c, hc, hb⟩ := hb
  unfold escB at hb
  split at hb
  · simp at hb
    rcases hb with rfl | rfl <;> decide
  · split at hb
    · simp at hb
      rcases hb with rfl | rfl <;> decide
    · simp at hb
      subst hb
      exact h b hc
theorem mem_join {sep : List UInt8} {b : UInt8} : ∀ {xs : List (List UInt8)}, b ∈ Lib.join xs sep → b ∈ sep ∨ ∃ x ∈ xs, b ∈ x
  | [], h => by simp [Lib.join_nil] at h
  | [x], h => by
    rw [Lib.join_one] at h
    exact .inr ⟨x, by simp, h⟩
  | x :: y :: r, h => by
    have hj : Lib.join (x :: y :: r) sep = x ++ (sep ++ Lib.join (y :: r) sep) := by
      rw [Lib.join_cons, Lib.join_cons]
      simp [Lib.joinTail]
    rw [hj] at h
    rcases List.mem_append.1 h with h | h
    · exact .inr ⟨x, by simp, h⟩
    · rcases List.mem_append.1 h with h | h
      · exact .inl h
      · rcases mem_join h with h | ⟨z, hz, h⟩
        · exact .inl h
        · exact .inr ⟨z, List.mem_cons_of_mem _ hz, h⟩
theorem tx_nl1 {v : Vl} (h : vErr v = 0) (h7 : v.kind ≠ 7) : ∀ b ∈ tx v, b ≠ 10 := by
  have hc := vErr_ctl h
  rcases right_forms h with rfl | ⟨i, rfl, h0, h1⟩ | ⟨i, rfl, h0⟩ | ⟨s, rfl⟩ | ⟨i, rfl, h0, h1⟩ | ⟨i, t, rfl, ⟨h0, h1⟩, g0, g1⟩ | ⟨s, rfl, h0⟩ | ⟨l, rfl, h0⟩
  · intro b hb
    have : b = 45 := by simpa [tx, show wrV (vI 0 0 0) = ⟨#[45]⟩ from rfl] using hb
    subst this; decide
  · rcases (show i = 0 ∨ i = 1 by omega) with rfl | rfl
    · intro b hb
      have : b = 110 ∨ b = 111 := by simpa [tx, show wrV (vI 1 0 0) = ⟨#[110, 111]⟩ from rfl] using hb
      rcases this with rfl | rfl <;> decide
    · intro b hb
      have : b = 121 ∨ b = 101 ∨ b = 115 := by simpa [tx, show wrV (vI 1 1 0) = ⟨#[121, 101, 115]⟩ from rfl] using hb
      rcases this with rfl | rfl | rfl <;> decide
  · exact itoa_nl i
  · intro b hb
    have hb : b ∈ 34 :: escL s.data.toList ++ [34] := hb
    rcases List.mem_append.1 hb with hb | hb
    · rcases List.mem_cons.1 hb with rfl | hb
      · decide
      · exact esc_nl (ctl_byte hc) b hb
    · simp at hb; subst hb; decide
  · exact dat_nl h0 h1
  · intro b hb
    have e2 : tx (vI 5 i t) = datL i ++ (46 :: 46 :: datL t) := by
      show (dtS i ++ ⟨#[46, 46]⟩ ++ dtS t : ByteArray).data.toList = _
      simp [dtS]
    rw [e2] at hb
    rcases List.mem_append.1 hb with hb | hb
    · exact dat_nl h0 h1 b hb
    · rcases List.mem_cons.1 hb with rfl | hb
      · decide
      · rcases List.mem_cons.1 hb with rfl | hb
        · decide
        · exact dat_nl g0 g1 b hb
  · intro b hb
    rw [tx_link] at hb
    rcases List.mem_cons.1 hb with rfl | hb
    · decide
    · rcases List.mem_cons.1 hb with rfl | hb
      · decide
      · rcases List.mem_append.1 hb with hb | hb
        · exact ctl_byte hc b hb
        · simp at hb
          subst hb; decide
  · exact absurd rfl h7
theorem tx_nl {v : Vl} (h : vErr v = 0) : ∀ b ∈ tx v, b ≠ 10 := by
  by_cases h7 : v.kind = 7
  · rcases right_forms h with rfl | ⟨i, rfl, h0, h1⟩ | ⟨i, rfl, h0⟩ | ⟨s, rfl⟩ | ⟨i, rfl, h0, h1⟩ | ⟨i, t, rfl, ⟨h0, h1⟩, g0, g1⟩ | ⟨s, rfl, h0⟩ | ⟨l, rfl, hi, _⟩
    · cases h7
    · cases h7
    · cases h7
    · cases h7
    · cases h7
    · cases h7
    · cases h7
    · have e0 : tx (.mk 7 0 0 ⟨#[]⟩ l) = 91 :: (Lib.join (l.map tx) [44, 32] ++ [93]) := by
        show (wrV _).data.toList = _
        rw [wrV_eq]
        show ((⟨#[91]⟩ : ByteArray) ++ joinB (l.map wrV) ⟨#[44, 32]⟩ ++ ⟨#[93]⟩).data.toList = _
        unfold joinB
        simp only [List.map_map]
        rw [show ((fun x : ByteArray => x.data.toList) ∘ wrV) = tx from rfl]
        simp
      intro b hb
      rw [e0] at hb
      rcases List.mem_cons.1 hb with rfl | hb
      · decide
      · rcases List.mem_append.1 hb with hb | hb
        · rcases mem_join hb with hb | ⟨x, hx, hb⟩
          · simp at hb
            rcases hb with rfl | rfl <;> decide
          · obtain ⟨y, hy, rfl⟩ := List.mem_map.1 hx
            obtain ⟨hv, h7', _⟩ := itErr_mem hi y hy
            exact tx_nl1 hv h7' b hb
        · simp at hb
          subst hb; decide
  · exact tx_nl1 h h7
end Go.Proofs.YtbdcimakdiegnaaGreatDoor
