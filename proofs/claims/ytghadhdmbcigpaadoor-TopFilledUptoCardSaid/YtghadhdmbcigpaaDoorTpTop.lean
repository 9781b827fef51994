/-
  DERIVED. The walk of flortop.TopFilled: it returns true. Conditions: sizes; the table of powers of ten is laid. By an AI agent.
-/
import Derived.Test.YtghadhdmbcigpaaDoorTpLaw
namespace Go.Proofs.YtghadhdmbcigpaaDoor
open Go.RowKit

set_option maxHeartbeats 1000000 in
theorem awakeTop_any (w : World) : Calls Tryd.prog 9 #[] w fun e w' => e = .returned (.bool true) ∧ Below w.heap.size w w' := by
  go_enter Tryd.func9, Tryd.ntmps9
  go_wp2_with fail
  refine (ruleText_zero _).mono ?_
  rintro e w1 ⟨rfl, hb⟩
  go_wp2_with fail
  go_ret
  exact ⟨rfl, hb⟩

/-- a part, its name, its value -/
structure It where
  part : ByteArray
  name : ByteArray
  val : ByteArray
def segs (L : List It) : List Seg := L.map fun x => (x.part, x.name)
def prs (L : List It) : List Pr := L.map fun x => (x.name, x.val)
def want : List It → ByteArray
  | [] => ⟨#[]⟩
  | x :: r => x.part ++ (x.val ++ want r)
theorem want_app : ∀ A B : List It, want (A ++ B) = want A ++ want B
  | [], B => (nil_app _).symm
  | x :: r, B => by rw [List.cons_append, want, want_app r B, want]; simp only [ByteArray.append_assoc]
theorem tpl_app : ∀ (A B : List Seg) (z : ByteArray), tpl (A ++ B) z = tpl A ⟨#[]⟩ ++ tpl B z
  | [], B, z => (nil_app _).symm
  | x :: r, B, z => by rw [List.cons_append, tpl, tpl_app r B z, tpl]; simp only [ByteArray.append_assoc]
theorem isNm_iff (n : ByteArray) (x : Pr) : isNm n x = true ↔ x.1 = n := by
  unfold isNm
  constructor
  · intro h; exact tl_inj (by simpa using h)
  · intro h; rw [h]; simp
theorem val_at : ∀ (L : List It) (x : It), (L.map (·.name)).Nodup → x ∈ L → valOf (prs L) x.name = x.val
  | [], x, _, h => by cases h
  | y :: r, x, hn, h => by
    rw [List.map_cons, List.nodup_cons] at hn
    unfold valOf
    rw [prs, List.map_cons, List.find?_cons]
    rcases List.mem_cons.1 h with rfl | h
    · rw [show isNm x.name (x.name, x.val) = true from (isNm_iff _ _).2 rfl]
    · have hne : isNm x.name (y.name, y.val) = false := by
        cases hh : isNm x.name (y.name, y.val)
        · rfl
        · have e : y.name = x.name := (isNm_iff _ _).1 hh
          exact absurd (by rw [e]; exact List.mem_map.2 ⟨x, h, rfl⟩) hn.1
      rw [hne]
      have := val_at r x hn.2 h
      unfold valOf prs at this
      exact this
theorem filled_want (L : List It) (hn : (L.map (·.name)).Nodup) : filled (prs L) (segs L) ⟨#[]⟩ = want L := by
  have key : ∀ M : List It, (∀ x ∈ M, x ∈ L) → filled (prs L) (segs M) ⟨#[]⟩ = want M := by
    intro M
    induction M with
    | nil => intro _; rfl
    | cons x r ih =>
      intro h
      show x.part ++ (valOf (prs L) x.name ++ filled (prs L) (segs r) ⟨#[]⟩) = x.part ++ (x.val ++ want r)
      rw [val_at L x hn (h x (List.mem_cons_self)), ih (fun y hy => h y (List.mem_cons_of_mem _ hy))]
  exact key L (fun _ h => h)
theorem no_one {s : ByteArray} (h : Lib.indexByte s.data.toList 123 = -1) : ∀ i, bt s i ≠ 123 := by
  have h1 := indexByte_upto s 123 s.size 0 (by omega)
  rw [List.drop_zero, h] at h1
  intro i hi
  have his : i < s.size := bt_in (by omega)
  by_cases hu : upto (isC (123 : UInt8).toNat) s 0 < s.size
  · rw [if_pos hu] at h1; omega
  · have := upto_mid (stop := isC (123 : UInt8).toNat) (s := s) (Nat.zero_le i) (by omega)
    rw [hi] at this
    exact absurd this (by decide)
/-- the name of a field -/
def nmI (i : Nat) : ByteArray := ⟨#[118, UInt8.ofNat (97 + i)]⟩
theorem okN_I {i : Nat} (h : i < 8) : okN (nmI i) := by
  refine ⟨by show 0 < 2; omega, by show 2 ≤ 20; omega, fun j hj => ?_⟩
  have hj2 : j < 2 := hj
  have hi : i = 0 ∨ i = 1 ∨ i = 2 ∨ i = 3 ∨ i = 4 ∨ i = 5 ∨ i = 6 ∨ i = 7 := by omega
  rcases hi with rfl | rfl | rfl | rfl | rfl | rfl | rfl | rfl <;> (rcases (by omega : j = 0 ∨ j = 1) with rfl | rfl <;> decide)
theorem nmI_inj {i j : Nat} (h : i < 8) (hj : j < 8) (e : nmI i = nmI j) : i = j := by
  have h1 : bt (nmI i) 1 = bt (nmI j) 1 := by rw [e]
  have hi : i = 0 ∨ i = 1 ∨ i = 2 ∨ i = 3 ∨ i = 4 ∨ i = 5 ∨ i = 6 ∨ i = 7 := by omega
  have hj : j = 0 ∨ j = 1 ∨ j = 2 ∨ j = 3 ∨ j = 4 ∨ j = 5 ∨ j = 6 ∨ j = 7 := by omega
  rcases hi with rfl | rfl | rfl | rfl | rfl | rfl | rfl | rfl <;> rcases hj with rfl | rfl | rfl | rfl | rfl | rfl | rfl | rfl <;> first | rfl | exact absurd h1 (by decide)

set_option maxHeartbeats 8000000 in
set_option maxRecDepth 100000 in
theorem topFilled_any (ps vs : List ByteArray) (A1 A2 : Option Addr) (n1 c1 n2 c2 : Nat) (d : Int) (w : World) (hr1 : Reads w w.heap.size 1 A1 n1 (ps.map .string)) (hr2 : Reads w w.heap.size 1 A2 n2 (vs.map .string)) (hl1 : n1 = ps.length) (hl2 : n2 = vs.length)
    (hs1 : ∀ x ∈ ps, x.size ≤ 1048576) (hs2 : ∀ x ∈ vs, x.size ≤ 1048576) (hP : Pow w) :
    Calls Tryd.prog 4 #[.slice A1 n1 c1, .slice A2 n2 c2, .int .i64 d] w fun e w' => e = .returned (.bool true) ∧ Below w.heap.size w w' := by
  have HR1 := Lib.hid hr1
  have HR2 := Lib.hid hr2
  have HL1 := Lib.hid hl1
  have HL2 := Lib.hid hl2
  have HS1 := Lib.hid hs1
  have HS2 := Lib.hid hs2
  have HPW := Lib.hid hP
  have HPW' := Lib.hid hP
  clear hr1 hr2 hl1 hl2 hs1 hs2 hP
  obtain ⟨i0, hi, hz0, hz1, hz2⟩ := info_parts pr_info
  by_cases hbad : n2 < n1 ∨ 8 < n1 ∨ d < 0 ∨ 100000 < d
  · clear HR1 HR2 HL1 HL2 HS1 HS2 HPW HPW'
    by_cases b1 : n2 < n1
    · have i1 : (n2 : Int) < (n1 : Int) := by omega
      have i1n : decide (n2 < n1) = true := decide_eq_true b1
      clear hbad
      go_enter Tryd.func4, Tryd.ntmps4
      go_wp2_with fail
      refine (awakeTop_any _).mono ?_
      rintro e w1 ⟨rfl, hb1⟩
      have HB1 := Lib.hid hb1
      clear hb1
      go_wp2_with fail
      go_ret
      exact ⟨rfl, HB1.out⟩
    by_cases b2 : 8 < n1
    · have i1 : ¬ (n2 : Int) < (n1 : Int) := by omega
      have i1n : decide (n2 < n1) = false := decide_eq_false b1
      have i2 : (8 : Int) < (n1 : Int) := by omega
      clear hbad
      go_enter Tryd.func4, Tryd.ntmps4
      go_wp2_with fail
      refine (awakeTop_any _).mono ?_
      rintro e w1 ⟨rfl, hb1⟩
      have HB1 := Lib.hid hb1
      clear hb1
      go_wp2_with fail
      go_ret
      exact ⟨rfl, HB1.out⟩
    by_cases b3 : d < 0
    · have i1 : ¬ (n2 : Int) < (n1 : Int) := by omega
      have i1n : decide (n2 < n1) = false := decide_eq_false b1
      have i2 : ¬ (8 : Int) < (n1 : Int) := by omega
      clear hbad
      go_enter Tryd.func4, Tryd.ntmps4
      go_wp2_with fail
      refine (awakeTop_any _).mono ?_
      rintro e w1 ⟨rfl, hb1⟩
      have HB1 := Lib.hid hb1
      clear hb1
      go_wp2_with fail
      go_ret
      exact ⟨rfl, HB1.out⟩
    have b4 : 100000 < d := by omega
    · have i1 : ¬ (n2 : Int) < (n1 : Int) := by omega
      have i1n : decide (n2 < n1) = false := decide_eq_false b1
      have i2 : ¬ (8 : Int) < (n1 : Int) := by omega
      clear hbad
      go_enter Tryd.func4, Tryd.ntmps4
      go_wp2_with fail
      refine (awakeTop_any _).mono ?_
      rintro e w1 ⟨rfl, hb1⟩
      have HB1 := Lib.hid hb1
      clear hb1
      go_wp2_with fail
      go_ret
      exact ⟨rfl, HB1.out⟩
  have q1 : n1 ≤ n2 := by omega
  have q2 : n1 ≤ 8 := by omega
  have q3 : 0 ≤ d := by omega
  have q4 : d ≤ 100000 := by omega
  have i1 : ¬ (n2 : Int) < (n1 : Int) := by omega
  have i1n : decide (n2 < n1) = false := decide_eq_false (by omega)
  have i2 : ¬ (8 : Int) < (n1 : Int) := by omega
  have i3 : ¬ d < 0 := by omega
  have i4 : ¬ 100000 < d := by omega
  clear hbad
  go_enter Tryd.func4, Tryd.ntmps4
  go_wp2_with fail
  refine (awakeTop_any _).mono ?_
  rintro e w1 ⟨rfl, hb1⟩
  have HB1 := Lib.hid hb1
  have HP1 := Lib.hid (HPW.out.below hb1)
  clear hb1 HPW
  go_wp2_with fail
  go_loopg [7, 8, 9, 37] n1 (fun gg s7 s8 s9 s37 wr => ∃ (i : Nat) (L : List It), i + gg = n1 ∧ s37 = .int .i64 (i : Int) ∧ s7 = .string (tpl (segs L) ⟨#[]⟩) ∧ s8 = .string (want L) ∧ Hid (L.length = i ∧ L.map (·.name) = (List.range i).map nmI ∧ (∀ x ∈ L, okT x.part) ∧ (tpl (segs L) ⟨#[]⟩).size ≤ i * 1048582 ∧ (want L).size ≤ i * 2097152) ∧ wr.ownsRow w.heap.size 28 2 s9 i (rowsV (prs L)) ∧ Below w.heap.size w wr)
  case atStart => exact ⟨0, [], by omega, rfl, rfl, rfl, ⟨rfl, rfl, by simp, Nat.zero_le _, Nat.zero_le _⟩, World.ownsRow_nil _ _ _ _, HB1.out⟩
  case round =>
    obtain ⟨i, L, hig, rfl, rfl, rfl, hL, hown, hbel⟩ := hrel
    by_cases hk : i < n1
    · obtain ⟨p, hp⟩ : ∃ p, ps[i]? = some p := ⟨_, List.getElem?_eq_getElem (by have := HL1.out; omega)⟩
      obtain ⟨q, hq⟩ : ∃ q, vs[i]? = some q := ⟨_, List.getElem?_eq_getElem (by have := HL2.out; omega)⟩
      obtain ⟨b1, o1, rfl, hb1, hc1⟩ := HR1.out.plain (by omega) (by decide)
      obtain ⟨b2, o2, rfl, hb2, hc2⟩ := HR2.out.plain (by omega) (by decide)
      have k1 := (hbel.cell (p := ⟨b1, o1 + i, none⟩) hb1).trans (hc1 i (.string p) (by rw [List.getElem?_map, hp]; rfl))
      have k2 := (hbel.cell (p := ⟨b2, o2 + i, none⟩) hb2).trans (hc2 i (.string q) (by rw [List.getElem?_map, hq]; rfl))
      have z1 := HS1.out p (List.mem_of_getElem? hp)
      have z2 := HS2.out q (List.mem_of_getElem? hq)
      have hzz := hbel.size
      have HB := Lib.hid hbel
      have j0 : (0 : Int) ≤ (i : Int) := by omega
      have j1 : (i : Int) < (n1 : Int) := by omega
      have j2 : (i : Int) < (n2 : Int) := by omega
      obtain ⟨g1, g2, g3, g4, g5⟩ := hL.out
      have i8 : i < 8 := by omega
      have tz : (tpl (segs L) ⟨#[]⟩).size ≤ 8388656 := by omega
      have wz : (want L).size ≤ 16777216 := by omega
      obtain ⟨T, hT⟩ : ∃ T, T = tpl (segs L) ⟨#[]⟩ := ⟨_, rfl⟩
      obtain ⟨X, hX⟩ : ∃ X, X = want L := ⟨_, rfl⟩
      rw [← hT] at tz ⊢
      rw [← hX] at wz ⊢
      have HT := Lib.hid hT
      have HX := Lib.hid hX
      clear hp hq hc1 hc2 hbel g1 g2 g3 g4 g5 hT hX
      go_wp2_with fail
      refine (Tryd.strings_Contains_one p 123 wr).mono ?_
      rintro e w2 ⟨rfl, rfl⟩
      have hge := Lib.indexByte_ge p.data.toList 123
      by_cases hx : Lib.indexByte p.data.toList 123 = -1
      · rw [hx]
        have hno : okT p := fun j hj => absurd hj (no_one hx j)
        have HNO := Lib.hid hno
        clear hge hx hno
        go_upto_region 12 with fail
        go_cut [12] (fun s12 wx => s12 = .string (nmI i) ∧ w2 = wx)
        case first =>
          rcases (by omega : i = 0 ∨ i = 1 ∨ i = 2 ∨ i = 3 ∨ i = 4 ∨ i = 5 ∨ i = 6 ∨ i = 7) with rfl | rfl | rfl | rfl | rfl | rfl | rfl | rfl
          all_goals
            go_wp2_with fail
            go_meet
            case rel => exact ⟨congrArg Value.string (by decide), rfl⟩
        obtain ⟨rfl, rfl⟩ := hcut
        have hni : (nmI i).size = 2 := rfl
        obtain ⟨nm, hnm⟩ : ∃ nm, nm = nmI i := ⟨_, rfl⟩
        rw [← hnm] at hni ⊢
        have HNM := Lib.hid hnm
        clear hnm
        go_wp2_with fail
        go_quiet (fail)
        go_wp2_with (at_builtin; refine wpList_append_own_at _ rfl _ _ 29 rfl w.heap.size 28 i0 prZ 2 32 Tryd.underlying29 hi hz0 hz1 hz2 rfl (by decide) _ i _ rfl (hown.alloc _) ⟨w2.heap.size, 0, none⟩ 1 1 (rowsV [(nm, q)]) rfl rfl (new_cells _ _ (rowsV [(nm, q)]) _ (by simp)) (rows_one _) (by unfold maxLen; omega) (by omega) (by simp; omega) ?_; intro v7 w7 hown7 hg7 _ _)
        have hlt := hown.lt
        have HB7 : Hid (Below w.heap.size w w7) := ((bdrew HB.out _).alloc (by simp; omega) _).grown hg7 (by simp; omega) (fun g h => (hlt g h).1)
        rw [← rowsV_app] at hown7
        have hL2 : Hid ((L ++ [It.mk p nm q]).length = i + 1 ∧ (L ++ [It.mk p nm q]).map (·.name) = (List.range (i + 1)).map nmI ∧ (∀ x ∈ L ++ [It.mk p nm q], okT x.part) ∧ (tpl (segs (L ++ [It.mk p nm q])) ⟨#[]⟩).size ≤ (i + 1) * 1048582 ∧ (want (L ++ [It.mk p nm q])).size ≤ (i + 1) * 2097152) := by
          obtain ⟨g1, g2, g3, g4, g5⟩ := hL.out
          refine ⟨by simp [g1], ?_, ?_, ?_, ?_⟩
          · rw [List.map_append, g2, List.range_succ, List.map_append]
            show _ ++ [nm] = _ ++ [nmI i]
            rw [HNM.out]
          · intro y hy
            rcases List.mem_append.1 hy with hy | hy
            · exact g3 y hy
            · rw [List.mem_singleton] at hy; subst hy; exact HNO.out
          · rw [segs, List.map_append, tpl_app, ByteArray.size_append]
            show (tpl (segs L) ⟨#[]⟩).size + (p ++ (lb2 ++ (nm ++ (rb2 ++ ⟨#[]⟩)))).size ≤ _
            simp only [ByteArray.size_append, lb_at.2.2, rb_at.2.2]
            have : (⟨#[]⟩ : ByteArray).size = 0 := rfl
            omega
          · rw [want_app, ByteArray.size_append]
            show (want L).size + (p ++ (q ++ (⟨#[]⟩ : ByteArray))).size ≤ _
            simp only [ByteArray.size_append]
            have : (⟨#[]⟩ : ByteArray).size = 0 := rfl
            omega
        have e1 : T ++ p ++ (⟨#[123, 123]⟩ : ByteArray) ++ nm ++ (⟨#[125, 125]⟩ : ByteArray) = tpl (segs (L ++ [It.mk p nm q])) ⟨#[]⟩ := by
          have e0 : tpl (segs (L ++ [It.mk p nm q])) ⟨#[]⟩ = tpl (segs L) ⟨#[]⟩ ++ (p ++ (lb2 ++ (nm ++ (rb2 ++ ⟨#[]⟩)))) := by
            rw [segs, List.map_append, tpl_app]; rfl
          rw [e0, HT.out, app_nil]
          simp only [ByteArray.append_assoc]
          rfl
        have e2 : X ++ p ++ q = want (L ++ [It.mk p nm q]) := by
          rw [HX.out, want_app]
          show _ = want L ++ (p ++ (q ++ (⟨#[]⟩ : ByteArray)))
          rw [app_nil, ByteArray.append_assoc]
        have E1 := Lib.hid e1
        have E2 := Lib.hid e2
        have HO7 : Hid (w7.ownsRow w.heap.size 28 2 v7 (i + 1) (rowsV (prs (L ++ [It.mk p nm q])))) := by
          show World.ownsRow _ _ _ _ _ _ _
          rw [show prs (L ++ [It.mk p nm q]) = prs L ++ [(nm, q)] by simp [prs]]
          exact hown7
        clear hg7 hown hlt hown7 e1 e2
        go_wp2_with fail
        go_roundg (n1 - (i + 1))
        case measure => omega
        case rel => exact ⟨i + 1, L ++ [It.mk p nm q], by omega, by go_num, congrArg Value.string E1.out, congrArg Value.string E2.out, hL2, HO7.out, HB7.out⟩
      · rw [show decide (0 ≤ Lib.indexByte p.data.toList 123) = true from decide_eq_true (by omega)]
        clear hge hx
        go_wp2_with fail
        go_ret
        exact ⟨rfl, HB.out⟩
    · obtain rfl : i = n1 := by omega
      obtain ⟨g1, g2, g3, g4, g5⟩ := hL.out
      have hnd : (L.map (·.name)).Nodup := by
        rw [g2]
        rw [List.nodup_iff_pairwise_ne, List.pairwise_map]
        refine List.Pairwise.imp_of_mem ?_ (List.nodup_iff_pairwise_ne.1 List.nodup_range)
        intro x y hx hy hne e
        rw [List.mem_range] at hx hy
        exact hne (nmI_inj (by omega) (by omega) e)
      have hmem : ∀ x ∈ L, ∃ j, j < 8 ∧ x.name = nmI j := by
        intro x hx
        have : x.name ∈ L.map (·.name) := List.mem_map.2 ⟨x, hx, rfl⟩
        rw [g2] at this
        obtain ⟨j, hj, e⟩ := List.mem_map.1 this
        rw [List.mem_range] at hj
        exact ⟨j, by omega, e.symm⟩
      have hfw := filled_want L hnd
      obtain ⟨A, c, rfl, hrd⟩ := own_reads hown
      have hic : i ≤ c := by
        rcases hown.2 with ⟨h1, h2⟩ | ⟨g, cap, cur, h1, _, _, h2, _⟩
        · injection h1 with _ _ h3; omega
        · injection h1 with _ _ h3; omega
      have hfill := fun (w0 : World) (hb0 : Below wr.heap.size wr w0) (hp0 : Pow w0) => fill_any (segs L) ⟨#[]⟩ (tpl (segs L) ⟨#[]⟩) (prs L) A c i d w0 wr.heap.size (by omega) (by rw [segs, List.length_map]; omega) rfl
        (by intro x hx; obtain ⟨y, hy, rfl⟩ := List.mem_map.1 hx; obtain ⟨j, hj, e⟩ := hmem y hy; exact ⟨g3 y hy, by show okN y.name; rw [e]; exact okN_I hj⟩) (fun k hk => absurd hk (by rw [bt_out (Nat.zero_le k)]; decide))
        (hrd.below hb0) hb0.size (by rw [prs, List.length_map]; omega) (by omega) hic (by intro x hx; obtain ⟨y, hy, rfl⟩ := List.mem_map.1 hx; obtain ⟨j, hj, e⟩ := hmem y hy; show okN y.name; rw [e]; exact okN_I hj)
        (by rw [prs, List.map_map]; exact hnd) (by intro x hx; obtain ⟨y, hy, rfl⟩ := List.mem_map.1 hx; exact ⟨(y.name, y.val), List.mem_map.2 ⟨y, hy, rfl⟩, (isNm_iff _ _).2 rfl⟩) q3 q4 hp0 (by rw [hfw]; omega)
      rw [hfw] at hfill
      have HF := Lib.hid hfill
      have HPX := Lib.hid (HPW'.out.below hbel)
      have HB := Lib.hid hbel
      obtain ⟨X, hX⟩ : ∃ X, X = want L := ⟨_, rfl⟩
      obtain ⟨T, hT⟩ : ∃ T, T = tpl (segs L) ⟨#[]⟩ := ⟨_, rfl⟩
      rw [← hX] at HF ⊢
      rw [← hT] at HF ⊢
      clear hX hT g1 g2 g3 g4 g5 hL hnd hmem hfw hown hrd hfill hbel
      go_wp2_with fail
      refine (HF.out wr (Below.refl _ _) HPX.out).mono ?_
      rintro e w9 ⟨hres, hb9⟩
      have HB9 := Lib.hid (HB.out.trans (hb9.mono HB.out.size))
      clear hb9 HF
      rcases hres with rfl | rfl
      · go_wp2_with fail
        go_ret
        exact ⟨rfl, HB9.out⟩
      · go_wp2_with fail
        go_ret
        exact ⟨rfl, HB9.out⟩
end Go.Proofs.YtghadhdmbcigpaaDoor
