/-
  DERIVED. The walk of prop.Merge where, name by name, two of three values are the same. Conditions: sizes. By an AI agent.
-/
import Derived.Test.YteichcpbfdjjkaaPmSame
import Derived.Test.YteichcpbfdjjkaaPmMath
import Derived.Test.YteichcpbfdjjkaaPmIter
import Derived.Deep.DeepCutAuto
namespace Go.Proofs.Yteichcpbfdjjkaa
open Go.RowKit Go.Maps

set_option maxHeartbeats 400000 in
theorem clipP_any (A : Option Addr) (n c : Nat) (w : World) (hn : n ≤ c) (h0 : A = none → n = 0 ∧ c = 0) :
    Calls Try.prog 14 #[.slice A n c] w fun e w' => e = .returned (.slice A n n) ∧ w' = w := by
  have i0 : (0 : Int) ≤ (n : Int) := by omega
  have i1 : (n : Int) ≤ (c : Int) := by omega
  go_enter Try.func14, Try.ntmps14
  go_wp2_with fail
  go_ret
  exact ⟨rfl, rfl⟩
set_option maxHeartbeats 400000 in
theorem clipS_nil (w : World) :
    Calls Try.prog 15 #[.slice none 0 0] w fun e w' => e = .returned (.slice none 0 0) ∧ w' = w := by
  go_enter Try.func15, Try.ntmps15
  go_wp2_with fail
  go_ret
  exact ⟨rfl, rfl⟩
def pZ : Value := .agg #[.string ⟨#[]⟩, .int .i64 0, .int .i64 0, .int .i64 0, .string ⟨#[]⟩, .slice none 0 0]
theorem prop_info : (Try.prog.info? 40).map (fun i => (i.zero, i.size, i.bytes)) = some (some pZ, 6, 80) := by kernel_rfl
theorem prV_one (x : Pr × Value) (hx : ∃ A n c, x.2 = .slice A n c) : ∀ u ∈ prV x, u.oneCell' = true := by
  intro u hu
  rcases List.mem_cons.1 hu with rfl | hu
  · rfl
  · exact vlV_one (x.1.val, x.2) hx u hu
def namesOf (L : List (List Pr)) : List ByteArray := L.flatMap fun l => l.map Pr.name
theorem errF_at {L : List (List Pr)} {k : Nat} {l : List Pr} (h : L[k]? = some l) : errF (L.drop k) = if cpErr l ≠ 0 then cpErr l else errF (L.drop (k + 1)) := by
  obtain ⟨hk, e⟩ := List.getElem?_eq_some_iff.1 h
  rw [List.drop_eq_getElem_cons hk, errF, e]
theorem setD_snoc (acc : List ByteArray) (s : ByteArray) : (setD acc).put (key s) btrue = setD (acc ++ [s]) := by
  unfold setD
  rw [List.map_append, List.map_cons, List.map_nil, setOf_snoc]

/-- mergedValue's answer is what is picked -/
def MergedR (v : Vl) (W : World) (e : Ending) (w' : World) : Prop := (∃ A n c, e = .returned (.tuple #[AV (v, .slice A n c), .bool false]) ∧ RV W W.heap.size (.slice A n c) v.items) ∧ Below W.heap.size W w'
theorem merged_pick (x a b : List Pr) (s : ByteArray) (Ax Aa Ab : Option Addr) (nx cx na ca nb cb : Nat) (W : World)
    (hq : cmpP (getP a s) (getP x s) = 0 ∨ cmpP (getP b s) (getP x s) = 0 ∨ cmpP (getP a s) (getP b s) = 0)
    (hx : RV W W.heap.size (.slice Ax nx cx) (getP x s).items) (ha : RV W W.heap.size (.slice Aa na ca) (getP a s).items) (hb : RV W W.heap.size (.slice Ab nb cb) (getP b s).items) :
    Calls Try.prog 12 #[AV (getP x s, .slice Ax nx cx), AV (getP a s, .slice Aa na ca), AV (getP b s, .slice Ab nb cb)] W (MergedR (pick x a b s) W) := by
  refine (merged_walk (getP x s) (getP a s) (getP b s) Ax Aa Ab nx cx na ca nb cb (cmpP (getP a s) (getP x s) == 0) (cmpP (getP b s) (getP x s) == 0) (cmpP (getP a s) (getP b s) == 0) (by simpa using hq) W
    (fun W' h => same_any (getP a s, .slice Aa na ca) (getP x s, .slice Ax nx cx) W' W.heap.size h.size (ha.below h) (hx.below h))
    (fun W' h => same_any (getP b s, .slice Ab nb cb) (getP x s, .slice Ax nx cx) W' W.heap.size h.size (hb.below h) (hx.below h))
    (fun W' h => same_any (getP a s, .slice Aa na ca) (getP b s, .slice Ab nb cb) W' W.heap.size h.size (ha.below h) (hb.below h))).mono ?_
  rintro e w' ⟨rfl, h⟩
  refine ⟨?_, h⟩
  unfold pick
  by_cases hz : cmpP (getP a s) (getP x s) = 0
  · have e1 : (cmpP (getP a s) (getP x s) == 0) = true := by simpa using hz
    rw [if_pos e1, if_pos hz]
    exact ⟨_, _, _, rfl, hb⟩
  · have e1 : ¬ (cmpP (getP a s) (getP x s) == 0) = true := by simpa using hz
    rw [if_neg e1, if_neg hz]
    exact ⟨_, _, _, rfl, ha⟩

/-- what Merge leaves where two of three are the same -/
def MergeR (x a b : List Pr) (w : World) (e : Ending) (w' : World) : Prop :=
  Below w.heap.size w w' ∧ ((errF [x, a, b] ≠ 0 ∧ e = .returned (.tuple #[.slice none 0 0, .slice none 0 0, .int .i64 (errF [x, a, b])])) ∨
    (errF [x, a, b] = 0 ∧ ∃ A n c K, e = .returned (.tuple #[.slice A n c, .slice none 0 0, .int .i64 0]) ∧ K.Pairwise blt ∧ (∀ s, s ∈ K ↔ s ∈ namesOf [x, a, b]) ∧ RPr w' w'.heap.size (.slice A n c) (outM x a b K)))

set_option maxRecDepth 100000 in
set_option maxHeartbeats 8000000 in
theorem merge_any (x a b : List Pr) (Ax Aa Ab : Option Addr) (nx cx na ca nb cb : Nat) (w : World) (B : Nat) (hB : B ≤ w.heap.size) (hx : RPr w B (.slice Ax nx cx) x) (ha : RPr w B (.slice Aa na ca) a) (hb : RPr w B (.slice Ab nb cb) b)
    (hq : ∀ s, cmpP (getP a s) (getP x s) = 0 ∨ cmpP (getP b s) (getP x s) = 0 ∨ cmpP (getP a s) (getP b s) = 0)
    (hlen : errF [x, a, b] = 0 → ∀ K : List ByteArray, K.Pairwise blt → (∀ s, s ∈ K ↔ s ∈ namesOf [x, a, b]) → (outM x a b K).length ≤ 20) :
    Calls Try.prog 5 #[.slice Ax nx cx, .slice Aa na ca, .slice Ab nb cb] w (MergeR x a b w) := by
  obtain ⟨L, hL⟩ : ∃ L, L = [x, a, b] := ⟨_, rfl⟩
  obtain ⟨V, hV⟩ : ∃ V, V = errF L := ⟨_, rfl⟩
  have hrow : ∀ (k : Nat) (l : List Pr), L[k]? = some l → ∃ A n c, ([Value.slice Ax nx cx, Value.slice Aa na ca, Value.slice Ab nb cb] : List Value)[k]? = some (Value.slice A n c) ∧ RPr w B (.slice A n c) l := by
    rw [hL]
    intro k l h
    match k, h with
    | 0, h => obtain rfl : x = l := by simpa using h
              exact ⟨_, _, _, rfl, hx⟩
    | 1, h => obtain rfl : a = l := by simpa using h
              exact ⟨_, _, _, rfl, ha⟩
    | 2, h => obtain rfl : b = l := by simpa using h
              exact ⟨_, _, _, rfl, hb⟩
    | k + 3, h => simp at h
  have hL3 : L.length = 3 := by rw [hL]; rfl
  have HROW := Lib.hid hrow
  have HL3 := Lib.hid hL3
  have HL := Lib.hid hL
  have HV := Lib.hid hV
  have HQ := Lib.hid hq
  have HLEN := Lib.hid hlen
  have HX := Lib.hid hx
  have HA := Lib.hid ha
  have HB := Lib.hid hb
  have hmm := @run_makeMap Try.prog
  obtain ⟨wb, hwb⟩ : ∃ wb, wb = (w.alloc (.map #[] 0)).alloc (.cells #[.slice Ax nx cx, .slice Aa na ca, .slice Ab nb cb] 22) := ⟨_, rfl⟩
  have p1 : Blk wb (w.heap.size + 1) 22 #[.slice Ax nx cx, .slice Aa na ca, .slice Ab nb cb] := by
    rw [hwb]
    have h := Blk.new (w.alloc (.map #[] 0)) 22 #[.slice Ax nx cx, .slice Aa na ca, .slice Ab nb cb]
    simpa only [World.size_alloc] using h
  have hown0 : wb.ownsMap Try.prog 9 (plainElem Try.prog 4) w.heap.size 0 (setD []) := by
    rw [hwb]; exact (World.ownsMap_made _ _ _ _).alloc _
  have hbel0 : Below w.heap.size w wb := by rw [hwb]; exact ((Below.refl _ _).alloc (Nat.le_refl _) _).alloc (by simp) _
  have P1 := Lib.hid p1
  have HO0 := Lib.hid hown0
  have HB0 := Lib.hid hbel0
  have HWB := Lib.hid hwb
  have KS : Hid (Keyed Try.prog 9) := string_keyed Try.underlying9
  clear hrow hL3 hL hV hq hlen hx ha hb p1 hown0 hbel0 hwb
  go_enter Try.func5, Try.ntmps5
  go_upto_region 3 with fail
  rw [← HWB.out]
  go_wp2_with fail
  go_loopg [33] 3 (fun gg s33 wr => ∃ (k N : Nat), k + gg = 3 ∧ N ≤ 20 * k ∧ s33 = .int .i64 (k : Int) ∧ Hid (V = errF (L.drop k)) ∧ Hid (wr.ownsMap Try.prog 9 (plainElem Try.prog 4) w.heap.size N (setD (namesOf (L.take k)))) ∧ Hid (Below w.heap.size w wr) ∧ Hid (Blk wr (w.heap.size + 1) 22 #[.slice Ax nx cx, .slice Aa na ca, .slice Ab nb cb]))
  case atStart => exact ⟨0, 0, by omega, by omega, rfl, HV, HO0, HB0, P1⟩
  case round =>
    obtain ⟨k, N, hkg, hN, rfl, hno, hown, hbel, hp1⟩ := hrel
    obtain ⟨W1, rfl⟩ : ∃ W1, W1 = wr := ⟨_, rfl⟩
    have hzr : w.heap.size + 1 < W1.heap.size := hp1.out.lt
    by_cases hk : k < 3
    · obtain ⟨l, hl⟩ : ∃ l, L[k]? = some l := ⟨_, List.getElem?_eq_getElem (by have := HL3.out; omega)⟩
      obtain ⟨A, n, c, hrw, hr⟩ := HROW.out k l hl
      have hst := hno.out.trans (errF_at hl)
      have HTK : Hid (namesOf (L.take (k + 1)) = namesOf (L.take k) ++ l.map Pr.name) := by
        show _ = _
        rw [List.take_add_one, hl]
        show namesOf (_ ++ [l]) = _
        unfold namesOf
        rw [List.flatMap_append]; simp
      have c0 : W1.cell? ⟨w.heap.size + 1, k, none⟩ = some (.slice A n c) := (hp1.out.cell k).trans (by rw [← hrw]; simp)
      have HCP := Lib.hid (checkProps_any (.slice A n c) l W1 B (by have := hbel.out.size; omega) (hr.below (hbel.out.mono hB)))
      have HR := Lib.hid hr
      have hnl := hr.len
      have HNL := Lib.hid hnl.1
      have hbg := hnl.2.2
      have j0 : (0 : Int) ≤ (k : Int) := by omega
      have j1 : (k : Int) < (3 : Int) := by omega
      clear hl hrw hr hnl
      by_cases hz : cpErr l = 0
      case neg =>
        rw [if_pos hz] at hst
        obtain ⟨vk, hvk⟩ : ∃ v, v = cpErr l := ⟨_, rfl⟩
        rw [← hvk] at hst hz
        rw [← hvk] at HCP
        have hz' : (vk != 0) = true := by simpa using hz
        have HST := Lib.hid hst
        have HZ := Lib.hid hz
        clear hst hz hvk
        go_wp2_with fail
        refine HCP.out.mono ?_
        rintro e w2 ⟨rfl, hb2⟩
        have HB2 : Hid (Below w.heap.size w w2) := hbel.out.trans (hb2.mono hbel.out.size)
        clear hb2
        go_wp2_with fail
        go_ret3
        refine ⟨HB2.out, .inl ?_⟩
        rw [← HL.out, ← HV.out]
        exact ⟨by rw [HST.out]; exact HZ.out, by rw [HST.out]; rfl⟩
      case pos =>
        rw [if_neg (by rw [hz]; decide)] at hst
        rw [hz] at HCP
        obtain ⟨hn20, _, hnm⟩ := cp_ok hz
        have hn20' : n ≤ 20 := by have := HNL.out; omega
        have HST := Lib.hid hst
        have HNM := Lib.hid hnm
        clear hst hz hn20 hnm
        go_wp2_with fail
        refine HCP.out.mono ?_
        rintro e w2 ⟨rfl, hb2⟩
        have HB2 : Hid (Below w.heap.size w w2) := hbel.out.trans (hb2.mono hbel.out.size)
        have HO2 : Hid (w2.ownsMap Try.prog 9 (plainElem Try.prog 4) w.heap.size N (setD (namesOf (L.take k)))) := by
          obtain ⟨es, clock, h1, h2⟩ := hown.out
          exact ⟨es, clock, (hb2.block _ (by omega)).trans h1, h2⟩
        have HP2 := Lib.hid (hp1.out.below hb2 (by omega))
        have hz2 : w.heap.size + 1 < w2.heap.size := HP2.out.lt
        clear hb2 c0
        go_wp2_with fail
        go_loopg [44] n (fun gg s44 wr => ∃ (j : Nat), j + gg = n ∧ s44 = .int .i64 (j : Int) ∧ Hid (wr.ownsMap Try.prog 9 (plainElem Try.prog 4) w.heap.size (N + j) (setD (namesOf (L.take k) ++ (l.map Pr.name).take j))) ∧ Hid (Below w.heap.size w wr) ∧ Hid (Blk wr (w.heap.size + 1) 22 #[.slice Ax nx cx, .slice Aa na ca, .slice Ab nb cb]))
        case atStart => exact ⟨0, by omega, rfl, by rw [List.take_zero, List.append_nil]; exact HO2, HB2, HP2⟩
        case round =>
          obtain ⟨j, hjg, rfl, hown, hbel, hp1⟩ := hrel
          obtain ⟨W3, rfl⟩ : ∃ W3, W3 = wr := ⟨_, rfl⟩
          have hz3 : w.heap.size + 1 < W3.heap.size := hp1.out.lt
          by_cases hj : j < n
          · obtain ⟨x, hxj⟩ : ∃ x, l[j]? = some x := ⟨_, List.getElem?_eq_getElem (by have := HNL.out; omega)⟩
            obtain ⟨b, off, Av, nv, cv, rfl, hbb, g0, g1, g2, g3, g4, g5, _⟩ := (HR.out.below (hbel.out.mono hB)).at_ hxj
            have hsz := nmOk_size (HNM.out x (List.mem_of_getElem? hxj)).2
            have hkey : keyOf Try.prog 9 (.string x.name) = some (key x.name) := Go.WideMaps.keyOf_string_mk Try.underlying9 (by unfold maxLen; omega)
            have hval : plainElem (H := Unit) Try.prog 4 (.bool true) = some (btrue, []) := plainElem_bool Try.underlying4 true
            have HK := Lib.hid hkey
            have HV' := Lib.hid hval
            have HT2 : Hid ((l.map Pr.name).take (j + 1) = (l.map Pr.name).take j ++ [x.name]) := by
              show _ = _
              rw [List.take_add_one, List.getElem?_map, hxj]; rfl
            have y0 : (0 : Int) ≤ (j : Int) := by omega
            have y1 : (j : Int) < (n : Int) := by omega
            have HOW := Lib.hid (hown.out.alloc (.cells #[.string x.name, .int .i64 x.val.kind, .int .i64 x.val.int_, .int .i64 x.val.to_, .string x.val.text, .slice Av nv cv] 40))
            have HP3 := Lib.hid (hp1.out.alloc (.cells #[.string x.name, .int .i64 x.val.kind, .int .i64 x.val.int_, .int .i64 x.val.to_, .string x.val.text, .slice Av nv cv] 40))
            have HB3 := Lib.hid (hbel.out.alloc hbel.out.size (.cells #[.string x.name, .int .i64 x.val.kind, .int .i64 x.val.int_, .int .i64 x.val.to_, .string x.val.text, .slice Av nv cv] 40))
            clear hxj hkey hval hsz
            go_wp2_with (at_mapUpdate; refine wpList_mapUpdate_own _ rfl _ _ _ 34 rfl 9 4 KS.out Try.underlying34 (plainElem Try.prog 4) w.heap.size (N + j) (setD (namesOf (L.take k) ++ (l.map Pr.name).take j)) rfl HOW.out (by unfold maxLen; omega) _ _ (key x.name) rfl rfl HK.out btrue [] HV'.out ?_; intro w7 hown7 hg7)
            have HO7 : Hid (w7.ownsMap Try.prog 9 (plainElem Try.prog 4) w.heap.size (N + (j + 1)) (setD (namesOf (L.take k) ++ (l.map Pr.name).take (j + 1)))) := by
              rw [HT2.out, ← List.append_assoc, ← setD_snoc]; exact hown7
            have HB7 : Hid (Below w.heap.size w w7) := HB3.out.grown hg7 (by simp; omega) (fun g h => by injection h with h; omega)
            have HP7 := Lib.hid (HP3.out.grown hg7 (by intro e; injection e with e; omega))
            clear hg7 hown7 g0 g1 g2 g3 g4 g5
            go_wp2_with fail
            go_roundg (n - (j + 1))
            case measure => omega
            case rel => exact ⟨j + 1, by omega, by go_num, HO7, HB7, HP7⟩
          · obtain rfl : n = j := by omega
            have HO4 : Hid (W3.ownsMap Try.prog 9 (plainElem Try.prog 4) w.heap.size (N + n) (setD (namesOf (L.take (k + 1))))) := by
              rw [HTK.out]
              have h := hown.out
              have e : (l.map Pr.name).take n = l.map Pr.name := List.take_of_length_le (by rw [List.length_map, ← HNL.out]; exact Nat.le_refl _)
              rw [e] at h
              exact h
            clear hown
            go_wp2_with fail
            go_roundg (3 - (k + 1))
            case measure => omega
            case rel => exact ⟨k + 1, N + n, by omega, by omega, by go_num, HST, HO4, hbel, hp1⟩
    · obtain rfl : k = 3 := by omega
      have HVZ : Hid (V = 0) := hno.out.trans (by
        have e : L.drop 3 = [] := List.drop_of_length_le (by rw [HL3.out]; exact Nat.le_refl _)
        rw [e]; rfl)
      have HOW : Hid (W1.ownsMap Try.prog 9 (plainElem Try.prog 4) w.heap.size N (setD (namesOf L))) := by
        have h := hown.out
        have e : L.take 3 = L := List.take_of_length_le (by rw [HL3.out]; exact Nat.le_refl _)
        rw [e] at h
        exact h
      have hsl := HOW.out.size_le
      have HMK := Lib.hid (callsIn_wide.1 (Try.maps_Keys_10 (some w.heap.size) W1))
      have HSK := Lib.hid (callsIn_wide.1 (Try.slices_Sorted_keys_9_10 w.heap.size N _ _ W1 HOW.out (by unfold maxLen; omega) (by omega)))
      clear hno hown hsl
      go_wp2_with fail
      refine HMK.out.mono ?_
      rintro e w4 ⟨rfl, rfl⟩
      go_wp2_with fail
      refine HSK.out.mono ?_
      rintro e w5 ⟨vk, ss, rfl, hperm, hrow5, _, hb5⟩
      obtain ⟨hK1, hK2, hKn⟩ := keys_law HOW.out KS.out Try.underlying9 hperm
      obtain ⟨K, hK⟩ : ∃ K, K = (ss.mergeSort (fun x y => decide (x ≤ y))).map toB := ⟨_, rfl⟩
      rw [← hK] at hK1 hK2
      have hrow5' : w5.ownsRow (W1.alloc (.cells #[.map (some w.heap.size)] 34)).heap.size 9 1 vk ss.length (K.map Value.string) := by
        rw [hK, List.map_map]; exact hrow5
      obtain ⟨m, hm⟩ : ∃ m, m = ss.length := ⟨_, rfl⟩
      rw [← hm] at hrow5' hKn
      obtain ⟨Ak, ck, rfl, hck, hrk⟩ := RdX.of_own hrow5'
      have HKR : Hid (Reads w5 w5.heap.size 1 Ak m (K.map Value.string)) := hrk.reads fun b hb => hb.2.2
      have HKL : Hid (K.length = m) := by
        show _ = _
        rw [hK, List.length_map, List.length_mergeSort, hm]
      have HB5 : Hid (Below w.heap.size w w5) := (hbel.out.alloc hbel.out.size _).trans (hb5.mono (by simp; omega))
      have HK1 := Lib.hid hK1
      have HK2 := Lib.hid hK2
      have hz5 : w.heap.size + 1 < w5.heap.size := by have := hb5.size; simp at this; omega
      have hm60 : m ≤ 60 := by omega
      obtain ⟨i0, hi, hq0, hq1, hq2⟩ := info_parts prop_info
      have HS : Hid (OwnX prV 6 40 NP w5 w5.heap.size (.slice none 0 0) []) := OwnX.start _ _
      clear hK hm hperm hrow5 hrow5' hb5 hrk hK1 hK2 hck hKn
      go_wp2_with fail
      go_loopg [15, 16, 57] m (fun gg s15 s16 s57 wr => ∃ (k : Nat) (v : Value) (M : List (Pr × Value)), k + gg = m ∧ v = s15 ∧ s16 = .slice none 0 0 ∧ s57 = .int .i64 (k : Int) ∧ Hid (M.map Prod.fst = outM x a b (K.take k)) ∧ Hid (OwnX prV 6 40 NP wr w5.heap.size v M) ∧ Hid (Below w5.heap.size w5 wr))
      case atStart => exact ⟨0, _, [], by omega, rfl, rfl, rfl, rfl, HS, Below.refl _ _⟩
      case round =>
        obtain ⟨k, v, M, hkg, rfl, rfl, rfl, hM, hown, hbel⟩ := hrel
        obtain ⟨W1, rfl⟩ : ∃ W1, W1 = wr := ⟨_, rfl⟩
        have hzr : w5.heap.size ≤ W1.heap.size := hbel.out.size
        have HML : Hid (M.length ≤ 60) := by
          show _ ≤ _
          have h1 := congrArg List.length hM.out
          have h2 := outM_len x a b (K.take k)
          rw [List.length_map] at h1
          rw [List.length_take] at h2
          omega
        by_cases hk : k < m
        · obtain ⟨s, hs⟩ : ∃ s, K[k]? = some s := ⟨_, List.getElem?_eq_getElem (by have := HKL.out; omega)⟩
          have HTK : Hid (outM x a b (K.take (k + 1)) = outM x a b (K.take k) ++ (if (pick x a b s).kind = 0 then [] else [⟨s, pick x a b s⟩])) := by
            show _ = _
            rw [List.take_add_one, hs]
            exact outM_snoc x a b s _
          obtain ⟨b', off, rfl, hbb, hc⟩ := HKR.out.plain (by omega) (by omega)
          have g0 : W1.cell? ⟨b', off + k, none⟩ = some (.string s) := (hbel.out.cell (p := ⟨b', off + k, none⟩) hbb).trans (hc k _ (by rw [List.getElem?_map, hs]; rfl))
          have HBB : Hid (Below w.heap.size w W1) := HB5.out.trans (hbel.out.mono (by omega))
          have HG0 := Lib.hid (getP_any x Ax nx cx s W1 B (by have := HBB.out.size; omega) (HX.out.below (HBB.out.mono hB)))
          have j0 : (0 : Int) ≤ (k : Int) := by omega
          have j1 : (k : Int) < (m : Int) := by omega
          have HQS := Lib.hid (HQ.out s)
          clear hs hc
          go_wp2_with fail
          refine HG0.out.mono ?_
          rintro e w1 ⟨⟨A1, n1, c1, rfl, hr1⟩, hb1⟩
          dsimp only [AV]
          obtain ⟨wa1, hwa⟩ : ∃ wa, wa = w1.alloc (.cells #[.int .i64 (getP x s).kind, .int .i64 (getP x s).int_, .int .i64 (getP x s).to_, .string (getP x s).text, .slice A1 n1 c1] 38) := ⟨_, rfl⟩
          have hal : Below w1.heap.size w1 wa1 := by rw [hwa]; exact (Below.refl _ _).alloc (Nat.le_refl _) _
          have hq : Blk wa1 w1.heap.size 38 #[.int .i64 (getP x s).kind, .int .i64 (getP x s).int_, .int .i64 (getP x s).to_, .string (getP x s).text, .slice A1 n1 c1] := by rw [hwa]; exact Blk.new _ _ _
          have hz1 : w1.heap.size < wa1.heap.size := by rw [hwa]; simp
          have hy1 : W1.heap.size ≤ w1.heap.size := hb1.size
          have HBB1 : Hid (Below w.heap.size w wa1) := (HBB.out.trans (hb1.mono HBB.out.size)).trans (hal.mono (HBB.out.trans (hb1.mono HBB.out.size)).size)
          have HBV1 : Hid (Below w5.heap.size w5 wa1) := (hbel.out.trans (hb1.mono hbel.out.size)).trans (hal.mono (hbel.out.trans (hb1.mono hbel.out.size)).size)
          have HOW1 := Lib.hid ((hown.out.below NP_ok hb1).below NP_ok hal)
          have HQ1 := Lib.hid hq
          have HR1 : Hid (RV wa1 wa1.heap.size (.slice A1 n1 c1) (getP x s).items) := (hr1.keep (fun p hp => hal.cell hp.2)).reads fun b hb => by have := hal.size; omega
          have HWA := Lib.hid hwa
          clear hr1 hb1 hal hq hwa
          have HG0 := Lib.hid (getP_any a Aa na ca s wa1 B (by have := HBB1.out.size; omega) (HA.out.below (HBB1.out.mono hB)))
          go_upto_region 20 with fail
          rw [← HWA.out]
          go_wp2_with fail
          refine HG0.out.mono ?_
          rintro e w2 ⟨⟨A2, n2, c2, rfl, hr1⟩, hb1⟩
          dsimp only [AV]
          obtain ⟨wa2, hwa⟩ : ∃ wa, wa = w2.alloc (.cells #[.int .i64 (getP a s).kind, .int .i64 (getP a s).int_, .int .i64 (getP a s).to_, .string (getP a s).text, .slice A2 n2 c2] 38) := ⟨_, rfl⟩
          have hal : Below w2.heap.size w2 wa2 := by rw [hwa]; exact (Below.refl _ _).alloc (Nat.le_refl _) _
          have hq : Blk wa2 w2.heap.size 38 #[.int .i64 (getP a s).kind, .int .i64 (getP a s).int_, .int .i64 (getP a s).to_, .string (getP a s).text, .slice A2 n2 c2] := by rw [hwa]; exact Blk.new _ _ _
          have hz2 : w2.heap.size < wa2.heap.size := by rw [hwa]; simp
          have hy2 : wa1.heap.size ≤ w2.heap.size := hb1.size
          have HBB2 : Hid (Below w.heap.size w wa2) := (HBB1.out.trans (hb1.mono HBB1.out.size)).trans (hal.mono (HBB1.out.trans (hb1.mono HBB1.out.size)).size)
          have HBV2 : Hid (Below w5.heap.size w5 wa2) := (HBV1.out.trans (hb1.mono HBV1.out.size)).trans (hal.mono (HBV1.out.trans (hb1.mono HBV1.out.size)).size)
          have HOW2 := Lib.hid ((HOW1.out.below NP_ok hb1).below NP_ok hal)
          have HQ2 := Lib.hid hq
          have HR2 : Hid (RV wa2 wa2.heap.size (.slice A2 n2 c2) (getP a s).items) := (hr1.keep (fun p hp => hal.cell hp.2)).reads fun b hb => by have := hal.size; omega
          have HQ1 := Lib.hid ((HQ1.out.below hb1 (by omega)).below hal (by omega))
          have HR1 := Lib.hid (((HR1.out.below hb1).below (hal.mono (by omega))).more (by omega : _ ≤ wa2.heap.size))
          have HWA := Lib.hid hwa
          clear hr1 hb1 hal hq hwa
          have HG0 := Lib.hid (getP_any b Ab nb cb s wa2 B (by have := HBB2.out.size; omega) (HB.out.below (HBB2.out.mono hB)))
          go_upto_region 21 with fail
          rw [← HWA.out]
          go_wp2_with fail
          refine HG0.out.mono ?_
          rintro e w3 ⟨⟨A3, n3, c3, rfl, hr1⟩, hb1⟩
          dsimp only [AV]
          obtain ⟨wa3, hwa⟩ : ∃ wa, wa = w3.alloc (.cells #[.int .i64 (getP b s).kind, .int .i64 (getP b s).int_, .int .i64 (getP b s).to_, .string (getP b s).text, .slice A3 n3 c3] 38) := ⟨_, rfl⟩
          have hal : Below w3.heap.size w3 wa3 := by rw [hwa]; exact (Below.refl _ _).alloc (Nat.le_refl _) _
          have hq : Blk wa3 w3.heap.size 38 #[.int .i64 (getP b s).kind, .int .i64 (getP b s).int_, .int .i64 (getP b s).to_, .string (getP b s).text, .slice A3 n3 c3] := by rw [hwa]; exact Blk.new _ _ _
          have hz3 : w3.heap.size < wa3.heap.size := by rw [hwa]; simp
          have hy3 : wa2.heap.size ≤ w3.heap.size := hb1.size
          have HBB3 : Hid (Below w.heap.size w wa3) := (HBB2.out.trans (hb1.mono HBB2.out.size)).trans (hal.mono (HBB2.out.trans (hb1.mono HBB2.out.size)).size)
          have HBV3 : Hid (Below w5.heap.size w5 wa3) := (HBV2.out.trans (hb1.mono HBV2.out.size)).trans (hal.mono (HBV2.out.trans (hb1.mono HBV2.out.size)).size)
          have HOW3 := Lib.hid ((HOW2.out.below NP_ok hb1).below NP_ok hal)
          have HQ3 := Lib.hid hq
          have HR3 : Hid (RV wa3 wa3.heap.size (.slice A3 n3 c3) (getP b s).items) := (hr1.keep (fun p hp => hal.cell hp.2)).reads fun b hb => by have := hal.size; omega
          have HQ1 := Lib.hid ((HQ1.out.below hb1 (by omega)).below hal (by omega))
          have HR1 := Lib.hid (((HR1.out.below hb1).below (hal.mono (by omega))).more (by omega : _ ≤ wa3.heap.size))
          have HQ2 := Lib.hid ((HQ2.out.below hb1 (by omega)).below hal (by omega))
          have HR2 := Lib.hid (((HR2.out.below hb1).below (hal.mono (by omega))).more (by omega : _ ≤ wa3.heap.size))
          have HWA := Lib.hid hwa
          clear hr1 hb1 hal hq hwa
          go_upto_region 22 with fail
          rw [← HWA.out]
          have HMP := Lib.hid (merged_pick x a b s A1 A2 A3 n1 c1 n2 c2 n3 c3 wa3 HQS.out HR1.out HR2.out HR3.out)
          dsimp only [AV] at HMP
          have e1 := fun i => HQ1.out.cell i
          have e2 := fun i => HQ2.out.cell i
          have e3 := fun i => HQ3.out.cell i
          go_wp2_with fail
          refine HMP.out.mono ?_
          rintro e w4 ⟨⟨A4, n4, c4, rfl, hr1⟩, hb1⟩
          dsimp only [AV]
          obtain ⟨vp, hvp⟩ : ∃ vp, vp = pick x a b s := ⟨_, rfl⟩
          rw [← hvp] at hr1
          rw [← hvp]
          have HTV : Hid (outM x a b (K.take (k + 1)) = outM x a b (K.take k) ++ (if vp.kind = 0 then [] else [⟨s, vp⟩])) := by rw [hvp]; exact HTK.out
          obtain ⟨wd, hwd⟩ : ∃ wd, wd = w4.alloc (.cells #[.int .i64 vp.kind, .int .i64 vp.int_, .int .i64 vp.to_, .string vp.text, .slice A4 n4 c4] 38) := ⟨_, rfl⟩
          have hal : Below w4.heap.size w4 wd := by rw [hwd]; exact (Below.refl _ _).alloc (Nat.le_refl _) _
          have hq4 : Blk wd w4.heap.size 38 #[.int .i64 vp.kind, .int .i64 vp.int_, .int .i64 vp.to_, .string vp.text, .slice A4 n4 c4] := by rw [hwd]; exact Blk.new _ _ _
          have hz4 : w4.heap.size < wd.heap.size := by rw [hwd]; simp
          have hy4 : wa3.heap.size ≤ w4.heap.size := hb1.size
          have HBD : Hid (Below w5.heap.size w5 wd) := (HBV3.out.trans (hb1.mono HBV3.out.size)).trans (hal.mono (HBV3.out.trans (hb1.mono HBV3.out.size)).size)
          have HOD := Lib.hid ((HOW3.out.below NP_ok hb1).below NP_ok hal)
          have HR4 : Hid (RV wd wa3.heap.size (.slice A4 n4 c4) vp.items) := (hr1.below hb1).below (hal.mono (by omega))
          have HWD := Lib.hid hwd
          have HQ4 := Lib.hid hq4
          have HVP := Lib.hid hvp
          clear hr1 hb1 hal hq4 hwd hvp e1 e2 e3
          go_upto_region 23 with fail
          rw [← HWD.out]
          have e4 := fun i => HQ4.out.cell i
          by_cases hk0 : vp.kind = 0
          · have hk0' : (vp.kind != 0) = false := by rw [hk0]; rfl
            have HM' : Hid (M.map Prod.fst = outM x a b (K.take (k + 1))) := by
              show _ = _
              rw [HTV.out, if_pos hk0, List.append_nil]; exact hM.out
            clear hk0
            go_wp2_with fail
            go_roundg (m - (k + 1))
            case measure => omega
            case rel => exact ⟨k + 1, v, M, by omega, rfl, rfl, by go_num, HM', HOD, HBD⟩
          · have hk0' : (vp.kind != 0) = true := by simpa using hk0
            obtain ⟨d, hd⟩ := HR4.out
            have HCV := Lib.hid (copyValue_any d (vp, .slice A4 n4 c4) wd wa3.heap.size (by omega) hd)
            dsimp only [AV] at HCV
            have hvw : ∀ g, v.ownBlock = some g → g < wd.heap.size := fun g hg => (HOD.out.blocks g hg).2
            have HVW := Lib.hid hvw
            have hm60' : M.length ≤ 60 := HML.out
            have hkb : (M.length + 1) * 80 ≤ 140737488355328 := by omega
            have hkm : M.length + 1 ≤ maxLen := by unfold maxLen; omega
            clear hd hvw
            go_wp2_with fail
            refine HCV.out.mono ?_
            rintro e w6 ⟨⟨A', n', c', rfl, hrv⟩, hb2⟩
            dsimp only [AV]
            have HO6 := Lib.hid (HOD.out.below NP_ok hb2)
            have HB6 : Hid (Below w5.heap.size w5 w6) := HBD.out.trans (hb2.mono HBD.out.size)
            have hz6 : wd.heap.size ≤ w6.heap.size := hb2.size
            have hz56 : w5.heap.size ≤ w6.heap.size := HB6.out.size
            have HRV := Lib.hid hrv
            clear hrv hb2 e4
            have hal : Below w6.heap.size w6 (w6.alloc (.cells #[.string s, .int .i64 vp.kind, .int .i64 vp.int_, .int .i64 vp.to_, .string vp.text, .slice A' n' c'] 40)) := (Below.refl _ _).alloc (Nat.le_refl _) _
            have HOC := Lib.hid (HO6.out.below NP_ok hal)
            have HBC : Hid (Below w5.heap.size w5 (w6.alloc (.cells #[.string s, .int .i64 vp.kind, .int .i64 vp.int_, .int .i64 vp.to_, .string vp.text, .slice A' n' c'] 40))) := HB6.out.trans (hal.mono hz56)
            have HRC : Hid (RVX (w6.alloc (.cells #[.string s, .int .i64 vp.kind, .int .i64 vp.int_, .int .i64 vp.to_, .string vp.text, .slice A' n' c'] 40)) (fun b => wd.heap.size ≤ b ∧ b < w6.heap.size) (.slice A' n' c') vp.items) := HRV.out.keep (fun p hp => hal.cell hp.2)
            have HRD : Hid (Reads (w6.alloc (.cells #[.string s, .int .i64 vp.kind, .int .i64 vp.int_, .int .i64 vp.to_, .string vp.text, .slice A' n' c'] 40)) (w6.heap.size + 1) 6 (some ⟨w6.heap.size, 0, none⟩) 1 (prV (⟨s, vp⟩, .slice A' n' c'))) := Reads.blk (Blk.new _ _ _) rfl
            clear hal
            go_wp2_with (at_builtin; refine wpList_append_any _ rfl _ _ 22 rfl w5.heap.size 40 i0 pZ 6 80 Try.underlying22 hi hq0 hq1 hq2 rfl (by decide) v M.length _ rfl HOC.out.own _ _ 1 1 _ rfl HRD.out (prV_one _ ⟨_, _, _, rfl⟩) hkm hkb (by simp; omega) ?_)
            intro v' w7 hown7 hg7 hat7
            have HO7 : Hid (OwnX prV 6 40 NP w7 w5.heap.size v' (M ++ [(⟨s, vp⟩, .slice A' n' c')])) := HOC.out.app NP_ok (S := fun b => wd.heap.size ≤ b ∧ b < w6.heap.size) HRC.out (fun b hb => ⟨by omega, by simp; omega, fun e => by have := HVW.out b e; omega⟩) hown7 hg7 (by rw [World.size_alloc]; exact hat7)
            have HB7 : Hid (Below w5.heap.size w5 w7) := HBC.out.grown hg7 HBC.out.size (fun g hg => (HOC.out.blocks g hg).1)
            have HM' : Hid ((M ++ [((⟨s, vp⟩ : Pr), Value.slice A' n' c')]).map Prod.fst = outM x a b (K.take (k + 1))) := by
              show _ = _
              rw [List.map_append, HTV.out, if_neg hk0, hM.out]; rfl
            clear hown7 hg7 hat7
            go_wp2_with fail
            go_roundg (m - (k + 1))
            case measure => omega
            case rel => exact ⟨k + 1, v', _, by omega, rfl, rfl, by go_num, HM', HO7, HB7⟩
        · obtain rfl : m = k := by omega
          have HM' : Hid (M.map Prod.fst = outM x a b K) := by
            have h := hM.out
            have e : K.take m = K := List.take_of_length_le (by rw [HKL.out]; exact Nat.le_refl _)
            rw [e] at h
            exact h
          obtain ⟨Ar, cr, rfl, hcr, hrd⟩ := RdX.of_own hown.out.own
          have hnone : Ar = none → M.length = 0 ∧ cr = 0 := fun e => by
            rcases hown.out.own.2 with ⟨h, h0⟩ | ⟨g, cap, cur, h, _⟩
            · injection h with _ _ h2
              omega
            · injection h with h; rw [e] at h; cases h
          have h20 : M.length ≤ 20 := by
            have h1 := HLEN.out (by rw [← HL.out, ← HV.out]; exact HVZ.out) K HK1.out (by rw [← HL.out]; exact HK2.out)
            rw [← HM'.out, List.length_map] at h1
            exact h1
          have h20' : ¬ (20 : Int) < (M.length : Int) := by omega
          have HCL := Lib.hid fun W => clipP_any Ar M.length cr W hcr hnone
          have HCS := Lib.hid clipS_nil
          have HRX : Hid (RPrX W1 (fun b => b < W1.heap.size) (.slice Ar M.length M.length) (outM x a b K)) :=
            ⟨Ar, M.length, M.length, M, HM'.out, rfl, rfl, ⟨Nat.le_refl _, by omega⟩, hrd.weak fun b hb => hb.2.2, fun x hx => (hown.out.nest x hx).weak fun b hb => hb.2.1⟩
          have HBF : Hid (Below w.heap.size w W1) := HB5.out.trans (hbel.out.mono (by omega))
          clear hcr hrd hnone
          go_wp2_with fail
          refine (HCL.out _).mono ?_
          rintro e w8 ⟨rfl, rfl⟩
          go_wp2_with fail
          refine (HCS.out _).mono ?_
          rintro e w9 ⟨rfl, rfl⟩
          go_wp2_with fail
          go_ret3
          refine ⟨HBF.out, .inr ⟨?_, Ar, M.length, M.length, K, rfl, HK1.out, ?_, ?_⟩⟩
          · rw [← HL.out, ← HV.out]; exact HVZ.out
          · rw [← HL.out]; exact HK2.out
          · exact HRX.out.reads fun b hb => hb
end Go.Proofs.Yteichcpbfdjjkaa
