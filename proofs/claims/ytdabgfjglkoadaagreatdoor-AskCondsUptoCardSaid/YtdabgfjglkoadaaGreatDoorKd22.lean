/-
  DERIVED. The walks of the reference's told and quoted. Conditions: sizes.
  A condition that came in, in memory; its bulk. Conditions: none.
  By an AI agent.
-/
import Derived.Test.YtdabgfjglkoadaaGreatDoorKd21
import Derived.Laws.IdiomStrings
import Derived.Test.YtdabgfjglkoadaaGreatDoorKd10
import Derived.Test.YtdabgfjglkoadaaGreatDoorKd07
import Derived.Test.YtdabgfjglkoadaaGreatDoorRows
namespace Go.Proofs.YtdabgfjglkoadaaGreatDoor
open Go.RowKit

def decS (n : Nat) : ByteArray := ⟨(Lib.decDigits n).toArray⟩
theorem decS_small {n : Nat} (h : n < 10) : decS n = ⟨#[UInt8.ofNat (48 + n)]⟩ := by
  unfold decS; rw [Lib.decDigits_one h]
theorem decS_big {n : Nat} (h : ¬ n < 10) : decS n = decS (n / 10) ++ decS (n % 10) := by
  apply ByteArray.ext
  unfold decS
  rw [Lib.decDigits, dif_neg h, Lib.decDigits_one (i := n % 10) (by omega)]
  simp

theorem decS_len (n : Nat) (h : n < 18446744073709551616) : (decS n).size ≤ 20 := by
  have := dd_len 19 n (by omega)
  show (Lib.decDigits n).toArray.size ≤ 20
  simpa using this
theorem decS_itoa (n : Nat) : (⟨(Lib.itoa (n : Int)).toArray⟩ : ByteArray) = decS n := by rw [Lib.itoa_nonneg]; rfl

set_option maxHeartbeats 4000000 in
set_option maxRecDepth 100000 in
theorem told_small (n : Nat) (hn : n < 10) (w : World) :
    Calls Tryz.prog 24 #[.int .i64 n] w fun e w' => e = .returned (.string (decS n)) ∧ Below w.heap.size w w' := by
  rw [decS_small hn]
  have kc : ∀ (w : World) (x : Value) (t : TypeId) (fr : Nat × Nat), x = .int .u8 (48 + n : Nat) → (convert 61 9 (.slice (some ⟨w.heap.size, 0, none⟩) 1 1)).run Tryz.prog (w.alloc (.cells #[x] t fr)) = .ok (.string ⟨#[UInt8.ofNat (48 + n)]⟩) (w.alloc (.cells #[x] t fr)) := by
    intro w x t fr hx
    have := run_convert_bytes_back (P := Tryz.prog) (w.alloc (.cells #[x] t fr)) 61 9 5 ⟨w.heap.size, 0, none⟩ 1 [UInt8.ofNat (48 + n)] (by kernel_rfl) (by kernel_rfl) (by kernel_rfl) (by
      intro j hj
      have : j = 0 := by simp at hj; exact hj
      subst this
      rw [show (⟨w.heap.size, 0, none⟩ : Addr).add 0 = ⟨w.heap.size, 0, none⟩ from rfl, World.cell?_alloc_mark, hx]
      simp
      omega)
    exact this
  go_enter Tryz.func24, Tryz.ntmps24
  go_wp2_with fail
  go_ret
  refine ⟨?_, (Below.refl _ w).alloc (Nat.le_refl _) _⟩
  rw [UInt8.ofNat_add]; rfl

set_option maxHeartbeats 4000000 in
set_option maxRecDepth 100000 in
theorem told_any : ∀ n : Nat, n ≤ 4294967296 → ∀ w : World,
    Calls Tryz.prog 24 #[.int .i64 n] w fun e w' => e = .returned (.string (decS n)) ∧ Below w.heap.size w w' := by
  intro n
  induction n using Nat.strongRecOn with
  | _ n ih =>
    intro hb w
    by_cases hn : n < 10
    · exact told_small n hn w
    · rw [decS_big hn]
      have h1 := ih (n / 10) (by omega) (by omega)
      have h2 := fun w => told_small (n % 10) (by omega) w
      have e1 : ((n / 10 : Nat) : Int) = (n : Int) / 10 := rfl
      have e2 : ((n % 10 : Nat) : Int) = (n : Int) % 10 := rfl
      have z1 := decS_len (n / 10) (by omega)
      have z2 := decS_len (n % 10) (by omega)
      rw [e1] at h1
      rw [e2] at h2
      clear ih
      go_enter Tryz.func24, Tryz.ntmps24
      go_wp2_with fail
      refine (h1 _).mono ?_
      rintro e w1 ⟨rfl, hb1⟩
      go_wp2_with fail
      refine (h2 _).mono ?_
      rintro e w2 ⟨rfl, hb2⟩
      go_wp2_with fail
      go_ret
      exact ⟨rfl, hb1.trans (hb2.mono hb1.size)⟩

theorem wd_decS {n : Int} (h : 0 ≤ n) : wd n = decS n.toNat := by
  obtain ⟨k, rfl⟩ : ∃ k : Nat, n = (k : Int) := ⟨n.toNat, by omega⟩
  exact decS_itoa k
theorem told_wd (n : Int) (h0 : 0 ≤ n) (h1 : n ≤ 4294967296) (w : World) :
    Calls Tryz.prog 24 #[.int .i64 n] w fun e w' => e = .returned (.string (wd n)) ∧ Below w.heap.size w w' := by
  obtain ⟨k, rfl⟩ : ∃ k : Nat, n = (k : Int) := ⟨n.toNat, by omega⟩
  rw [wd_decS h0]
  exact told_any k (by omega) w
set_option maxHeartbeats 4000000 in
set_option maxRecDepth 100000 in
theorem quotedR_any (s : ByteArray) (w : World) (hs : s.size ≤ 4194304) :
    Calls Tryz.prog 23 #[.string s] w fun e w' => e = .returned (.string (quoS s)) ∧ Below w.heap.size w w' := by
  have HL : Hid (s.data.toList.length = s.size) := by show _ = _; simp
  have hq := quoS_eq s
  obtain ⟨Q, hQ⟩ : ∃ Q, Q = quoS s := ⟨_, rfl⟩
  rw [← hQ]
  rw [← hQ] at hq
  have HQ := Lib.hid hq
  clear hq hQ
  go_enter Tryz.func23, Tryz.ntmps23
  go_wp2_with fail
  go_loopg [3, 4] s.size (fun gg s3 s4 wr => ∃ k : Nat, ∃ T : ByteArray, k + gg = s.size ∧ s4 = .int .i64 (k : Int) ∧ s3 = .string T ∧ Hid (T = ⟨#[34]⟩ ++ ⟨(escL (s.data.toList.take k)).toArray⟩) ∧ T.size ≤ 2 * k + 1 ∧ Hid (Below w.heap.size w wr))
  case atStart => exact ⟨0, _, by omega, rfl, rfl, rfl, by show 1 ≤ 1; omega, Below.refl _ _⟩
  case round =>
    obtain ⟨k, T, hkg, rfl, rfl, hT, hTs, hbel⟩ := hrel
    by_cases hk : k < s.size
    · have hkl : k < s.data.toList.length := by rw [HL.out]; exact hk
      have hst := escL_take hkl
      have hsc : s[k] = s.data.toList[k] := rfl
      have j1 : (k : Int) < (s.size : Int) := by omega
      have j0 : (0 : Int) ≤ (k : Int) := by omega
      have j2 : (k : Int) ≤ (k : Int) + 1 := by omega
      have j3 : (k : Int) + 1 ≤ (s.size : Int) := by omega
      obtain ⟨c, hcc⟩ : ∃ c, c = s.data.toList[k] := ⟨_, rfl⟩
      rw [← hcc] at hst hsc
      have HX : Hid (s.extract k (k + 1) = ⟨#[c]⟩) := by
        show _ = _
        apply ByteArray.ext
        apply Array.ext'
        rw [hcc]
        rw [ByteArray.data_extract, Array.toList_extract]
        simp only [List.extract_eq_take_drop]
        rw [Nat.add_sub_cancel_left]
        rw [List.drop_eq_getElem_cons hkl]
        rfl
      obtain ⟨X, hX⟩ : ∃ X, X = s.extract k (k + 1) := ⟨_, rfl⟩
      have HX2 : Hid (X = ⟨#[c]⟩) := hX.trans HX.out
      have hXs : X.size = 1 := by rw [HX2.out]; rfl
      have HST := Lib.hid hst
      clear hst hcc
      have hX' := hX.symm
      clear hX
      by_cases c34 : c = 34
      · subst c34
        have hsn : s[k].toNat = 34 := by rw [hsc]; rfl
        have HT2 : Hid (T ++ ⟨#[92]⟩ ++ X = ⟨#[34]⟩ ++ ⟨(escL (s.data.toList.take (k + 1))).toArray⟩) := by
          show _ = _
          rw [HST.out, hT.out, HX2.out]
          apply ByteArray.ext
          simp [escB]
        clear hsc HST
        go_wp2_with fail
        go_roundg (s.size - (k + 1))
        case measure => omega
        case rel => exact ⟨k + 1, T ++ ⟨#[92]⟩ ++ X, by omega, by go_num, rfl, HT2, by simp only [ByteArray.size_append, hXs]; show _ + 1 + 1 ≤ _; omega, hbel⟩
      by_cases c92 : c = 92
      · subst c92
        have hsn : s[k].toNat = 92 := by rw [hsc]; rfl
        have HT2 : Hid (T ++ ⟨#[92]⟩ ++ X = ⟨#[34]⟩ ++ ⟨(escL (s.data.toList.take (k + 1))).toArray⟩) := by
          show _ = _
          rw [HST.out, hT.out, HX2.out]
          apply ByteArray.ext
          simp [escB]
        clear hsc HST
        go_wp2_with fail
        go_roundg (s.size - (k + 1))
        case measure => omega
        case rel => exact ⟨k + 1, T ++ ⟨#[92]⟩ ++ X, by omega, by go_num, rfl, HT2, by simp only [ByteArray.size_append, hXs]; show _ + 1 + 1 ≤ _; omega, hbel⟩
      have n34 : ((c.toNat : Int) == 34) = false := by
        rw [beq_eq_false_iff_ne]
        intro h
        exact c34 (UInt8.toNat_inj.1 (by show c.toNat = 34; omega))
      have n92 : ((c.toNat : Int) == 92) = false := by
        rw [beq_eq_false_iff_ne]
        intro h
        exact c92 (UInt8.toNat_inj.1 (by show c.toNat = 92; omega))
      have hsn : s[k].toNat = c.toNat := by rw [hsc]
      have HT2 : Hid (T ++ X = ⟨#[34]⟩ ++ ⟨(escL (s.data.toList.take (k + 1))).toArray⟩) := by
        show _ = _
        rw [HST.out, hT.out, HX2.out, escB_other c34 c92]
        apply ByteArray.ext
        simp
      clear hsc HST c34 c92
      go_wp2_with fail
      go_roundg (s.size - (k + 1))
      case measure => omega
      case rel => exact ⟨k + 1, T ++ X, by omega, by go_num, rfl, HT2, by simp only [ByteArray.size_append, hXs]; omega, hbel⟩
    · obtain rfl : k = s.size := by omega
      have ht : s.data.toList.take s.size = s.data.toList := List.take_of_length_le (by rw [HL.out]; exact Nat.le_refl _)
      rw [ht] at hT
      have HR : Hid (T ++ ⟨#[34]⟩ = Q) := by
        show _ = _
        rw [hT.out, ← HQ.out]
        rfl
      clear ht
      go_wp2_with fail
      go_ret
      exact ⟨by rw [← HR.out]; rfl, hbel.out⟩

end Go.Proofs.YtdabgfjglkoadaaGreatDoor
namespace Go.Proofs.YtdabgfjglkoadaaGreatDoor
open Go.ChangeShapes Go.WideShapes Go.RowKit

theorem cellsCd : Tryz.prog.cellsOf 27 = 10 := by kernel_rfl
theorem cells_of_conds : Tryz.prog.cellsOf 25 = 1 := by kernel_rfl
theorem RCdd.deeper {W : World} {B : Nat} : ∀ {d : Nat} {v : Value} {l : List Cd}, RCdd W B d v l → RCdd W B (d + 1) v l
  | 0, _, _, ⟨h1, A, c, h2⟩ => ⟨A, 0, c, [], by rw [h1]; rfl, h2, rfl, ⟨Nat.zero_le _, by omega⟩, ⟨rfl, fun h => absurd h (by omega)⟩, fun x hx => by cases hx⟩
  | d + 1, _, _, ⟨A, n, c, M, h1, h2, h3, h4, h5, h6⟩ => ⟨A, n, c, M, h1, h2, h3, h4, h5, fun x hx => ⟨(h6 x hx).1, RCdd.deeper (h6 x hx).2⟩⟩
theorem RCdd.up {W : World} {B d d' : Nat} {v : Value} {l : List Cd} (h : RCdd W B d v l) (hd : d ≤ d') : RCdd W B d' v l := by
  obtain ⟨k, rfl⟩ : ∃ k, d' = d + k := ⟨d' - d, by omega⟩
  clear hd
  induction k with
  | zero => exact h
  | succ k ih => exact ih.deeper
section
variable {H : Type} {enc : TypeId × Value → H} {P : Program} {W : World}
/-- a slice that was read, row by row, each row with its reading -/
theorem open_listB {α : Type} {en : α → List Value} {C Y : Nat} {Q : Nat → α → DataW H → Prop} {t e : TypeId} {fuel : Nat} {u : Value} {y : DataW H × List MemPlace} (ht : P.underlying t = some (.slice e)) (hC : P.cellsOf e = C) (hC0 : 0 < C) (hY : P.bytesOf e = Y) (hen : ∀ x, (en x).length = C)
    (hrow : ∀ (m : Nat) (cs : List Value) (z : DataW H × List MemPlace), m < fuel → DataW.trod enc P W 0 (fun _ => true) true m e cs = some z → (∀ x ∈ z.2, x.block < W.heap.size) → Fits P e z.1 → ∃ x, en x = cs ∧ Q m x z.1)
    (h : DataW.trod enc P W 0 (fun _ => true) true fuel t [u] = some y) (hp : ∀ x ∈ y.2, x.block < W.heap.size) (hfit : Fits P t y.1) :
    ∃ A n c, ∃ M : List α, u = .slice A n c ∧ n = M.length ∧ (n ≤ c ∧ n * Y ≤ 140737488351232) ∧ Reads W W.heap.size C A n (M.flatMap en) ∧ ((M = [] ∧ y.1 = .nil) ∨ ∃ (es rs : List (DataW H)) (m : Nat), m < fuel ∧ y.1 = .slice es rs ∧ es.length = M.length ∧ ∀ (i : Nat) (x : α), M[i]? = some x → ∃ z, es[i]? = some z ∧ Q m x z) := by
  rcases DataW.trod_slice ht h with ⟨hcs, hx⟩ | ⟨a, len, cap, elems, rest, m, rfl, hcs, rfl, _, hl, hcap, hel, hi, hsp, _⟩
  · obtain rfl : u = .slice none 0 0 := by simpa using hcs
    exact ⟨none, 0, 0, [], rfl, rfl, ⟨Nat.le_refl _, by omega⟩, ⟨by simp, fun h => absurd h (by omega)⟩, .inl ⟨rfl, by rw [hx]⟩⟩
  · obtain rfl : u = .slice (some a) len cap := by simpa using hcs
    rw [hC] at hi
    have hs := hfit.slice ht
    simp only [List.length_map] at hs
    rw [hel, hY] at hs
    have hs : len * Y ≤ 140737488351232 := Nat.le_trans (Nat.mul_le_mul_right _ (by omega)) hs
    obtain ⟨M, h1, h2⟩ := choose_list (p := fun i x => (∀ j w, (en x)[j]? = some w → W.cell? (a.add (i * C + j)) = some w) ∧ ∃ z, (elems.map (·.1))[i]? = some z ∧ Q m x z) len fun i hil => by
      have h1 := hi i hil
      rw [List.getElem?_eq_getElem (by omega)] at h1
      obtain ⟨cs, hc, htr⟩ := Option.bind_eq_some_iff.1 h1
      obtain ⟨_, hrl, hat⟩ := World.cells?_some hc
      obtain ⟨x, hx, hq⟩ := hrow m cs _ (Nat.lt_succ_self m) htr (fun z hz => hp z (List.mem_append_right _ (List.mem_flatMap.2 ⟨_, List.mem_append_left _ (List.getElem_mem _), hz⟩)))
        (hfit.elem ht (List.mem_map.2 ⟨_, List.getElem_mem _, rfl⟩))
      refine ⟨x, fun j w hj => ?_, _, ?_, hq⟩
      · rw [hx] at hj
        have hjl : j < C := by rw [← hrl]; exact (List.getElem?_eq_some_iff.1 hj).1
        rw [← add_of_add, hat j hjl, hj]
      · rw [List.getElem?_map, List.getElem?_eq_getElem (by omega)]; rfl
    refine ⟨some a, len, cap, M, rfl, h1.symm, ⟨hl, hs⟩, ⟨by rw [fm_len hen, h1], fun hn => ⟨a, rfl, ?_, fun k w hk => ?_⟩⟩, .inr ⟨_, _, m, Nat.lt_succ_self m, rfl, by rw [List.length_map, hel, h1], fun i x hx => (h2 i x hx).2⟩⟩
    · exact hp (.cell a.block a.off) (List.mem_append_left _ (MemPlace.mem_row.2 ⟨0, Nat.mul_pos (by omega) (by rw [hC]; exact hC0), by simp⟩))
    · have hkl := (List.getElem?_eq_some_iff.1 hk).1
      rw [fm_len hen] at hkl
      have hkk : k / C * C + k % C = k := by rw [Nat.mul_comm]; exact Nat.div_add_mod k C
      have hd : k / C < M.length := Nat.div_lt_of_lt_mul (by rw [Nat.mul_comm]; exact hkl)
      have hm := Nat.mod_lt k hC0
      obtain ⟨x, hx⟩ : ∃ x, M[k / C]? = some x := ⟨_, List.getElem?_eq_getElem hd⟩
      have h4 := fm_get en C hen M (k / C) (k % C) x hx hm
      rw [hkk, hk] at h4
      have h5 := (h2 _ x hx).1 (k % C) w h4.symm
      rw [hkk] at h5
      exact h5
theorem bulk_all {H : Type} : ∀ {M : List (Cd × Value × Value)} {es : List (DataW H)}, es.length = M.length → (∀ (i : Nat) (x : Cd × Value × Value), M[i]? = some x → ∃ z, es[i]? = some z ∧ cdB x.1 ≤ Rows.uptoBulk z) → cdBs (M.map Prod.fst) ≤ Rows.uptoBulkAll es
  | [], es, hl, _ => by
    obtain rfl : es = [] := List.eq_nil_of_length_eq_zero hl
    rw [List.map_nil, cdBs]; exact Nat.zero_le _
  | x :: M, [], hl, _ => by cases hl
  | x :: M, e :: es, hl, h => by
    obtain ⟨z, hz, hb⟩ := h 0 x rfl
    obtain rfl : e = z := by simpa using hz
    have ih := bulk_all (M := M) (es := es) (by simpa using hl) fun i y hy => by simpa using h (i + 1) y (by simpa using hy)
    rw [List.map_cons, cdBs, Rows.uptoBulkAll]
    omega
end
section
variable {H : Type} {enc : TypeId × Value → H} {W : World}
set_option maxRecDepth 100000 in
theorem cond_open : ∀ (fuel : Nat) (cs : List Value) (x : DataW H × List MemPlace),
    DataW.trod enc Tryz.prog W 0 (fun _ => true) true fuel 27 cs = some x → (∀ y ∈ x.2, y.block < W.heap.size) → Fits Tryz.prog 27 x.1 → ∃ c : Cd × Value × Value, cdV c = cs ∧ RCd W W.heap.size fuel c.2.1 c.2.2 c.1 ∧ cdB c.1 ≤ Rows.uptoBulk x.1 := by
  intro fuel
  induction fuel using Nat.strongRecOn with
  | _ fuel ih =>
    intro cs x h hp hfit
    obtain ⟨xs, n, rfl, rfl, hlen, hxl, hf⟩ := DataW.trod_struct Tryz.underlying27 h
    rw [cellsCd] at hlen
    match cs, hlen with
    | [u0, u1, u2, u3, u4, u5, u6, u7, u8, u9], _ =>
      match xs, hxl with
      | [y0, y1, y2, y3, y4, y5], _ =>
        have g0 : DataW.trod enc Tryz.prog W 0 (fun _ => true) true n 3 (([u0, u1, u2, u3, u4, u5, u6, u7, u8, u9].drop 0).take (Tryz.prog.cellsOf 3)) = some y0 := hf 0 _ rfl
        have g1 : DataW.trod enc Tryz.prog W 0 (fun _ => true) true n 9 (([u0, u1, u2, u3, u4, u5, u6, u7, u8, u9].drop 1).take (Tryz.prog.cellsOf 9)) = some y1 := hf 1 _ rfl
        have g2 : DataW.trod enc Tryz.prog W 0 (fun _ => true) true n 9 (([u0, u1, u2, u3, u4, u5, u6, u7, u8, u9].drop 2).take (Tryz.prog.cellsOf 9)) = some y2 := hf 2 _ rfl
        have g3 : DataW.trod enc Tryz.prog W 0 (fun _ => true) true n 24 (([u0, u1, u2, u3, u4, u5, u6, u7, u8, u9].drop 3).take (Tryz.prog.cellsOf 24)) = some y3 := hf 3 _ rfl
        have g4 : DataW.trod enc Tryz.prog W 0 (fun _ => true) true n 3 (([u0, u1, u2, u3, u4, u5, u6, u7, u8, u9].drop 8).take (Tryz.prog.cellsOf 3)) = some y4 := hf 4 _ rfl
        have g5 : DataW.trod enc Tryz.prog W 0 (fun _ => true) true n 25 (([u0, u1, u2, u3, u4, u5, u6, u7, u8, u9].drop 9).take (Tryz.prog.cellsOf 25)) = some y5 := hf 5 _ rfl
        rw [cells_of_int] at g0 g4
        rw [cells_of_str] at g1 g2
        rw [cellsV] at g3
        rw [cells_of_conds] at g5
        change DataW.trod enc Tryz.prog W 0 (fun _ => true) true n 3 [u0] = some y0 at g0
        change DataW.trod enc Tryz.prog W 0 (fun _ => true) true n 9 [u1] = some y1 at g1
        change DataW.trod enc Tryz.prog W 0 (fun _ => true) true n 9 [u2] = some y2 at g2
        change DataW.trod enc Tryz.prog W 0 (fun _ => true) true n 24 [u3, u4, u5, u6, u7] = some y3 at g3
        change DataW.trod enc Tryz.prog W 0 (fun _ => true) true n 3 [u8] = some y4 at g4
        change DataW.trod enc Tryz.prog W 0 (fun _ => true) true n 25 [u9] = some y5 at g5
        obtain ⟨o, e0, rfl, _⟩ := DataW.trod_int Tryz.underlying3 g0
        obtain ⟨s, e1, rfl, _⟩ := DataW.trod_string Tryz.underlying9 g1
        obtain ⟨t, e2, rfl, _⟩ := DataW.trod_string Tryz.underlying9 g2
        obtain ⟨k, e4, rfl, _⟩ := DataW.trod_int Tryz.underlying3 g4
        simp at e0 e1 e2 e4
        subst e0 e1 e2 e4
        obtain ⟨⟨v, vi⟩, hv, hr⟩ := val_open n _ y3 g3 (fun y hy => hp y (by simp [hy])) (hfit.part Tryz.underlying27 (j := 3) rfl rfl)
        obtain ⟨A, len, cap, M, rfl, h1, h2, h3, h4⟩ := open_listB (en := cdV) (Q := fun m x z => RCd W W.heap.size m x.2.1 x.2.2 x.1 ∧ cdB x.1 ≤ Rows.uptoBulk z) Tryz.underlying25 cellsCd (by omega) (show _ = 136 by kernel_rfl) cdV_len
          (fun m cs z hm htr hz hft => ih m (by omega) cs z htr hz hft) g5 (fun y hy => hp y (by simp [hy])) (hfit.part Tryz.underlying27 (j := 5) rfl rfl)
        have hup : ∀ {m d : Nat} {v : Value} {l : List Cd}, RCdd W W.heap.size m v l → m ≤ d → RCdd W W.heap.size d v l := fun h hd => RCdd.up h hd
        refine ⟨(.mk o s t v k (M.map Prod.fst), vi, .slice A len cap), ?_, ⟨⟨n, hr⟩, ?_⟩, ?_⟩
        · have hv' : cdV (.mk o s t v k (M.map Prod.fst), vi, .slice A len cap) = [.int .i64 o, .string s, .string t] ++ vlV (v, vi) ++ [.int .i64 k, .slice A len cap] := rfl
          rw [hv', hv]; rfl
        · refine ⟨A, len, cap, M, rfl, rfl, h1, h2, h3, fun x hx => ?_⟩
          rcases h4 with ⟨rfl, _⟩ | ⟨es, rs, m, hm, _, _, h5⟩
          · cases hx
          · obtain ⟨i, hi, e⟩ := List.mem_iff_getElem.1 hx
            obtain ⟨z, _, hq, _⟩ := h5 i x (by rw [List.getElem?_eq_getElem hi, e])
            exact ⟨hq.1, hup hq.2 (by omega)⟩
        · have hk : cdBs (M.map Prod.fst) ≤ Rows.uptoBulk y5.1 := by
            rcases h4 with ⟨rfl, _⟩ | ⟨es, rs, m, hm, he, hl, h5⟩
            · rw [List.map_nil, cdBs]; exact Nat.zero_le _
            · rw [he, Rows.uptoBulk]
              have := bulk_all hl fun i x hx => by
                obtain ⟨z, hz, _, hq⟩ := h5 i x hx
                exact ⟨z, hz, hq⟩
              omega
          rw [cdB_eq]
          show 1 + t.size + cdBs (M.map Prod.fst) ≤ _
          have ht : t.data.toList.length = t.size := Array.length_toList
          simp only [List.map_cons, List.map_nil, Rows.uptoBulk, Rows.uptoBulkAll]
          omega
set_option maxRecDepth 100000 in
/-- a condition that came in -/
theorem cond_arg {W : World} {r : Reach} {b0 : Nat} {v : Value} {d : DataW H} {p : List MemPlace} (hv : Value.okWide Tryz.prog W r b0 27 v) (h : DataW.Trod enc Tryz.prog W 0 (fun _ => true) true 27 v d p) (hp : ∀ x ∈ p, x.block < W.heap.size) (hfit : Fits Tryz.prog 27 d) :
    ∃ dd c Ai ni ci Ak nk ck, v = ACd (c, .slice Ai ni ci, .slice Ak nk ck) ∧ RCd W W.heap.size dd (.slice Ai ni ci) (.slice Ak nk ck) c ∧ cdB c ≤ Rows.uptoBulk d := by
  obtain ⟨cs, rfl, _⟩ := okWide_struct Tryz.underlying27 hv
  obtain ⟨fuel, hf⟩ := h
  obtain ⟨⟨x, vi, vk⟩, hx, hr, hb⟩ := cond_open fuel _ _ hf hp hfit
  obtain ⟨Ai, ni, ci, e1⟩ := hr.1.slice
  obtain ⟨Ak, nk, ck, e2⟩ := hr.2.slice
  dsimp only at e1 e2
  subst e1 e2
  refine ⟨fuel, x, Ai, ni, ci, Ak, nk, ck, ?_, hr, hb⟩
  have e2 : cs = (cdV (x, .slice Ai ni ci, .slice Ak nk ck)).toArray := by
    rw [hx]
    rfl
  rw [e2]
  rfl
end
end Go.Proofs.YtdabgfjglkoadaaGreatDoor
