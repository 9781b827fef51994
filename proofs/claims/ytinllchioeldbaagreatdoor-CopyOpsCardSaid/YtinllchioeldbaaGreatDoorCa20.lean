/-
  DERIVED. The walks of the reference's told, quoted and spotText. Conditions: sizes.
  The walks of a copy's checkPlace and checkType. Conditions: sizes.
  By an AI agent.
-/
import Derived.Test.YtinllchioeldbaaGreatDoorCa11
import Derived.Test.YtinllchioeldbaaGreatDoorCa12
import Derived.Laws.IdiomStrings
import Derived.Test.YtinllchioeldbaaGreatDoorCa13
namespace Go.Proofs.YtinllchioeldbaaGreatDoor
open Go.RowKit

def decS (n : Nat) : ByteArray := ⟨(Lib.decDigits n).toArray⟩
theorem decS_small {n : Nat} (h : n < 10) : decS n = ⟨#[UInt8.ofNat (48 + n)]⟩ := by
  unfold decS; rw [Lib.decDigits_one h]
theorem decS_big {n : Nat} (h : ¬ n < 10) : decS n = decS (n / 10) ++ decS (n % 10) := by
  apply ByteArray.ext
  unfold decS
  rw [Lib.decDigits, dif_neg h, Lib.decDigits_one (i := n % 10) (by omega)]
  simp

theorem decS_len (n : Nat) (h : n < 18446744073709551616) : (decS n).size ≤ 20 := by
  have := dd_len 19 n (by omega)
  show (Lib.decDigits n).toArray.size ≤ 20
  simpa using this
theorem decS_itoa (n : Nat) : (⟨(Lib.itoa (n : Int)).toArray⟩ : ByteArray) = decS n := by rw [Lib.itoa_nonneg]; rfl

set_option maxHeartbeats 4000000 in
set_option maxRecDepth 100000 in
theorem told_small (n : Nat) (hn : n < 10) (w : World) :
    Calls Tryz.prog 31 #[.int .i64 n] w fun e w' => e = .returned (.string (decS n)) ∧ Below w.heap.size w w' := by
  rw [decS_small hn]
  have kc : ∀ (w : World) (x : Value) (t : TypeId) (fr : Nat × Nat), x = .int .u8 (48 + n : Nat) → (convert 52 9 (.slice (some ⟨w.heap.size, 0, none⟩) 1 1)).run Tryz.prog (w.alloc (.cells #[x] t fr)) = .ok (.string ⟨#[UInt8.ofNat (48 + n)]⟩) (w.alloc (.cells #[x] t fr)) := by
    intro w x t fr hx
    have := run_convert_bytes_back (P := Tryz.prog) (w.alloc (.cells #[x] t fr)) 52 9 5 ⟨w.heap.size, 0, none⟩ 1 [UInt8.ofNat (48 + n)] (by kernel_rfl) (by kernel_rfl) (by kernel_rfl) (by
      intro j hj
      have : j = 0 := by simp at hj; exact hj
      subst this
      rw [show (⟨w.heap.size, 0, none⟩ : Addr).add 0 = ⟨w.heap.size, 0, none⟩ from rfl, World.cell?_alloc_mark, hx]
      simp
      omega)
    exact this
  go_enter Tryz.func31, Tryz.ntmps31
  go_wp2_with fail
  go_ret
  refine ⟨?_, (Below.refl _ w).alloc (Nat.le_refl _) _⟩
  rw [UInt8.ofNat_add]; rfl

set_option maxHeartbeats 4000000 in
set_option maxRecDepth 100000 in
theorem told_any : ∀ n : Nat, n ≤ 4294967296 → ∀ w : World,
    Calls Tryz.prog 31 #[.int .i64 n] w fun e w' => e = .returned (.string (decS n)) ∧ Below w.heap.size w w' := by
  intro n
  induction n using Nat.strongRecOn with
  | _ n ih =>
    intro hb w
    by_cases hn : n < 10
    · exact told_small n hn w
    · rw [decS_big hn]
      have h1 := ih (n / 10) (by omega) (by omega)
      have h2 := fun w => told_small (n % 10) (by omega) w
      have e1 : ((n / 10 : Nat) : Int) = (n : Int) / 10 := rfl
      have e2 : ((n % 10 : Nat) : Int) = (n : Int) % 10 := rfl
      have z1 := decS_len (n / 10) (by omega)
      have z2 := decS_len (n % 10) (by omega)
      rw [e1] at h1
      rw [e2] at h2
      clear ih
      go_enter Tryz.func31, Tryz.ntmps31
      go_wp2_with fail
      refine (h1 _).mono ?_
      rintro e w1 ⟨rfl, hb1⟩
      go_wp2_with fail
      refine (h2 _).mono ?_
      rintro e w2 ⟨rfl, hb2⟩
      go_wp2_with fail
      go_ret
      exact ⟨rfl, hb1.trans (hb2.mono hb1.size)⟩

theorem wd_decS {n : Int} (h : 0 ≤ n) : wd n = decS n.toNat := by
  obtain ⟨k, rfl⟩ : ∃ k : Nat, n = (k : Int) := ⟨n.toNat, by omega⟩
  exact decS_itoa k
theorem told_wd (n : Int) (h0 : 0 ≤ n) (h1 : n ≤ 4294967296) (w : World) :
    Calls Tryz.prog 31 #[.int .i64 n] w fun e w' => e = .returned (.string (wd n)) ∧ Below w.heap.size w w' := by
  obtain ⟨k, rfl⟩ : ∃ k : Nat, n = (k : Int) := ⟨n.toNat, by omega⟩
  rw [wd_decS h0]
  exact told_any k (by omega) w
theorem wd_le {n : Int} (h0 : 0 ≤ n) (h1 : n ≤ 4294967296) : (wd n).size ≤ 20 := by
  rw [wd_decS h0]
  exact decS_len _ (by omega)

set_option maxHeartbeats 4000000 in
set_option maxRecDepth 100000 in
theorem quotedR_any (s : ByteArray) (w : World) (hs : s.size ≤ 4194304) :
    Calls Tryz.prog 32 #[.string s] w fun e w' => e = .returned (.string (quoS s)) ∧ Below w.heap.size w w' := by
  have HL : Hid (s.data.toList.length = s.size) := by show _ = _; simp
  have hq := quoS_eq s
  obtain ⟨Q, hQ⟩ : ∃ Q, Q = quoS s := ⟨_, rfl⟩
  rw [← hQ]
  rw [← hQ] at hq
  have HQ := Lib.hid hq
  clear hq hQ
  go_enter Tryz.func32, Tryz.ntmps32
  go_wp2_with fail
  go_loopg [3, 4] s.size (fun gg s3 s4 wr => ∃ k : Nat, ∃ T : ByteArray, k + gg = s.size ∧ s4 = .int .i64 (k : Int) ∧ s3 = .string T ∧ Hid (T = ⟨#[34]⟩ ++ ⟨(escL (s.data.toList.take k)).toArray⟩) ∧ T.size ≤ 2 * k + 1 ∧ Hid (Below w.heap.size w wr))
  case atStart => exact ⟨0, _, by omega, rfl, rfl, rfl, by show 1 ≤ 1; omega, Below.refl _ _⟩
  case round =>
    obtain ⟨k, T, hkg, rfl, rfl, hT, hTs, hbel⟩ := hrel
    by_cases hk : k < s.size
    · have hkl : k < s.data.toList.length := by rw [HL.out]; exact hk
      have hst := escL_take hkl
      have hsc : s[k] = s.data.toList[k] := rfl
      have j1 : (k : Int) < (s.size : Int) := by omega
      have j0 : (0 : Int) ≤ (k : Int) := by omega
      have j2 : (k : Int) ≤ (k : Int) + 1 := by omega
      have j3 : (k : Int) + 1 ≤ (s.size : Int) := by omega
      obtain ⟨c, hcc⟩ : ∃ c, c = s.data.toList[k] := ⟨_, rfl⟩
      rw [← hcc] at hst hsc
      have HX : Hid (s.extract k (k + 1) = ⟨#[c]⟩) := by
        show _ = _
        apply ByteArray.ext
        apply Array.ext'
        rw [hcc]
        rw [ByteArray.data_extract, Array.toList_extract]
        simp only [List.extract_eq_take_drop]
        rw [Nat.add_sub_cancel_left]
        rw [List.drop_eq_getElem_cons hkl]
        rfl
      obtain ⟨X, hX⟩ : ∃ X, X = s.extract k (k + 1) := ⟨_, rfl⟩
      have HX2 : Hid (X = ⟨#[c]⟩) := hX.trans HX.out
      have hXs : X.size = 1 := by rw [HX2.out]; rfl
      have HST := Lib.hid hst
      clear hst hcc
      have hX' := hX.symm
      clear hX
      by_cases c34 : c = 34
      · subst c34
        have hsn : s[k].toNat = 34 := by rw [hsc]; rfl
        have HT2 : Hid (T ++ ⟨#[92]⟩ ++ X = ⟨#[34]⟩ ++ ⟨(escL (s.data.toList.take (k + 1))).toArray⟩) := by
          show _ = _
          rw [HST.out, hT.out, HX2.out]
          apply ByteArray.ext
          simp [escB]
        clear hsc HST
        go_wp2_with fail
        go_roundg (s.size - (k + 1))
        case measure => omega
        case rel => exact ⟨k + 1, T ++ ⟨#[92]⟩ ++ X, by omega, by go_num, rfl, HT2, by simp only [ByteArray.size_append, hXs]; show _ + 1 + 1 ≤ _; omega, hbel⟩
      by_cases c92 : c = 92
      · subst c92
        have hsn : s[k].toNat = 92 := by rw [hsc]; rfl
        have HT2 : Hid (T ++ ⟨#[92]⟩ ++ X = ⟨#[34]⟩ ++ ⟨(escL (s.data.toList.take (k + 1))).toArray⟩) := by
          show _ = _
          rw [HST.out, hT.out, HX2.out]
          apply ByteArray.ext
          simp [escB]
        clear hsc HST
        go_wp2_with fail
        go_roundg (s.size - (k + 1))
        case measure => omega
        case rel => exact ⟨k + 1, T ++ ⟨#[92]⟩ ++ X, by omega, by go_num, rfl, HT2, by simp only [ByteArray.size_append, hXs]; show _ + 1 + 1 ≤ _; omega, hbel⟩
      have n34 : ((c.toNat : Int) == 34) = false := by
        rw [beq_eq_false_iff_ne]
        intro h
        exact c34 (UInt8.toNat_inj.1 (by show c.toNat = 34; omega))
      have n92 : ((c.toNat : Int) == 92) = false := by
        rw [beq_eq_false_iff_ne]
        intro h
        exact c92 (UInt8.toNat_inj.1 (by show c.toNat = 92; omega))
      have hsn : s[k].toNat = c.toNat := by rw [hsc]
      have HT2 : Hid (T ++ X = ⟨#[34]⟩ ++ ⟨(escL (s.data.toList.take (k + 1))).toArray⟩) := by
        show _ = _
        rw [HST.out, hT.out, HX2.out, escB_other c34 c92]
        apply ByteArray.ext
        simp
      clear hsc HST c34 c92
      go_wp2_with fail
      go_roundg (s.size - (k + 1))
      case measure => omega
      case rel => exact ⟨k + 1, T ++ X, by omega, by go_num, rfl, HT2, by simp only [ByteArray.size_append, hXs]; omega, hbel⟩
    · obtain rfl : k = s.size := by omega
      have ht : s.data.toList.take s.size = s.data.toList := List.take_of_length_le (by rw [HL.out]; exact Nat.le_refl _)
      rw [ht] at hT
      have HR : Hid (T ++ ⟨#[34]⟩ = Q) := by
        show _ = _
        rw [hT.out, ← HQ.out]
        rfl
      clear ht
      go_wp2_with fail
      go_ret
      exact ⟨by rw [← HR.out]; rfl, hbel.out⟩

set_option maxHeartbeats 4000000 in
set_option maxRecDepth 100000 in
/-- a spot as a text -/
theorem spotText_any (x : Spt) (w : World) (h0 : 0 ≤ x.st.time ∧ x.st.time ≤ 4294967296) (h1 : 0 ≤ x.st.cp ∧ x.st.cp ≤ 4294967296) (h2 : 0 ≤ x.at_ ∧ x.at_ ≤ 4294967296) :
    Calls Tryz.prog 33 #[spA x] w fun e w' => e = .returned (.string (wd x.st.time ++ ⟨#[32]⟩ ++ wd x.st.cp ++ ⟨#[32]⟩ ++ wd x.at_)) ∧ Below w.heap.size w w' := by
  have HA := Lib.hid fun W => told_wd x.st.time h0.1 h0.2 W
  have HB := Lib.hid fun W => told_wd x.st.cp h1.1 h1.2 W
  have HC := Lib.hid fun W => told_wd x.at_ h2.1 h2.2 W
  have z0 := wd_le h0.1 h0.2
  have z1 := wd_le h1.1 h1.2
  have z2 := wd_le h2.1 h2.2
  obtain ⟨⟨a, b⟩, c⟩ := x
  dsimp only [spA] at HA HB HC z0 z1 z2 ⊢
  obtain ⟨S0, e0⟩ : ∃ S, S = wd a := ⟨_, rfl⟩
  obtain ⟨S1, e1⟩ : ∃ S, S = wd b := ⟨_, rfl⟩
  obtain ⟨S2, e2⟩ : ∃ S, S = wd c := ⟨_, rfl⟩
  rw [← e0, ← e1, ← e2]
  rw [← e0] at HA z0
  rw [← e1] at HB z1
  rw [← e2] at HC z2
  clear e0 e1 e2 h0 h1 h2
  go_enter Tryz.func33, Tryz.ntmps33
  go_upto_region 1 with fail
  have KX := Blk.new w 27 #[.int .i64 a, .int .i64 b, .int .i64 c]
  have hbX : Below w.heap.size w (w.alloc (.cells #[.int .i64 a, .int .i64 b, .int .i64 c] 27)) := (Below.refl _ _).alloc (Nat.le_refl _) _
  generalize (w.alloc (.cells #[.int .i64 a, .int .i64 b, .int .i64 c] 27)) = X at KX hbX ⊢
  have hzX := KX.lt
  have ha0 : ∀ W, (Op.stringOp .add S0 ⟨#[32]⟩).run Tryz.prog W = .ok (.string (S0 ++ ⟨#[32]⟩)) W := fun W => run_string_add_sum W _ _ (by show S0.size + 1 ≤ _; omega)
  have ha1 : ∀ W, (Op.stringOp .add (S0 ++ ⟨#[32]⟩) S1).run Tryz.prog W = .ok (.string ((S0 ++ ⟨#[32]⟩) ++ S1)) W := fun W => run_string_add_sum W _ _ (by simp only [ByteArray.size_append]; show S0.size + 1 + _ ≤ _; omega)
  have ha2 : ∀ W, (Op.stringOp .add (S0 ++ ⟨#[32]⟩ ++ S1) ⟨#[32]⟩).run Tryz.prog W = .ok (.string ((S0 ++ ⟨#[32]⟩ ++ S1) ++ ⟨#[32]⟩)) W := fun W => run_string_add_sum W _ _ (by simp only [ByteArray.size_append]; show S0.size + 1 + _ + 1 ≤ _; omega)
  have ha3 : ∀ W, (Op.stringOp .add (S0 ++ ⟨#[32]⟩ ++ S1 ++ ⟨#[32]⟩) S2).run Tryz.prog W = .ok (.string ((S0 ++ ⟨#[32]⟩ ++ S1 ++ ⟨#[32]⟩) ++ S2)) W := fun W => run_string_add_sum W _ _ (by simp only [ByteArray.size_append]; show S0.size + 1 + _ + 1 + _ ≤ _; omega)
  have f0_0 : X.cell? ⟨w.heap.size, 0, none⟩ = some (.int .i64 a) := KX.cell 0
  have f0_1 : X.cell? ⟨w.heap.size, 1, none⟩ = some (.int .i64 b) := KX.cell 1
  have f0_2 : X.cell? ⟨w.heap.size, 2, none⟩ = some (.int .i64 c) := KX.cell 2
  have f0d_0 : X.drew.cell? ⟨w.heap.size, 0, none⟩ = some (.int .i64 a) := f0_0
  have f0d_1 : X.drew.cell? ⟨w.heap.size, 1, none⟩ = some (.int .i64 b) := f0_1
  have f0d_2 : X.drew.cell? ⟨w.heap.size, 2, none⟩ = some (.int .i64 c) := f0_2
  go_region_held3 (fun w' => w'.cell? ⟨w.heap.size, 0, none⟩ = some (.int .i64 a) ∧ w'.cell? ⟨w.heap.size, 1, none⟩ = some (.int .i64 b) ∧ w'.cell? ⟨w.heap.size, 2, none⟩ = some (.int .i64 c))
    (first | with_reducible exact ⟨f0_0, f0_1, f0_2⟩ | with_reducible exact ⟨f0d_0, f0d_1, f0d_2⟩ | with_reducible exact ⟨f1_0, f1_1, f1_2⟩ | with_reducible exact ⟨f2_0, f2_1, f2_2⟩ | with_reducible exact ⟨f3_0, f3_1, f3_2⟩)
    (first | (go_at_call_of 31 (Value.int .i64 a); refine (HA.out X.drew).mono ?_; rintro e w1 ⟨rfl, hb1⟩; have hz1 : w.heap.size < w1.heap.size := Nat.lt_of_lt_of_le hzX hb1.size; have f1_0 : w1.cell? ⟨w.heap.size, 0, none⟩ = some (.int .i64 a) := (hb1.cell (p := ⟨w.heap.size, 0, none⟩) hzX).trans f0_0; have f1_1 : w1.cell? ⟨w.heap.size, 1, none⟩ = some (.int .i64 b) := (hb1.cell (p := ⟨w.heap.size, 1, none⟩) hzX).trans f0_1; have f1_2 : w1.cell? ⟨w.heap.size, 2, none⟩ = some (.int .i64 c) := (hb1.cell (p := ⟨w.heap.size, 2, none⟩) hzX).trans f0_2; have HB1 : Hid (Below w.heap.size w w1) := hbX.drew.trans (hb1.mono hbX.size); clear hb1) | (go_at_call_of 31 (Value.int .i64 b); refine (HB.out w1).mono ?_; rintro e w2 ⟨rfl, hb2⟩; have hz2 : w.heap.size < w2.heap.size := Nat.lt_of_lt_of_le hz1 hb2.size; have f2_0 : w2.cell? ⟨w.heap.size, 0, none⟩ = some (.int .i64 a) := (hb2.cell (p := ⟨w.heap.size, 0, none⟩) hz1).trans f1_0; have f2_1 : w2.cell? ⟨w.heap.size, 1, none⟩ = some (.int .i64 b) := (hb2.cell (p := ⟨w.heap.size, 1, none⟩) hz1).trans f1_1; have f2_2 : w2.cell? ⟨w.heap.size, 2, none⟩ = some (.int .i64 c) := (hb2.cell (p := ⟨w.heap.size, 2, none⟩) hz1).trans f1_2; have HB2 : Hid (Below w.heap.size w w2) := HB1.out.trans (hb2.mono HB1.out.size); clear hb2) | (go_at_call_of 31 (Value.int .i64 c); refine (HC.out w2).mono ?_; rintro e w3 ⟨rfl, hb3⟩; have hz3 : w.heap.size < w3.heap.size := Nat.lt_of_lt_of_le hz2 hb3.size; have f3_0 : w3.cell? ⟨w.heap.size, 0, none⟩ = some (.int .i64 a) := (hb3.cell (p := ⟨w.heap.size, 0, none⟩) hz2).trans f2_0; have f3_1 : w3.cell? ⟨w.heap.size, 1, none⟩ = some (.int .i64 b) := (hb3.cell (p := ⟨w.heap.size, 1, none⟩) hz2).trans f2_1; have f3_2 : w3.cell? ⟨w.heap.size, 2, none⟩ = some (.int .i64 c) := (hb3.cell (p := ⟨w.heap.size, 2, none⟩) hz2).trans f2_2; have HB3 : Hid (Below w.heap.size w w3) := HB2.out.trans (hb3.mono HB2.out.size); clear hb3))
  all_goals
    go_wp2_with fail
    go_ret
    exact ⟨rfl, HB3.out⟩
end Go.Proofs.YtinllchioeldbaaGreatDoor
namespace Go.Proofs.YtinllchioeldbaaGreatDoor
open Go.RowKit

set_option maxHeartbeats 4000000 in
set_option maxRecDepth 100000 in
theorem checkPlace_any (o : COp) (As Ai : Option Addr) (ns cs ni ci : Nat) (w : World) (hid : I64 o.id) :
    Calls Tryz.prog 15 #[CA ⟨o, .slice As ns cs, .slice Ai ni ci⟩] w fun e w' => e = .returned (.int .i64 (cPlE o)) ∧ Below w.heap.size w w' := by
  have H1 := Lib.hid fun W => outsideC_any o.parent 0 1000000 W
  have H2 := Lib.hid fun W => outsideC_any o.left 0 1000000 W
  have HT := Lib.hid fun W => checkT_any o.oct W
  obtain ⟨E, hE⟩ : ∃ E, E = cPlE o := ⟨_, rfl⟩
  rw [← hE]
  unfold cPlE at hE
  obtain ⟨p1, hp1⟩ : ∃ q, q = outI o.parent 0 1000000 := ⟨_, rfl⟩
  obtain ⟨p2, hp2⟩ : ∃ q, q = outI o.left 0 1000000 := ⟨_, rfl⟩
  obtain ⟨tx, htx⟩ : ∃ q, q = txErr o.oct := ⟨_, rfl⟩
  rw [← hp1] at H1 hE
  rw [← hp2] at H2 hE
  rw [← htx] at HT hE
  clear hp1 hp2 htx
  obtain ⟨⟨t0, t1⟩, k, id, pa, le, ⟨⟨a0, a1⟩, a2⟩, oc, sp, nm, ⟨vk, vi, vt, vs, vl⟩⟩ := o
  obtain ⟨hi0, hi1⟩ := hid
  dsimp only [CA, Vl.kind, Vl.int_, Vl.to_, Vl.text, Vl.items] at H1 H2 HT hE hi0 hi1 ⊢
  obtain ⟨k1, h1⟩ : ∃ q, (k == 1) = q := ⟨_, rfl⟩
  obtain ⟨m, hm⟩ : ∃ q, Int.tmod id 16 = q := ⟨_, rfl⟩
  rw [hm] at hE
  obtain ⟨m1, hm1⟩ : ∃ q, (m != t1) = q := ⟨_, rfl⟩
  obtain ⟨e1, g1⟩ : ∃ q, (pa == id) = q := ⟨_, rfl⟩
  obtain ⟨e2, g2⟩ : ∃ q, (le == id) = q := ⟨_, rfl⟩
  rw [h1, hm1, g1, g2] at hE
  have HE := Lib.hid hE
  clear hE
  go_enter Tryz.func15, Tryz.ntmps15
  go_upto_region 1 with fail
  go_cut [3] (fun s3 wc => s3 = .bool (k1 && m1) ∧ wc = w.alloc (.cells #[.int .i64 t0, .int .i64 t1, .int .i64 k, .int .i64 id, .int .i64 pa, .int .i64 le, .int .i64 a0, .int .i64 a1, .int .i64 a2, .string oc, .slice As ns cs, .string nm, .int .i64 vk, .int .i64 vi, .int .i64 vt, .string vs, .slice Ai ni ci] 33))
  case first =>
    cases k1
    all_goals
      go_wp2_with fail
      go_meet
      exact ⟨by simp_all, rfl⟩
  case rest =>
  obtain ⟨rfl, rfl⟩ := hcut
  obtain ⟨b1, eb1⟩ : ∃ q, (k1 && m1) = q := ⟨_, rfl⟩
  rw [eb1] at HE
  rw [eb1]
  clear eb1 h1 hm1 hm hi0 hi1
  cases b1
  case true =>
    have HV := Lib.hid (HE.out.trans (if_pos rfl))
    go_wp2_with fail
    go_ret
    exact ⟨by rw [HV.out]; rfl, (Below.refl _ _).alloc (Nat.le_refl _) _⟩
  have HE := Lib.hid (HE.out.trans (if_neg (by decide)))
  cases p1
  case true =>
    have HV := Lib.hid (HE.out.trans (if_pos rfl))
    go_wp2_with fail
    refine (H1.out _).mono ?_
    rintro e w1 ⟨rfl, rfl⟩
    go_wp2_with fail
    go_ret
    exact ⟨by rw [HV.out]; rfl, (Below.refl _ _).alloc (Nat.le_refl _) _⟩
  go_wp2_with fail
  refine (H1.out _).mono ?_
  rintro e w1 ⟨rfl, rfl⟩
  go_wp2_with fail
  refine (H2.out _).mono ?_
  rintro e w1 ⟨rfl, rfl⟩
  cases p2
  case true =>
    have HV := Lib.hid (HE.out.trans (if_pos rfl))
    go_wp2_with fail
    go_ret
    exact ⟨by rw [HV.out]; rfl, (Below.refl _ _).alloc (Nat.le_refl _) _⟩
  have HE := Lib.hid (HE.out.trans (if_neg (by decide)))
  go_upto_region 5 with fail
  go_cut [25] (fun s25 wc => s25 = .bool (e1 || e2) ∧ wc = w.alloc (.cells #[.int .i64 t0, .int .i64 t1, .int .i64 k, .int .i64 id, .int .i64 pa, .int .i64 le, .int .i64 a0, .int .i64 a1, .int .i64 a2, .string oc, .slice As ns cs, .string nm, .int .i64 vk, .int .i64 vi, .int .i64 vt, .string vs, .slice Ai ni ci] 33))
  case first =>
    cases e1
    all_goals
      go_wp2_with fail
      go_meet
      exact ⟨by simp_all, rfl⟩
  case rest =>
  obtain ⟨rfl, rfl⟩ := hcut
  obtain ⟨b1, eb1⟩ : ∃ q, (e1 || e2) = q := ⟨_, rfl⟩
  rw [eb1] at HE
  rw [eb1]
  clear eb1 g1 g2
  cases b1
  case true =>
    have HV := Lib.hid (HE.out.trans (if_pos rfl))
    go_wp2_with fail
    go_ret
    exact ⟨by rw [HV.out]; rfl, (Below.refl _ _).alloc (Nat.le_refl _) _⟩
  have HV := Lib.hid (HE.out.trans (if_neg (by decide)))
  go_wp2_with fail
  refine (HT.out _).mono ?_
  rintro e w1 ⟨rfl, rfl⟩
  go_wp2_with fail
  go_ret
  exact ⟨by rw [HV.out]; rfl, (Below.refl _ _).alloc (Nat.le_refl _) _⟩

set_option maxHeartbeats 4000000 in
set_option maxRecDepth 100000 in
theorem checkType_any (o : COp) (As Ai : Option Addr) (ns cs ni ci : Nat) (w : World) :
    Calls Tryz.prog 16 #[CA ⟨o, .slice As ns cs, .slice Ai ni ci⟩] w fun e w' => e = .returned (.int .i64 (cTyE o)) ∧ Below w.heap.size w w' := by
  have HT := Lib.hid fun W => checkT_any o.oct W
  have HR := Lib.hid fun W => rightSpot_any o.aft o.st W
  obtain ⟨E, hE⟩ : ∃ E, E = cTyE o := ⟨_, rfl⟩
  rw [← hE]
  unfold cTyE aftZ at hE
  obtain ⟨r, hr⟩ : ∃ q, q = sptOk o.aft o.st := ⟨_, rfl⟩
  rw [← hr] at HR hE
  have HTX : Hid (¬ ((500 : Int) < (o.oct.size : Int)) → (if ctl o.oct = true then txErr o.oct = 9 else txErr o.oct = 0)) := by
    intro h
    have h2 : ¬ 2000 < o.oct.size := by omega
    unfold txErr
    rw [if_neg h2]
    by_cases hc : ctl o.oct = true
    · rw [if_pos hc, if_pos hc]
    · rw [if_neg hc, if_neg hc]
  obtain ⟨tx, htx⟩ : ∃ q, q = txErr o.oct := ⟨_, rfl⟩
  obtain ⟨ct, hct⟩ : ∃ q, q = ctl o.oct := ⟨_, rfl⟩
  rw [← htx, ← hct] at HTX
  rw [← hct] at hE
  rw [← htx] at HT
  clear hr htx hct
  obtain ⟨⟨t0, t1⟩, k, id, pa, le, ⟨⟨a0, a1⟩, a2⟩, oc, sp, nm, ⟨vk, vi, vt, vs, vl⟩⟩ := o
  dsimp only [CA, spA, stA, Vl.kind, Vl.int_, Vl.to_, Vl.text, Vl.items] at HR HT HTX hE ⊢
  obtain ⟨z0, g30⟩ : ∃ q, (a0 == 0) = q := ⟨_, rfl⟩
  obtain ⟨z1, g31⟩ : ∃ q, (a1 == 0) = q := ⟨_, rfl⟩
  obtain ⟨z2, g32⟩ : ∃ q, (a2 == 0) = q := ⟨_, rfl⟩
  obtain ⟨q4, g4⟩ : ∃ q, oc.toList.isEmpty = q := ⟨_, rfl⟩
  rw [g4, g30, g31, g32] at hE
  have HE := Lib.hid hE
  clear hE
  go_enter Tryz.func16, Tryz.ntmps16
  cases q4
  case true =>
    have HV := Lib.hid (HE.out.trans (if_pos (by simp)))
    go_wp2_with fail
    go_ret
    exact ⟨by rw [HV.out]; rfl, (Below.refl _ _).alloc (Nat.le_refl _) _⟩
  by_cases hbig : (500 : Int) < (oc.size : Int)
  · have HV := Lib.hid (HE.out.trans (if_pos (by simp [hbig])))
    go_wp2_with fail
    go_ret
    exact ⟨by rw [HV.out]; rfl, (Below.refl _ _).alloc (Nat.le_refl _) _⟩
  have HE := Lib.hid (HE.out.trans (if_neg (by simp [hbig])))
  have htx := HTX.out hbig
  cases ct
  case true =>
    obtain rfl : tx = 9 := htx
    have HV := Lib.hid (HE.out.trans (if_pos rfl))
    go_wp2_with fail
    refine (HT.out _).mono ?_
    rintro e w1 ⟨rfl, rfl⟩
    go_wp2_with fail
    go_ret
    exact ⟨by rw [HV.out]; rfl, (Below.refl _ _).alloc (Nat.le_refl _) _⟩
  obtain rfl : tx = 0 := htx
  have HE := Lib.hid (HE.out.trans (if_neg (by decide)))
  go_wp2_with fail
  refine (HT.out _).mono ?_
  rintro e w1 ⟨rfl, rfl⟩
  go_upto_region 5 with fail
  go_cut [18] (fun s18 wc => s18 = .bool (!(z0 && z1 && z2) && !r) ∧ Hid (Below w.heap.size w wc))
  case first =>
    cases z0 <;> cases z1 <;> cases z2
    all_goals
      go_wp2_with (go_at_call 40; refine (HR.out _).mono ?_; rintro e w2 ⟨rfl, hb⟩; have HB : Hid (Below w.heap.size w w2) := ((Below.refl _ _).alloc (Nat.le_refl _) _).trans (hb.mono (by simp)); clear hb)
      go_meet
      exact ⟨by simp, by first | exact HB | exact (Below.refl _ _).alloc (Nat.le_refl _) _⟩
  case rest =>
  obtain ⟨rfl, HB⟩ := hcut
  obtain ⟨b1, eb1⟩ : ∃ q, (!(z0 && z1 && z2) && !r) = q := ⟨_, rfl⟩
  rw [eb1] at HE
  rw [eb1]
  clear eb1
  cases b1
  case true =>
    have HV := Lib.hid (HE.out.trans (if_pos rfl))
    go_wp2_with fail
    go_ret
    exact ⟨by rw [HV.out]; rfl, HB.out⟩
  have HV := Lib.hid (HE.out.trans (if_neg (by decide)))
  go_wp2_with fail
  go_ret
  exact ⟨by rw [HV.out]; rfl, HB.out⟩
end Go.Proofs.YtinllchioeldbaaGreatDoor
