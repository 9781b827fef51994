/-
  DERIVED. The walks of day.unitWords, weekdayWords and of RuleText's closures. Conditions: sizes; the table of powers of ten is laid. By an AI agent.
-/
import Derived.Test.YtbdcimakdiegnaaGreatDoorRuMath
import Derived.Test.YtbdcimakdiegnaaGreatDoorVa09
import Derived.Test.YtbdcimakdiegnaaGreatDoorVa01
import Derived.Test.YtbdcimakdiegnaaGreatDoorVa07
import Derived.Deep.LoopGhost
namespace Go.Proofs.YtbdcimakdiegnaaGreatDoor
open Go.RowKit

/-- a text in a builder in block b; what lay in X is as it was -/
structure TW (b : Nat) (X : World) (T : ByteArray) (w : World) : Prop where
  bld : Bld b (b + 1) (Lib.strCells T) w
  below : Below X.heap.size X w
  ge : X.heap.size ≤ b
  room : b + 1 ≤ w.heap.size
theorem TW.step {b : Nat} {X w w' : World} {T : ByteArray} (h : TW b X T w) (hb : Below w.heap.size w w') : TW b X T w' :=
  ⟨Bld.below h.bld hb, h.below.trans (hb.mono h.below.size), h.ge, Nat.le_trans h.room hb.size⟩
theorem strCells_app (a b : ByteArray) : Lib.strCells (a ++ b) = Lib.strCells a ++ Lib.strCells b := by simp [Lib.strCells]
theorem tw_write {b : Nat} {X w : World} {T : ByteArray} (S : ByteArray) (h : TW b X T w) (hz : T.size + S.size ≤ 140737488355328) :
    Calls Tryz.prog 25 #[.pointer (some ⟨b, 0, none⟩), .string S] w fun e w' => e = .returned (.tuple #[.int .i64 S.size, .nilIface]) ∧ TW b X (T ++ S) w' := by
  refine (writeString_any b (b + 1) _ S w h.bld (by rw [Lib.strCells_length]; omega) h.room).mono ?_
  rintro e w' ⟨h1, h2, h3⟩
  refine ⟨h1, by rw [strCells_app]; exact h2, h.below.trans (h3.1.mono h.ge), h.ge, Nat.le_trans h.room h3.1.size⟩

set_option maxHeartbeats 400000 in
theorem unitWords_any (w : World) :
    Calls Tryz.prog 35 #[] w fun e w' => e = .returned (.slice (some ⟨w.heap.size, 0, none⟩) 4 4) ∧ (∀ j : Nat, j < 4 → w'.cell? ⟨w.heap.size, j, none⟩ = some (.string (unW ((j : Int) + 1)))) ∧ w.heap.size < w'.heap.size ∧ Below w.heap.size w w' := by
  have KB := Blk.new w 9 #[.string ⟨#[100, 97, 121]⟩, .string ⟨#[119, 101, 101, 107]⟩, .string ⟨#[109, 111, 110, 116, 104]⟩, .string ⟨#[121, 101, 97, 114]⟩]
  have KB := Lib.hid KB
  go_enter Tryz.func35, Tryz.ntmps35
  go_wp2_with fail
  go_ret
  refine ⟨rfl, fun j hj => ?_, KB.out.lt, (Below.refl _ _).alloc (Nat.le_refl _) _⟩
  rw [KB.out.cell j]
  rcases (show j = 0 ∨ j = 1 ∨ j = 2 ∨ j = 3 by omega) with rfl | rfl | rfl | rfl <;> rfl
set_option maxHeartbeats 400000 in
theorem weekdayWords_any (w : World) :
    Calls Tryz.prog 38 #[] w fun e w' => e = .returned (.slice (some ⟨w.heap.size, 0, none⟩) 7 7) ∧ (∀ j : Nat, j < 7 → w'.cell? ⟨w.heap.size, j, none⟩ = some (.string (wdW (j : Int)))) ∧ w.heap.size < w'.heap.size ∧ Below w.heap.size w w' := by
  have KB := Blk.new w 9 #[.string ⟨#[109, 111, 110]⟩, .string ⟨#[116, 117, 101]⟩, .string ⟨#[119, 101, 100]⟩, .string ⟨#[116, 104, 117]⟩, .string ⟨#[102, 114, 105]⟩, .string ⟨#[115, 97, 116]⟩, .string ⟨#[115, 117, 110]⟩]
  have KB := Lib.hid KB
  go_enter Tryz.func38, Tryz.ntmps38
  go_wp2_with fail
  go_ret
  refine ⟨rfl, fun j hj => ?_, KB.out.lt, (Below.refl _ _).alloc (Nat.le_refl _) _⟩
  rw [KB.out.cell j]
  rcases (show j = 0 ∨ j = 1 ∨ j = 2 ∨ j = 3 ∨ j = 4 ∨ j = 5 ∨ j = 6 by omega) with rfl | rfl | rfl | rfl | rfl | rfl | rfl <;> rfl

/-- a closure that writes a number -/
def WrCl (g : Nat) (f : Int → ByteArray) (n : Int) : Prop := ∀ W, Pow W → Calls Tryz.prog g #[.int .i64 n] W fun e w' => e = .returned (.string (f n)) ∧ (f n).size ≤ 100 ∧ Below W.heap.size W w'
theorem dayText_cl {d : Int} (h0 : 0 ≤ d) (h1 : d ≤ 100000) : WrCl 32 dtS d := fun W hP => by
  have HD := Lib.hid (dateText_any d W h0 h1 hP)
  clear hP
  generalize dtS d = S at HD ⊢
  go_enter Tryz.func32, Tryz.ntmps32
  go_wp2_with fail
  refine HD.out.mono ?_
  rintro e w1 ⟨rfl, hz, hb⟩
  have HB := Lib.hid hb
  have HZ := Lib.hid hz
  clear hb hz
  go_wp2_with fail
  go_ret
  exact ⟨rfl, HZ.out, HB.out⟩
theorem itoa_cl {n : Int} (h : n.natAbs < 10 ^ 7) : WrCl 34 wd n := fun W hP =>
  (itoaN_any n (by omega) (by omega) W hP).mono fun e w' ⟨h1, h2⟩ => ⟨h1, Nat.le_trans (wd_size h) (by omega), h2⟩
theorem wdText_cl {n : Int} (h : 0 ≤ n ∧ n ≤ 6) : WrCl 37 wdW n := fun W _ => by
  obtain ⟨k, rfl⟩ : ∃ k : Nat, n = (k : Int) := ⟨n.toNat, by omega⟩
  have hk : k < 7 := by omega
  have hz : (wdW (k : Int)).size ≤ 100 := by
    rcases wdW_ways h with e | e | e | e | e | e | e <;> rw [e] <;> decide
  have HW := Lib.hid (weekdayWords_any W)
  have j1 : (k : Int) < 7 := by omega
  clear h
  generalize hS : wdW (k : Int) = S at hz ⊢
  have HS := Lib.hid hS
  clear hS
  go_enter Tryz.func37, Tryz.ntmps37
  go_wp2_with fail
  refine HW.out.mono ?_
  rintro e w1 ⟨rfl, hc, hlt, hb⟩
  have g0 : w1.cell? ⟨W.heap.size, k, none⟩ = some (.string S) := by rw [hc k hk, HS.out]
  have HB := Lib.hid hb
  have HLT := Lib.hid hlt
  clear hb hc hlt
  go_wp2_with fail
  go_ret
  exact ⟨rfl, hz, HB.out⟩

theorem ctT_take {f : Int → ByteArray} {l : List Int} {k : Nat} {x : Int} (h : l[k]? = some x) : ctT f (l.take (k + 1)) = ctT f (l.take k) ++ (⟨#[32]⟩ ++ f x) := by
  rw [List.take_add_one, h]
  exact ctT_snoc f _ x

set_option maxHeartbeats 4000000 in
set_option maxRecDepth 100000 in
/-- a part of a rule is written -/
theorem part_any (g : Nat) (f : Int → ByteArray) (hent : ∀ args w, (callFunc g args).run Tryz.prog w = .ok (.enter g args) w) (l : List Int) (hf : ∀ n ∈ l, WrCl g f n) (word : ByteArray) (hw : word.size ≤ 100) (hl : l.length ≤ 1000) (A : Option Addr) (n c b : Nat) (X : World) (T : ByteArray) (w : World) (hT : TW b X T w) (hz : T.size ≤ 100000) (hr : RIn X X.heap.size (.slice A n c) l) (hP : Pow X) :
    Calls Tryz.prog 36 #[.string word, .slice A n c, .func (.func g) #[] #[], .pointer (some ⟨b, 0, none⟩)] w fun e w' => e = .returned (.tuple #[]) ∧ TW b X (T ++ ptT word f l) w' := by
  obtain ⟨hn, hnc, hn8⟩ := hr.len
  have HN := Lib.hid hn
  have HP := Lib.hid hP
  have HF := Lib.hid hf
  have HR := Lib.hid hr
  have HT := Lib.hid hT
  have HWZ : Hid (word.size ≤ 100) := hw
  have hnl : n ≤ 1000 := by omega
  obtain ⟨T1, hT1⟩ : ∃ T1, T1 = if n = 0 then T else T ++ (⟨#[32]⟩ ++ word) := ⟨_, rfl⟩
  have hT1z : T1.size ≤ 100200 := by
    rw [hT1]
    split
    · omega
    · simp only [ByteArray.size_append]
      have : (⟨#[32]⟩ : ByteArray).size = 1 := rfl
      omega
  have hE : T ++ ptT word f l = T1 ++ ctT f l := by
    rw [hT1]
    unfold ptT
    by_cases h0 : l = []
    · subst h0
      rw [if_pos rfl, if_pos (by rw [hn]; rfl)]
      rfl
    · rw [if_neg h0, if_neg (by rw [hn]; exact fun e => h0 (List.length_eq_zero_iff.1 e)), ba_assoc T]
  rw [hE]
  have HT1 := Lib.hid hT1
  have iz1 : (⟨#[32]⟩ : ByteArray).size = 1 := rfl
  clear hr hT hn hP hf hE hw hT1 iz1
  go_enter Tryz.func36, Tryz.ntmps36
  by_cases h0 : n = 0
  · have e1 : T1 = T := by rw [HT1.out, if_pos h0]
    have e2 : l = [] := List.length_eq_zero_iff.1 (by rw [← HN.out, h0])
    subst e2 e1 h0
    have HTT : Hid (TW b X (T1 ++ ctT f []) w) := by
      show TW _ _ _ _
      rw [ctT, ba_nil]
      exact HT.out
    clear HT HT1 HF HR HN
    generalize (T1 ++ ctT f []) = T3 at HTT ⊢
    go_wp2_with fail
    go_loopg [17] 0 (fun gg s17 wr => s17 = .int .i64 0 ∧ Hid (TW b X T3 wr))
    case atStart => exact ⟨rfl, HTT⟩
    case round =>
      obtain ⟨rfl, htw⟩ := hrel
      go_wp2_with fail
      go_end0
      exact ⟨rfl, htw.out⟩
  have e1 : T1 = T ++ (⟨#[32]⟩ ++ word) := by rw [HT1.out, if_neg h0]
  have HTT : Hid (∀ W, TW b X T W → Calls Tryz.prog 25 #[.pointer (some ⟨b, 0, none⟩), .string (⟨#[32]⟩ ++ word)] W fun e w' => e = .returned (.tuple #[.int .i64 (⟨#[32]⟩ ++ word : ByteArray).size, .nilIface]) ∧ TW b X T1 w') := fun W hW => by
    rw [e1]
    exact tw_write _ hW (by
      have := HWZ.out
      simp only [ByteArray.size_append]
      show T.size + (1 + word.size) ≤ _
      omega)
  have j1 : (0 : Int) < (n : Int) := by omega
  have j2 : word.size ≤ 100 := HWZ.out
  clear HT1 e1
  go_wp2_with fail
  refine (HTT.out _ HT.out).mono ?_
  rintro e w1 ⟨rfl, h1⟩
  have HC := Lib.hid h1
  clear h1 HT HTT HWZ j1
  go_wp2_with fail
  go_loopg [17] n (fun gg s17 wr => ∃ k : Nat, k + gg = n ∧ s17 = .int .i64 (k : Int) ∧ Hid (TW b X (T1 ++ ctT f (l.take k)) wr) ∧ (T1 ++ ctT f (l.take k)).size ≤ 100200 + k * 101)
  case atStart => exact ⟨0, by omega, rfl, by show TW _ _ _ _; rw [List.take_zero, ctT, ba_nil]; exact HC.out, by rw [List.take_zero, ctT, ba_nil]; omega⟩
  case round =>
    obtain ⟨k, hkg, rfl, htw, hsz⟩ := hrel
    by_cases hk : k < n
    · obtain ⟨x, hx⟩ : ∃ x, l[k]? = some x := ⟨_, List.getElem?_eq_getElem (by have := HN.out; omega)⟩
      obtain ⟨bl, off, rfl, hbb, hc⟩ := HR.out.at_ hx
      have g0 : wr.cell? ⟨bl, off + k, none⟩ = some (.int .i64 x) := (htw.out.below.cell (p := ⟨bl, off + k, none⟩) hbb).trans hc
      have HCL := Lib.hid (HF.out x (List.mem_of_getElem? hx) wr (HP.out.below htw.out.below))
      have HTK : Hid (T1 ++ ctT f (l.take (k + 1)) = T1 ++ ctT f (l.take k) ++ (⟨#[32]⟩ ++ f x)) := by
        show _ = _
        rw [ctT_take hx, ba_assoc T1]
      have j1 : (k : Int) < (n : Int) := by omega
      generalize hT3 : T1 ++ ctT f (l.take (k + 1)) = T3 at HTK
      have HT3 := Lib.hid hT3
      clear hT3
      generalize hTT : T1 ++ ctT f (l.take k) = T2 at HTK htw hsz
      generalize f x = S at HCL HTK
      clear hx hc hTT
      have HWS : Hid (∀ W, TW b X T2 W → S.size ≤ 100 → Calls Tryz.prog 25 #[.pointer (some ⟨b, 0, none⟩), .string (⟨#[32]⟩ ++ S)] W fun e w' => e = .returned (.tuple #[.int .i64 (⟨#[32]⟩ ++ S : ByteArray).size, .nilIface]) ∧ TW b X T3 w') := fun W hW hS => by
        rw [HTK.out]
        exact tw_write _ hW (by
          simp only [ByteArray.size_append]
          show T2.size + (1 + S.size) ≤ _
          omega)
      have HZ3 : Hid (S.size ≤ 100 → T3.size ≤ 100200 + (k + 1) * 101) := fun hS => by
        rw [HTK.out]
        simp only [ByteArray.size_append]
        show T2.size + (1 + S.size) ≤ _
        omega
      go_wp2_with fail
      refine HCL.out.mono ?_
      rintro e w2 ⟨rfl, hs2, hb2⟩
      have HT2 := Lib.hid (htw.out.step hb2)
      clear hb2 htw HCL
      go_wp2_with fail
      refine (HWS.out _ HT2.out hs2).mono ?_
      rintro e w3 ⟨rfl, h3⟩
      have H3 := Lib.hid h3
      have hz3 := HZ3.out hs2
      clear h3 HWS HT2 HZ3
      go_wp2_with fail
      go_roundg (n - (k + 1))
      case measure => omega
      case rel => exact ⟨k + 1, by omega, by go_num, by rw [HT3.out]; exact H3, by rw [HT3.out]; exact hz3⟩
    · obtain rfl : k = n := by omega
      have ht : l.take k = l := List.take_of_length_le (by rw [← HN.out]; exact Nat.le_refl _)
      rw [ht] at htw
      go_wp2_with fail
      go_end0
      exact ⟨rfl, htw.out⟩
end Go.Proofs.YtbdcimakdiegnaaGreatDoor
