/-
  DERIVED. strings.IndexRune at a text of ASCII bytes, of a rune beyond ASCII. Conditions: a valid rune.
  strings.IndexAny and ContainsAny at ASCII bytes, of every text. Conditions: a length in reach.
  The walks of florref1.controls and IsTarget. Conditions: a length in reach.
  The walk of florref1.IsTag, of a text of bytes of a tag. Conditions: a length in reach.
  Plain law: the token at a place, by its first byte; the same of the text from that place on. Conditions: none.
  strings.Cut at a bar. Conditions: a length in reach. By an AI agent (IndexByte after the shelf's own proof, turned to this program).
  By an AI agent.
-/
import Derived.Test.YtcbmddgafkoooaaGreatDoorIndexAny
import Derived.Test.YtcbmddgafkoooaaGreatDoorEscAt
import Derived.Test.YtcbmddgafkoooaaGreatDoorTagAt
import Derived.Test.YtcbmddgafkoooaaGreatDoorSpanIs
import Derived.Laws.Externs
namespace Go.Proofs.YtcbmddgafkoooaaGreatDoor
open Go.RowKit

/-- ASCII bytes alone -/
def Asc (L : ByteArray) : Prop := ∀ i (h : i < L.size), (L[i]).toNat < 128
theorem Asc.drop_noByte {L : ByteArray} (hL : Asc L) (a : Nat) (x : UInt8) (hx : 128 ≤ x.toNat) : Lib.indexByte (L.data.toList.drop a) x = -1 := by
  have key : ∀ n a, L.size - a = n → Lib.indexByte (L.data.toList.drop a) x = -1 := by
    intro n
    induction n with
    | zero => intro a h; rw [drop_out (by omega)]; rfl
    | succ n ih =>
      intro a h
      have ha : a < L.size := by omega
      rw [drop_bt ha]
      simp only [Lib.indexByte]
      have := hL a ha
      rw [if_neg (by simp; intro e; rw [e] at this; omega), ih (a + 1) (by omega)]
      rfl
  exact key _ a rfl

set_option maxHeartbeats 2000000 in
set_option maxRecDepth 100000 in
theorem indexRune_asc (L : ByteArray) (hL : Asc L) (_hsz : L.size ≤ 64) (r : Int) (w : World) (h1 : 128 ≤ r) (hv : (0 ≤ r ∧ r < 55296) ∨ (57343 < r ∧ r ≤ 1114111)) :
    Calls Tryz.prog 78 #[.string L, .int .i32 r] w fun e w' => e = .returned (.int .i64 (-1)) ∧ Below w.heap.size w w' := by
  have h0 : (0 : Int) ≤ r := by omega
  have hr : r ≤ 1114111 := by omega
  have hn : ¬ r < 128 := by omega
  have HV := Lib.hid hv
  have HL := Lib.hid hL
  clear hL
  have hval : Utf8.valid r = true := by unfold Utf8.valid; simp; omega
  obtain ⟨e1, e2, e3⟩ := encode_facts r hval h1
  obtain ⟨T, hT⟩ : ∃ T, T = Utf8.encode r := ⟨_, rfl⟩
  rw [← hT] at e1 e2 e3
  have HT := Lib.hid hT
  clear hv hval hT
  by_cases hE : r = 65533
  · subst hE
    go_enter Tryz.func78, Tryz.ntmps78
    clear HT e1 e2 e3 HV
    go_wp2_with fail
    go_loopg [5, 6] L.size (fun g _ _ wx => ∃ i : Nat, i + g = L.size ∧ wx = w.iter L i)
    case atStart => exact ⟨0, by omega, rfl⟩
    case round =>
      obtain ⟨i, hig, rfl⟩ := hrel
      by_cases hi : i < L.size
      · have hlt := HL.out i hi
        have hnx := fun ty => run_next_ascii (P := Tryz.prog) w L i ty hi hlt
        have hne : (((L[i]).toNat : Int) == 65533) = false := by simp; omega
        go_wp2
        go_roundg (L.size - (i + 1))
        case measure => omega
        case rel => exact ⟨i + 1, by omega, rfl⟩
      · obtain rfl : i = L.size := by omega
        have hnx := run_next_end (P := Tryz.prog) w L L.size
        go_wp2
        go_ret
        exact ⟨rfl, (Below.refl _ _).alloc (Nat.le_refl _) _⟩
  · have hE' : (r == 65533) = false := by simpa using hE
    clear hE
    go_enter Tryz.func78, Tryz.ntmps78
    go_wp2_with fail
    refine (validRune_any r _ HV.out).mono ?_
    rintro e w1 ⟨rfl, hw⟩
    rw [← hw]
    clear hw
    have hT' := HT.out.symm
    have HB : Hid (∀ (a : Nat) (x : UInt8) w, 128 ≤ x.toNat → Calls Tryz.prog 47 #[.string (L.extract a L.size), .int .u8 x.toNat] w fun e w' => e = .returned (.int .i64 (-1)) ∧ w' = w) := fun a x w hx => by
      have := Tryz.strings_IndexByte (L.extract a L.size) x.toNat w
      rw [ext_list, show ((x.toNat : Int)).toNat.toUInt8 = x by simp, HL.out.drop_noByte a x hx] at this
      exact this
    obtain ⟨q, hq⟩ : ∃ q : Nat, T.size = q + 1 := ⟨T.size - 1, by omega⟩
    obtain ⟨i2, h3⟩ : ∃ h : q < T.size, 128 ≤ (T[q]'h).toNat := by
      refine ⟨by omega, ?_⟩
      have := e3 (by omega)
      have h4 : T[q]'(by omega) = T[T.size - 1]'(by omega) := by congr 1; omega
      rw [h4]; exact this
    have hq1 : (1 : Int) ≤ (q : Int) := by omega
    have hq3 : (q : Int) ≤ 3 := by omega
    have hqi : ((T.size : Int) - 1) = (q : Int) := by omega
    have HQ := Lib.hid hqi
    have i3 : (q : Int) < (T.size : Int) := by omega
    have i0 : (0 : Int) ≤ (q : Int) := by omega
    have ts1 : (2 : Int) ≤ (T.size : Int) := by omega
    have ts2 : (T.size : Int) ≤ 4 := by omega
    clear hq e1 e2 e3 hqi
    by_cases hin : q < L.size
    · have hl := HL.out q hin
      have hne : (((L[q]).toNat : Int) != ((T[q]'i2).toNat : Int)) = true := by simp; omega
      have i1 : (q : Int) < (L.size : Int) := by omega
      go_wp2_with fail
      go_step3
      go_wp2_with fail
      rw [HQ.out]
      go_loopg [9, 10] 0 (fun g s9 s10 wr => s9 = .int .i64 q ∧ s10 = .int .i64 0 ∧ wr = w)
      case atStart => exact ⟨rfl, rfl, rfl⟩
      case round =>
        obtain ⟨rfl, rfl, rfl⟩ := hrel
        go_wp2_with fail
        go_step3
        go_wp2_with fail
        go_quiet (fail)
        go_wp2_with fail
        have hwr : IntKind.i64.wrap ((q : Int) + 1) = (q : Int) + 1 := IntWalk.i64_in _ (by omega)
        go_quiet (refine (HB.out _ _ _ h3).mono (fun _ _ h => ⟨h.1, _, h.2⟩))
        go_wp2_with fail
        rw [Exit.noGoto_ret]
        simp only [Exit.inBlock, Exit.then]
        rw [Exit.noGoto_ret]
        go_ret
        exact ⟨rfl, bdrew (Below.refl _ _) _⟩
    · have i1 : (L.size : Int) ≤ (q : Int) := by omega
      go_wp2_with fail
      go_step3
      go_wp2_with fail
      rw [HQ.out]
      go_loopg [9, 10] 0 (fun g s9 s10 wr => s9 = .int .i64 q ∧ s10 = .int .i64 0 ∧ wr = w)
      case atStart => exact ⟨rfl, rfl, rfl⟩
      case round =>
        obtain ⟨rfl, rfl, rfl⟩ := hrel
        go_wp2_with fail
        try rw [Exit.noGoto_ret]
        go_ret
        exact ⟨rfl, Below.refl _ _⟩
end Go.Proofs.YtcbmddgafkoooaaGreatDoor
namespace Go.Proofs.YtcbmddgafkoooaaGreatDoor
open Go.RowKit

theorem noAny_moreG {L s : ByteArray} (hL : Asc L) {i k : Nat} (h : Lib.NoAny s.data.toList L.data.toList i) (hm : ∀ j (hj : j < s.size), i ≤ j → j < k → 128 ≤ (s[j]).toNat) : Lib.NoAny s.data.toList L.data.toList k := by
  intro j b hj hb
  rcases Nat.lt_or_ge j i with g | g
  · exact h j b g hb
  · obtain ⟨hjs, e⟩ := List.getElem?_eq_some_iff.1 hb
    have hjs' : j < s.size := by simpa using hjs
    have := hm j hjs' g hj
    have e2 : s[j] = b := by rw [← e]; rfl
    rw [e2] at this
    cases hc : L.data.toList.contains b with
    | false => rfl
    | true =>
      obtain ⟨q, hq, eq⟩ := List.mem_iff_getElem.1 (by simpa using hc : b ∈ L.data.toList)
      have := hL q hq
      have e3 : L[q]'hq = b := eq
      rw [e3] at this
      omega

set_option maxHeartbeats 2000000 in
set_option maxRecDepth 100000 in
theorem indexAny_shortG (L : ByteArray) (hL : Asc L) (hL2 : 2 ≤ L.size) (hLs : L.size ≤ 64) (s : ByteArray) (w : World) (hs : s.size ≤ 8) :
    Calls Tryz.prog 54 #[.string s, .string L] w fun e w' => e = .returned (.int .i64 (Lib.indexAny s.data.toList L.data.toList)) ∧ Below w.heap.size w w' := by
  have hemp : L.toList.isEmpty = false := notEmpty_of (by omega)
  have HAL := Lib.hid hL
  clear hL
  have k2 : (2 : Int) ≤ (L.size : Int) := by omega
  have k1 : ((L.size : Int) == 1) = false := by simp; omega
  have h8z : ¬ ((8 : Int) < (s.size : Int)) := by omega
  go_enter Tryz.func54, Tryz.ntmps54
  go_wp2_with (first | (go_at_call 79; go_in))
  go_loopg [9, 10] s.size (fun g _ _ wx => ∃ i : Nat, i ≤ s.size ∧ s.size - i ≤ g ∧ wx.heap[w.heap.size]? = some (.stringIter s i) ∧ Below w.heap.size w wx ∧ Lib.NoAny s.data.toList L.data.toList i)
  case atStart => exact ⟨0, Nat.zero_le _, by omega, World.iter_heap w s 0, (Below.refl _ _).alloc (Nat.le_refl _) _, Lib.NoAny.zero _ _⟩
  case round =>
    obtain ⟨i, hi, hig, hit, hbel, hno⟩ := hrel
    have HN := Lib.hid hno
    have HB := Lib.hid hbel
    have hsz := hbel.size
    have hkz : w.heap.size < wr.heap.size := by
      rcases Nat.lt_or_ge w.heap.size wr.heap.size with h' | h'
      · exact h'
      · simp [Array.getElem?_eq_none h'] at hit
    clear hno hbel
    by_cases his : i < s.size
    · have hxl : s.data.toList[i]? = some s[i] := Lib.data_getElem? s i his
      have HX := Lib.hid hxl
      clear hxl
      by_cases hx128 : (s[i]).toNat < 128
      · have hnx := fun ty => Lib.run_next_ascii_at (P := Tryz.prog) wr w.heap.size s i ty hit his hx128
        have hit2 := Lib.iterAt_heap wr w.heap.size s i (i + 1) hit
        have hbel2 := Lib.below_iterAt HB.out (Nat.le_refl _) s (i + 1)
        obtain ⟨x, hx⟩ : ∃ x : UInt8, s[i] = x := ⟨_, rfl⟩
        rw [hx] at hnx hx128 HX
        obtain ⟨W, hW⟩ : ∃ W, W = wr.iterAt w.heap.size s (i + 1) := ⟨_, rfl⟩
        rw [← hW] at hnx hit2 hbel2
        have HW := Lib.hid (And.intro hit2 hbel2)
        have hxi : (x.toNat : Int) < 128 := by omega
        have hcon := Lib.contains_iff_indexByte L.data.toList x
        have hback : ((x.toNat : Int)).toNat.toUInt8 = x := by simp
        have HBK := Lib.hid hback
        clear hit hx hW hit2 hbel2 hback
        cases hin : L.data.toList.contains x
        · rw [hin] at hcon
          have hlt : ¬ ((0 : Int) ≤ Lib.indexByte L.data.toList x) := of_decide_eq_false hcon.symm
          have HN2 := Lib.hid (HN.out.succ HX.out hin)
          clear hcon hin
          go_wp2_with fail
          refine (Tryz.strings_IndexRune_ascii _ _ _ (by omega) hxi).mono ?_
          rintro e w1 ⟨rfl, hw⟩
          rw [hw, HBK.out]
          clear hw
          go_wp2
          go_roundg (s.size - (i + 1))
          case measure => omega
          case rel => exact ⟨i + 1, by omega, by omega, HW.out.1, HW.out.2, HN2.out⟩
        · rw [hin] at hcon
          have hge : (0 : Int) ≤ Lib.indexByte L.data.toList x := of_decide_eq_true hcon.symm
          have HR : Hid (Lib.indexAny s.data.toList L.data.toList = (i : Int)) := Lib.indexAny_hit HN.out HX.out hin
          clear hcon hin
          go_wp2_with fail
          refine (Tryz.strings_IndexRune_ascii _ _ _ (by omega) hxi).mono ?_
          rintro e w1 ⟨rfl, hw⟩
          rw [hw, HBK.out]
          clear hw
          go_wp2
          go_ret
          exact ⟨by rw [HR.out]; rfl, HW.out.2⟩
      · obtain ⟨f1, f2, f3, f4, f5⟩ := decode_far his (by omega)
        have hnx := fun ty => Lib.run_next_any_at (P := Tryz.prog) wr w.heap.size s i ty hit his
        obtain ⟨r, hr⟩ : ∃ r, r = (Utf8.decode s i).1 := ⟨_, rfl⟩
        obtain ⟨d, hd⟩ : ∃ d, d = (Utf8.decode s i).2 := ⟨_, rfl⟩
        rw [← hr] at f1 f2 hnx
        rw [← hd] at f3 f4 f5 hnx
        have hit2 := Lib.iterAt_heap wr w.heap.size s i (i + d) hit
        have hbel2 := Lib.below_iterAt HB.out (Nat.le_refl _) s (i + d)
        have HN2 := Lib.hid (noAny_moreG HAL.out HN.out f5)
        obtain ⟨W, hW⟩ : ∃ W, W = wr.iterAt w.heap.size s (i + d) := ⟨_, rfl⟩
        have hWz : W.heap.size = wr.heap.size := by rw [hW]; exact Lib.iterAt_size _ _ _ _
        rw [← hW] at hnx hit2 hbel2
        have HW := Lib.hid (And.intro hit2 hbel2)
        clear hit hW hit2 hbel2 hr hd f5 hx128
        go_wp2_with fail
        refine (indexRune_asc L HAL.out hLs (r : Int) _ (by omega) (by omega)).mono ?_
        rintro e w1 ⟨rfl, hb1⟩
        have HW1 := Lib.hid (And.intro ((hb1.block w.heap.size (by omega)).trans HW.out.1) (HW.out.2.trans (hb1.mono (by omega))))
        clear hb1
        go_wp2
        go_roundg (s.size - (i + d))
        case measure => omega
        case rel => exact ⟨i + d, by omega, by omega, HW1.out.1, HW1.out.2, HN2.out⟩
    · obtain rfl : i = s.size := by omega
      have hnx := fun ty => Lib.run_next_end_at (P := Tryz.prog) wr w.heap.size s s.size ty hit his
      go_wp2
      go_ret
      exact ⟨by rw [Lib.indexAny_none (by rw [← Lib.size_eq]; exact HN.out)]; rfl, HB.out⟩

theorem indexAny_asc (L : ByteArray) (hL : Asc L) (hL2 : 2 ≤ L.size) (hLs : L.size ≤ 64) (s : ByteArray) (w : World) (hs : s.size ≤ 4294967280) :
    Calls Tryz.prog 54 #[.string s, .string L] w fun e w' => e = .returned (.int .i64 (Lib.indexAny s.data.toList L.data.toList)) ∧ Below w.heap.size w w' := by
  by_cases h8 : s.size ≤ 8
  · exact indexAny_shortG L hL hL2 hLs s w h8
  · refine (Tryz.strings_IndexAny_long (zero_of_info set_info).1 s L w hL2 (by omega) (by omega) (by omega) (fun j b hb => ?_)).mono fun e w' ⟨h1, h2⟩ => ⟨h1, ?_⟩
    · obtain ⟨hjs, e⟩ := List.getElem?_eq_some_iff.1 hb
      have := hL j hjs
      have e2 : L[j]'hjs = b := e
      rw [e2] at this
      exact this
    · rw [h2]
      exact ((Below.refl _ _).alloc (Nat.le_refl _) _).alloc (by simp) _

theorem indexAny_anyB (s : ByteArray) (L : List UInt8) : (0 ≤ Lib.indexAny s.data.toList L) = (upto (isAny L) s 0 < s.size) := by
  have := indexAny_upto s L _ 0 rfl
  rw [List.drop_zero] at this
  rw [this]
  split
  · rename_i h; simp [h]
  · rename_i h; simp [h]

set_option maxHeartbeats 1000000 in
theorem containsAny_asc (L : ByteArray) (hL : Asc L) (hL2 : 2 ≤ L.size) (hLs : L.size ≤ 64) (s : ByteArray) (w : World) (hs : s.size ≤ 4294967280) :
    Calls Tryz.prog 82 #[.string s, .string L] w fun e w' => e = .returned (.bool (decide (upto (isAny L.data.toList) s 0 < s.size))) ∧ Below w.heap.size w w' := by
  have hv := indexAny_anyB s L.data.toList
  obtain ⟨v, hvv⟩ : ∃ v, v = Lib.indexAny s.data.toList L.data.toList := ⟨_, rfl⟩
  rw [← hvv] at hv
  have HV : Hid (decide (0 ≤ v) = decide (upto (isAny L.data.toList) s 0 < s.size)) := by show _ = _; simp only [hv]
  have HVV := Lib.hid hvv
  have HL := Lib.hid hL
  clear hv hvv hL
  go_enter Tryz.func82, Tryz.ntmps82
  go_wp2_with fail
  refine (indexAny_asc L HL.out hL2 hLs s _ hs).mono ?_
  rintro e w1 ⟨rfl, hb⟩
  rw [← HVV.out]
  have HB := Lib.hid hb
  clear hb
  go_wp2
  go_ret
  exact ⟨ret_boolS HV.out, HB.out⟩
end Go.Proofs.YtcbmddgafkoooaaGreatDoor
namespace Go.Proofs.YtcbmddgafkoooaaGreatDoor
open Go.RowKit

def lowB (n : Int) : Bool := decide (n < 32)
def badS : ByteArray := ⟨#[91, 93, 124, 96]⟩
theorem badS_asc : Asc badS := by
  intro i h
  have : i < 4 := h
  match i, this with
  | 0, _ => exact (by decide : (91 : UInt8).toNat < 128)
  | 1, _ => exact (by decide : (93 : UInt8).toNat < 128)
  | 2, _ => exact (by decide : (124 : UInt8).toNat < 128)
  | 3, _ => exact (by decide : (96 : UInt8).toNat < 128)
set_option maxHeartbeats 1000000 in
theorem controls_any (s : ByteArray) (w : World) (hs : s.size ≤ 4294967280) :
    Calls Tryz.prog 83 #[.string s] w fun e w' => e = .returned (.bool (decide (upto lowB s 0 < s.size))) ∧ w = w' := by
  go_enter Tryz.func83, Tryz.ntmps83
  go_wp2
  go_loop [3] (fun i => ∃ k : Nat, k ≤ s.size ∧ i = .int .i64 k ∧ Hid (upto lowB s k = upto lowB s 0)) (fun i => s.size - (intOf i).toNat)
  case atStart => exact ⟨0, Nat.zero_le _, rfl, rfl⟩
  case round =>
    obtain ⟨k, hk, rfl, hu⟩ := hrel
    by_cases hlt : k < s.size
    · have i0 : (0 : Int) ≤ (k : Int) := by omega
      have i1 : (k : Int) < (s.size : Int) := by omega
      have hb := bt_at hlt
      cases hq : decide ((s[k].toNat : Int) < 32)
      · have HU : Hid (upto lowB s (k + 1) = upto lowB s 0) := (upto_go hlt (by rw [hb]; exact hq)).symm.trans hu.out
        clear hb
        go_wp2
        go_round
        case rel => exact ⟨k + 1, by omega, by go_num, HU⟩
        case measure => simp [intOf]; omega
      · have HV : Hid (true = decide (upto lowB s 0 < s.size)) := by
          show _ = _
          rw [← hu.out, upto_stop (by rw [hb]; exact hq)]
          simp [hlt]
        clear hb
        go_wp2
        go_ret
        exact ⟨ret_boolS HV.out, rfl⟩
    · obtain rfl : k = s.size := by omega
      have HV : Hid (false = decide (upto lowB s 0 < s.size)) := by
        show _ = _
        rw [← hu.out, upto_out (Nat.le_refl _)]
        simp
      go_wp2
      go_ret
      exact ⟨ret_boolS HV.out, rfl⟩

theorem isTgt_split {t : ByteArray} (h0 : 0 < t.size) (h1 : t.size ≤ 100) (h2 : (bt t 0 == 32) = false) (h3 : (bt t (t.size - 1) == 32) = false) :
    isTgt t = (!(decide (upto (isAny badS.data.toList) t 0 < t.size)) && !(decide (upto lowB t 0 < t.size))) := by
  unfold isTgt
  rw [h2, h3]
  simp only [h0, h1, decide_true, Bool.true_and, Bool.not_false]
  have e1 := upto_ge (notB tgtB) t 0
  have key : ∀ n : Int, notB tgtB n = (isAny badS.data.toList n || lowB n) := by
    intro n
    unfold notB isAny badS lowB tgtB
    rw [Bool.eq_iff_iff]
    simp
    omega
  by_cases ha : upto (isAny badS.data.toList) t 0 < t.size
  · have := upto_at ha
    have hn : ¬ upto (notB tgtB) t 0 = t.size := fun e => by
      have := upto_mid (stop := notB tgtB) (s := t) (i := 0) (j := upto (isAny badS.data.toList) t 0) (Nat.zero_le _) (by omega)
      rw [key] at this
      simp at this
      rw [upto_at ha] at this
      cases this.1
    simp [ha, hn]
  · by_cases hb : upto lowB t 0 < t.size
    · have hn : ¬ upto (notB tgtB) t 0 = t.size := fun e => by
        have := upto_mid (stop := notB tgtB) (s := t) (i := 0) (j := upto lowB t 0) (Nat.zero_le _) (by omega)
        rw [key] at this
        simp at this
        rw [upto_at hb] at this
        cases this.2
      simp [hb, hn]
    · have : upto (notB tgtB) t 0 = t.size := upto_eq (Nat.zero_le _) (Nat.le_refl _) (fun j hj hj' => by
        rw [key, upto_mid (stop := isAny badS.data.toList) (i := 0) hj (by omega), upto_mid (stop := lowB) (i := 0) hj (by omega)]; rfl) (.inl rfl)
      simp [ha, hb, this]

set_option maxHeartbeats 2000000 in
theorem rIsTarget_any (t : ByteArray) (w : World) (hs : t.size ≤ 4294967280) :
    Calls Tryz.prog 56 #[.string t] w fun e w' => e = .returned (.bool (isTgt t)) ∧ Below w.heap.size w w' := by
  by_cases c0 : t.size = 0
  · have HV : Hid (false = isTgt t) := by show _ = _; unfold isTgt; simp [c0]
    have g0 : decide ((1 : Int) ≤ (t.size : Int)) = false := by simp; omega
    clear c0
    go_enter Tryz.func56, Tryz.ntmps56
    go_wp2_with fail
    go_ret
    exact ⟨ret_boolS HV.out, Below.refl _ _⟩
  have hp : 0 < t.size := by omega
  have g0 : decide ((1 : Int) ≤ (t.size : Int)) = true := by simp; omega
  clear c0
  by_cases c1 : t.size ≤ 100
  · have g1 : decide ((t.size : Int) ≤ 100) = true := by simp; omega
    have hlast : t.size - 1 < t.size := by omega
    have i1 : (0 : Int) ≤ (t.size : Int) - 1 := by omega
    have i2 : (t.size : Int) ≤ 100 := by omega
    have b0 := bt_at hp
    have b1 := bt_at hlast
    cases c2 : decide (upto (isAny badS.data.toList) t 0 < t.size)
    · cases c3 : ((t[0].toNat : Int) == 32)
      · cases c4 : ((t[t.size - 1].toNat : Int) == 32)
        · have hsp := isTgt_split hp c1 (by rw [b0]; exact c3) (by rw [b1]; exact c4)
          rw [c2] at hsp
          have HV : Hid ((!(decide (upto lowB t 0 < t.size))) = isTgt t) := by show _ = _; rw [hsp]; rfl
          have d3 : ((t[0].toNat : Int) != 32) = true := by simpa using c3
          have d4 : ((t[t.size - 1].toNat : Int) != 32) = true := by simpa using c4
          clear b0 b1 hsp c3 c4
          go_enter Tryz.func56, Tryz.ntmps56
          go_wp2_with fail
          refine (containsAny_asc badS badS_asc (by decide) (by decide) t _ hs).mono ?_
          rintro e w1 ⟨rfl, hb⟩
          rw [c2]
          have HB := Lib.hid hb
          clear hb c2
          go_wp2_with fail
          refine (controls_any t _ hs).mono ?_
          rintro e w2 ⟨rfl, hw⟩
          rw [← hw]
          clear hw
          obtain ⟨v, hv⟩ : ∃ v, v = decide (upto lowB t 0 < t.size) := ⟨_, rfl⟩
          rw [← hv] at HV ⊢
          clear hv
          go_wp2_with fail
          go_ret
          exact ⟨ret_boolS HV.out, HB.out⟩
        · have HV : Hid (false = isTgt t) := by show _ = _; unfold isTgt; rw [b1, c4]; simp
          have d3 : ((t[0].toNat : Int) != 32) = true := by simpa using c3
          have d4 : ((t[t.size - 1].toNat : Int) != 32) = false := by simpa using c4
          clear b0 b1 c3 c4
          go_enter Tryz.func56, Tryz.ntmps56
          go_wp2_with fail
          refine (containsAny_asc badS badS_asc (by decide) (by decide) t _ hs).mono ?_
          rintro e w1 ⟨rfl, hb⟩
          rw [c2]
          have HB := Lib.hid hb
          clear hb c2
          go_wp2_with fail
          go_ret
          exact ⟨ret_boolS HV.out, HB.out⟩
      · have HV : Hid (false = isTgt t) := by show _ = _; unfold isTgt; rw [b0, c3]; simp
        have d3 : ((t[0].toNat : Int) != 32) = false := by simpa using c3
        clear b0 b1 c3
        go_enter Tryz.func56, Tryz.ntmps56
        go_wp2_with fail
        refine (containsAny_asc badS badS_asc (by decide) (by decide) t _ hs).mono ?_
        rintro e w1 ⟨rfl, hb⟩
        rw [c2]
        have HB := Lib.hid hb
        clear hb c2
        go_wp2_with fail
        go_ret
        exact ⟨ret_boolS HV.out, HB.out⟩
    · have HV : Hid (false = isTgt t) := by
        show _ = _
        cases c3 : (bt t 0 == 32)
        · cases c4 : (bt t (t.size - 1) == 32)
          · rw [isTgt_split hp c1 c3 c4, c2]; rfl
          · unfold isTgt; rw [c4]; simp
        · unfold isTgt; rw [c3]; simp
      clear b0 b1
      go_enter Tryz.func56, Tryz.ntmps56
      go_wp2_with fail
      refine (containsAny_asc badS badS_asc (by decide) (by decide) t _ hs).mono ?_
      rintro e w1 ⟨rfl, hb⟩
      rw [c2]
      have HB := Lib.hid hb
      clear hb c2
      go_wp2_with fail
      go_ret
      exact ⟨ret_boolS HV.out, HB.out⟩
  · have HV : Hid (false = isTgt t) := by show _ = _; unfold isTgt; simp [c1]
    have g1 : decide ((t.size : Int) ≤ 100) = false := by simp; omega
    clear c1
    go_enter Tryz.func56, Tryz.ntmps56
    go_wp2_with fail
    go_ret
    exact ⟨ret_boolS HV.out, Below.refl _ _⟩
end Go.Proofs.YtcbmddgafkoooaaGreatDoor
namespace Go.Proofs.YtcbmddgafkoooaaGreatDoor
open Go.RowKit

/-- is there a letter ahead of place k? -/
def letTo (s : ByteArray) (k : Nat) : Bool := decide (upto letB s 0 < k)
theorem letTo_step {s : ByteArray} {k : Nat} (hk : k < s.size) : letTo s (k + 1) = (letTo s k || letB (bt s k)) := by
  unfold letTo
  by_cases h : upto letB s 0 < k
  · simp [h]; omega
  · cases hb : letB (bt s k)
    · have : upto letB s 0 ≠ k := fun e => by have := upto_at (stop := letB) (s := s) (i := 0) (by omega); rw [e, hb] at this; cases this
      simp [h]; omega
    · have : upto letB s 0 ≤ k := by
        rcases Nat.lt_or_ge k (upto letB s 0) with g | g
        · have := upto_mid (stop := letB) (i := 0) (Nat.zero_le _) g; rw [hb] at this; cases this
        · exact g
      simp; omega
def isTagB (s : ByteArray) : Bool := letTo s s.size && decide (s.size ≤ 100) && !(bt s 0 == 47) && !(bt s (s.size - 1) == 47)

theorem isTagB_eq (s : ByteArray) {a b : Int} (h0 : bt s 0 = a) (h1 : bt s (s.size - 1) = b) : isTagB s = (letTo s s.size && decide ((s.size : Int) ≤ 100) && (a != 47) && (b != 47)) := by
  unfold isTagB
  rw [h0, h1]
  have : decide (s.size ≤ 100) = decide ((s.size : Int) ≤ 100) := by simp only [decide_eq_decide]; omega
  rw [this]
  rfl

set_option maxHeartbeats 4000000 in
set_option maxRecDepth 100000 in
theorem rIsTag_any (s : ByteArray) (w : World) (hs : s.size ≤ 4294967280) (h0 : 0 < s.size) (hall : ∀ i, i < s.size → tagB (bt s i) = true) :
    Calls Tryz.prog 59 #[.string s] w fun e w' => e = .returned (.bool (isTagB s)) ∧ w = w' := by
  have HA := Lib.hid hall
  clear hall
  go_enter Tryz.func59, Tryz.ntmps59
  go_wp2
  go_loop [3, 4] (fun b i => ∃ k : Nat, k ≤ s.size ∧ i = .int .i64 k ∧ b = .bool (letTo s k)) (fun _ i => s.size - (intOf i).toNat)
  case atStart => exact ⟨0, Nat.zero_le _, rfl, by unfold letTo; simp⟩
  case round =>
    obtain ⟨k, hk, rfl, rfl⟩ := hrel
    by_cases hlt : k < s.size
    · have i0 : (0 : Int) ≤ (k : Int) := by omega
      have i1 : (k : Int) < (s.size : Int) := by omega
      have ht := HA.out k hlt
      have hst := letTo_step hlt
      rw [bt_at hlt] at ht hst
      have c0 : (0 : Int) ≤ (s[k].toNat : Int) := by omega
      have c1 : (s[k].toNat : Int) ≤ 255 := by have := (s[k]).toNat_lt; omega
      obtain ⟨c, hc⟩ : ∃ c : Int, c = (s[k].toNat : Int) := ⟨_, rfl⟩
      have HC := Lib.hid hc
      rw [← hc] at ht hst c0 c1
      rw [tagB_split] at ht
      obtain ⟨b, hb⟩ : ∃ b, b = letTo s k := ⟨_, rfl⟩
      rw [← hb] at hst ⊢
      obtain ⟨b', hb'⟩ : ∃ b', b' = letTo s (k + 1) := ⟨_, rfl⟩
      rw [← hb'] at hst
      have HB' := Lib.hid hb'
      have hcc : (s[k].toNat : Int) = c := hc.symm
      clear hb hb' hc
      cases hl : letB c
      · rw [hl] at ht hst
        cases hd : digB c
        · rw [hd] at ht
          have hw3 : c = 95 ∨ c = 45 ∨ c = 47 := by simpa [or_assoc] using ht
          have n1 : (c != 95) = !(c == 95) := rfl
          rcases hw3 with e3 | e3 | e3
          · have q1 : (c != 95) = false := by rw [e3]; rfl
            have q2 : (c != 45) = true := by rw [e3]; rfl
            have q3 : (c != 47) = true := by rw [e3]; rfl
            clear e3 n1
            have HH := Lib.hid hst
            clear hst ht
            cases b
            · skip
              go_wp2_with fail
              refine (rLetter_any _ _ c0 c1).mono ?_
              rintro e w1 ⟨rfl, hw⟩
              rw [hl, ← hw]
              clear hw
              go_wp2_with fail
              refine (rDigit_any _ _ c0 c1).mono ?_
              rintro e w1 ⟨rfl, hw⟩
              rw [hd, ← hw]
              clear hw
              go_wp2_with fail
              refine (rLetter_any _ _ c0 c1).mono ?_
              rintro e w1 ⟨rfl, hw⟩
              rw [hl, ← hw]
              clear hw
              go_wp2_with fail
              go_round
              case rel => exact ⟨k + 1, by omega, by go_num, by rw [← HB'.out, HH.out]; rfl⟩
              case measure => simp [intOf]; omega
            · skip
              go_wp2_with fail
              refine (rLetter_any _ _ c0 c1).mono ?_
              rintro e w1 ⟨rfl, hw⟩
              rw [hl, ← hw]
              clear hw
              go_wp2_with fail
              refine (rDigit_any _ _ c0 c1).mono ?_
              rintro e w1 ⟨rfl, hw⟩
              rw [hd, ← hw]
              clear hw
              go_wp2_with fail
              go_round
              case rel => exact ⟨k + 1, by omega, by go_num, by rw [← HB'.out, HH.out]; rfl⟩
              case measure => simp [intOf]; omega
          · have q1 : (c != 95) = true := by rw [e3]; rfl
            have q2 : (c != 45) = false := by rw [e3]; rfl
            have q3 : (c != 47) = true := by rw [e3]; rfl
            clear e3 n1
            have HH := Lib.hid hst
            clear hst ht
            cases b
            · skip
              go_wp2_with fail
              refine (rLetter_any _ _ c0 c1).mono ?_
              rintro e w1 ⟨rfl, hw⟩
              rw [hl, ← hw]
              clear hw
              go_wp2_with fail
              refine (rDigit_any _ _ c0 c1).mono ?_
              rintro e w1 ⟨rfl, hw⟩
              rw [hd, ← hw]
              clear hw
              go_wp2_with fail
              refine (rLetter_any _ _ c0 c1).mono ?_
              rintro e w1 ⟨rfl, hw⟩
              rw [hl, ← hw]
              clear hw
              go_wp2_with fail
              go_round
              case rel => exact ⟨k + 1, by omega, by go_num, by rw [← HB'.out, HH.out]; rfl⟩
              case measure => simp [intOf]; omega
            · skip
              go_wp2_with fail
              refine (rLetter_any _ _ c0 c1).mono ?_
              rintro e w1 ⟨rfl, hw⟩
              rw [hl, ← hw]
              clear hw
              go_wp2_with fail
              refine (rDigit_any _ _ c0 c1).mono ?_
              rintro e w1 ⟨rfl, hw⟩
              rw [hd, ← hw]
              clear hw
              go_wp2_with fail
              go_round
              case rel => exact ⟨k + 1, by omega, by go_num, by rw [← HB'.out, HH.out]; rfl⟩
              case measure => simp [intOf]; omega
          · have q1 : (c != 95) = true := by rw [e3]; rfl
            have q2 : (c != 45) = true := by rw [e3]; rfl
            have q3 : (c != 47) = false := by rw [e3]; rfl
            clear e3 n1
            have HH := Lib.hid hst
            clear hst ht
            cases b
            · skip
              go_wp2_with fail
              refine (rLetter_any _ _ c0 c1).mono ?_
              rintro e w1 ⟨rfl, hw⟩
              rw [hl, ← hw]
              clear hw
              go_wp2_with fail
              refine (rDigit_any _ _ c0 c1).mono ?_
              rintro e w1 ⟨rfl, hw⟩
              rw [hd, ← hw]
              clear hw
              go_wp2_with fail
              refine (rLetter_any _ _ c0 c1).mono ?_
              rintro e w1 ⟨rfl, hw⟩
              rw [hl, ← hw]
              clear hw
              go_wp2_with fail
              go_round
              case rel => exact ⟨k + 1, by omega, by go_num, by rw [← HB'.out, HH.out]; rfl⟩
              case measure => simp [intOf]; omega
            · skip
              go_wp2_with fail
              refine (rLetter_any _ _ c0 c1).mono ?_
              rintro e w1 ⟨rfl, hw⟩
              rw [hl, ← hw]
              clear hw
              go_wp2_with fail
              refine (rDigit_any _ _ c0 c1).mono ?_
              rintro e w1 ⟨rfl, hw⟩
              rw [hd, ← hw]
              clear hw
              go_wp2_with fail
              go_round
              case rel => exact ⟨k + 1, by omega, by go_num, by rw [← HB'.out, HH.out]; rfl⟩
              case measure => simp [intOf]; omega
        · skip
          have HH := Lib.hid hst
          clear hst ht
          cases b
          · skip
            go_wp2_with fail
            refine (rLetter_any _ _ c0 c1).mono ?_
            rintro e w1 ⟨rfl, hw⟩
            rw [hl, ← hw]
            clear hw
            go_wp2_with fail
            refine (rDigit_any _ _ c0 c1).mono ?_
            rintro e w1 ⟨rfl, hw⟩
            rw [hd, ← hw]
            clear hw
            go_wp2_with fail
            refine (rLetter_any _ _ c0 c1).mono ?_
            rintro e w1 ⟨rfl, hw⟩
            rw [hl, ← hw]
            clear hw
            go_wp2_with fail
            go_round
            case rel => exact ⟨k + 1, by omega, by go_num, by rw [← HB'.out, HH.out]; rfl⟩
            case measure => simp [intOf]; omega
          · skip
            go_wp2_with fail
            refine (rLetter_any _ _ c0 c1).mono ?_
            rintro e w1 ⟨rfl, hw⟩
            rw [hl, ← hw]
            clear hw
            go_wp2_with fail
            refine (rDigit_any _ _ c0 c1).mono ?_
            rintro e w1 ⟨rfl, hw⟩
            rw [hd, ← hw]
            clear hw
            go_wp2_with fail
            go_round
            case rel => exact ⟨k + 1, by omega, by go_num, by rw [← HB'.out, HH.out]; rfl⟩
            case measure => simp [intOf]; omega
      · rw [hl] at hst
        have HH := Lib.hid hst
        clear hst ht
        cases b
        · skip
          go_wp2_with fail
          refine (rLetter_any _ _ c0 c1).mono ?_
          rintro e w1 ⟨rfl, hw⟩
          rw [hl, ← hw]
          clear hw
          go_wp2_with fail
          refine (rLetter_any _ _ c0 c1).mono ?_
          rintro e w1 ⟨rfl, hw⟩
          rw [hl, ← hw]
          clear hw
          go_wp2_with fail
          go_round
          case rel => exact ⟨k + 1, by omega, by go_num, by rw [← HB'.out, HH.out]; rfl⟩
          case measure => simp [intOf]; omega
        · skip
          go_wp2_with fail
          refine (rLetter_any _ _ c0 c1).mono ?_
          rintro e w1 ⟨rfl, hw⟩
          rw [hl, ← hw]
          clear hw
          go_wp2_with fail
          go_round
          case rel => exact ⟨k + 1, by omega, by go_num, by rw [← HB'.out, HH.out]; rfl⟩
          case measure => simp [intOf]; omega
    · obtain rfl : k = s.size := by omega
      have hlast : s.size - 1 < s.size := by omega
      have i1 : (0 : Int) ≤ (s.size : Int) - 1 := by omega
      have b0 := bt_at h0
      have b1 := bt_at hlast
      have HV := isTagB_eq s b0 b1
      obtain ⟨b, hb⟩ : ∃ b, b = letTo s s.size := ⟨_, rfl⟩
      rw [← hb] at HV ⊢
      have HV1 := Lib.hid HV
      clear hb b0 b1 HV
      cases b
      · have HV2 : Hid (false = isTagB s) := by show _ = _; rw [HV1.out]; rfl
        go_wp2_with fail
        go_ret
        exact ⟨ret_boolS HV2.out, rfl⟩
      · cases d1 : decide ((s.size : Int) ≤ 100)
        · have HV2 : Hid (false = isTagB s) := by show _ = _; rw [HV1.out, d1]; rfl
          go_wp2_with fail
          go_ret
          exact ⟨ret_boolS HV2.out, rfl⟩
        · cases d2 : ((s[0].toNat : Int) != 47)
          · have HV2 : Hid (false = isTagB s) := by show _ = _; rw [HV1.out, d1, d2]; rfl
            go_wp2_with fail
            go_ret
            exact ⟨ret_boolS HV2.out, rfl⟩
          · have HV2 : Hid (((s[s.size - 1].toNat : Int) != 47) = isTagB s) := by show _ = _; rw [HV1.out, d1, d2]; rfl
            go_wp2_with fail
            go_ret
            exact ⟨ret_boolS HV2.out, rfl⟩
end Go.Proofs.YtcbmddgafkoooaaGreatDoor
namespace Go.Proofs.YtcbmddgafkoooaaGreatDoor
open Go.RowKit

theorem same_tail {s : ByteArray} {a : Nat} (ha : a ≤ s.size) : Same (s.extract a s.size) s 0 a :=
  ⟨Nat.zero_le _, ha, by rw [List.drop_zero, ext_list]⟩
theorem tail_bt {s : ByteArray} {a : Nat} (ha : a ≤ s.size) (i : Nat) : bt (s.extract a s.size) i = bt s (a + i) := by
  have := (same_tail ha).at_ i
  rwa [Nat.zero_add] at this
theorem tail_ext {s : ByteArray} {a : Nat} (ha : a ≤ s.size) {i j : Nat} (h : i ≤ j) : (s.extract a s.size).extract i j = s.extract (a + i) (a + j) :=
  ((same_tail ha).ext (Nat.zero_le _) h (by omega) (by omega)).symm
theorem tail_size {s : ByteArray} {a : Nat} : (s.extract a s.size).size = s.size - a := by rw [ByteArray.size_extract]; omega

def byteK : Nat → Int
  | 0 => 92
  | 1 => 96
  | 2 => 91
  | 3 => 40
  | 4 => 35
  | _ => 42
theorem tokK_byte {k : Nat} {s : ByteArray} {a : Nat} {x : Sp} (h : tokK k s a = some x) : bt s a = byteK k := by
  unfold tokK at h
  split at h
  · exact tokE_byte h
  · exact tokC_byte h
  · exact (tokL_inv h).b0
  · unfold tokR at h; dsimp only at h; split at h
    · rename_i c; exact c.1
    · cases h
  · unfold tokT at h; dsimp only at h; split at h
    · rename_i c; exact c.1
    · cases h
  · unfold tokB at h; split at h
    · rename_i c
      rw [c.1]
      unfold byteK
      split <;> first | rfl | (exfalso; simp_all)
    · cases h
theorem byteK_inj {j k : Nat} (hk : k < 6) (hj : j < k) : byteK j ≠ byteK k := by
  match k, hk with
  | 1, _ => match j, hj with | 0, _ => decide
  | 2, _ => match j, hj with | 0, _ => decide | 1, _ => decide
  | 3, _ => match j, hj with | 0, _ => decide | 1, _ => decide | 2, _ => decide
  | 4, _ => match j, hj with | 0, _ => decide | 1, _ => decide | 2, _ => decide | 3, _ => decide
  | 5, _ => match j, hj with | 0, _ => decide | 1, _ => decide | 2, _ => decide | 3, _ => decide | 4, _ => decide
theorem tokA_of {k : Nat} {s : ByteArray} {a : Nat} {x : Sp} (hk : k < 6) (h : tokK k s a = some x) : tokA s a = x :=
  tokA_some hk (fun j hj => by
    cases e : tokK j s a with
    | none => rfl
    | some y => exact absurd ((tokK_byte e).symm.trans (tokK_byte h)) (byteK_inj hk hj)) h
theorem tokA_no {k : Nat} {s : ByteArray} {a : Nat} (hk : k < 6) (hb : bt s a = byteK k) (h : tokK k s a = none) : tokA s a = plainAt a :=
  tokA_none (fun j hj => by
    cases e : tokK j s a with
    | none => rfl
    | some y =>
      have h1 := (tokK_byte e).symm.trans hb
      rcases Nat.lt_trichotomy j k with g | g | g
      · exact absurd h1 (byteK_inj hk g)
      · subst g; rw [h] at e; cases e
      · exact absurd h1.symm (byteK_inj hj g))
theorem tokA_other {s : ByteArray} {a : Nat} (h : ∀ k, k < 6 → bt s a ≠ byteK k) : tokA s a = plainAt a :=
  tokA_none (fun j hj => by
    cases e : tokK j s a with
    | none => rfl
    | some y => exact absurd (tokK_byte e) (h j hj))

/-- the reference's token, as a value -/
def rtV (s : ByteArray) (a : Nat) : Value := spV (fillT s (tokA s a))
theorem rtV_plain {s : ByteArray} {a : Nat} (h : tokA s a = plainAt a) : rtV s a = .agg #[.int .i64 1, .int .i64 a, .int .i64 (a + 1), .string (s.extract a (a + 1)), .string ⟨#[]⟩, .int .i64 0, .bool false] := by
  unfold rtV; rw [h]; rfl
theorem rtV_of {k : Nat} {s : ByteArray} {a : Nat} {x : Sp} (hk : k < 6) (h : tokK k s a = some x) (h1 : x.kind ≠ 1) : rtV s a = spV x := by
  unfold rtV; rw [tokA_of hk h]; unfold fillT; rw [if_neg h1]
end Go.Proofs.YtcbmddgafkoooaaGreatDoor
namespace Go.Proofs.YtcbmddgafkoooaaGreatDoor
open Go.RowKit

set_option maxHeartbeats 1000000 in
set_option maxRecDepth 100000 in
theorem sliteIndexByte_any (s : ByteArray) (c : Int) (w : World) :
    Calls Tryz.prog 63 #[.string s, .int .u8 c] w fun e w' => e = .returned (.int .i64 (Lib.indexByte s.data.toList c.toNat.toUInt8)) ∧ w' = w := by
  go_enter Tryz.func63, Tryz.ntmps63
  go_wp2
  rw [run_callFunc_extern Tryz.func85 (by kernel_rfl) (by kernel_rfl) (by kernel_rfl) (e := Extern.BytealgIndexByte.indexByte) (by kernel_rfl), Lib.run_indexByteString]
  simp only [Result.andThen]
  rw [Oper.upon_value]
  go_wp2
  go_ret
  exact ⟨rfl, rfl⟩

def barS : ByteArray := ⟨#[124]⟩
set_option maxHeartbeats 1000000 in
set_option maxRecDepth 100000 in
theorem indexBar_any (Q : ByteArray) (w : World) :
    Calls Tryz.prog 99 #[.string Q, .string ⟨#[124]⟩] w fun e w' => e = .returned (.int .i64 (Lib.indexByte Q.data.toList 124)) ∧ w' = w := by
  by_cases hq : Q = ⟨#[124]⟩
  · subst hq
    go_enter Tryz.func99, Tryz.ntmps99
    go_wp2_with fail
    go_ret
    exact ⟨rfl, rfl⟩
  · have hne : (([124] : List UInt8) == Q.toList) = false := by
      rw [Lib.toList_data]
      simp only [beq_eq_false_iff_ne, ne_eq]
      intro e
      exact hq (ba_ext e.symm)
    clear hq
    go_enter Tryz.func99, Tryz.ntmps99
    go_wp2_with fail
    refine (sliteIndexByte_any Q _ _).mono ?_
    rintro e w1 ⟨rfl, rfl⟩
    go_wp2_with fail
    go_ret
    exact ⟨rfl, rfl⟩

def cutV (Q : ByteArray) : Value :=
  if upto (isC 124) Q 0 < Q.size then .tuple #[.string (Q.extract 0 (upto (isC 124) Q 0)), .string (Q.extract (upto (isC 124) Q 0 + 1) Q.size), .bool true] else .tuple #[.string Q, .string ⟨#[]⟩, .bool false]
theorem indexBar_upto (Q : ByteArray) : Lib.indexByte Q.data.toList 124 = if upto (isC 124) Q 0 < Q.size then (upto (isC 124) Q 0 : Int) else -1 := by
  have := indexByte_upto Q 124 _ 0 rfl
  rw [List.drop_zero] at this
  rw [this]
  show (if upto (isC 124) Q 0 < Q.size then (upto (isC 124) Q 0 : Int) - 0 else -1) = _
  simp
set_option maxHeartbeats 1000000 in
set_option maxRecDepth 100000 in
theorem sliteCut_any (Q : ByteArray) (w : World) (hs : Q.size ≤ 4294967280) :
    Calls Tryz.prog 81 #[.string Q, .string ⟨#[124]⟩] w fun e w' => e = .returned (cutV Q) ∧ Below w.heap.size w w' := by
  have hx := indexBar_upto Q
  by_cases h : upto (isC 124) Q 0 < Q.size
  · rw [if_pos h] at hx
    have HV : Hid (cutV Q = .tuple #[.string (Q.extract 0 (upto (isC 124) Q 0)), .string (Q.extract (upto (isC 124) Q 0 + 1) Q.size), .bool true]) := by show _ = _; unfold cutV; rw [if_pos h]
    obtain ⟨u, hu⟩ : ∃ u, u = upto (isC 124) Q 0 := ⟨_, rfl⟩
    rw [← hu] at hx h HV
    have HX := Lib.hid hx
    have i0 : (0 : Int) ≤ (u : Int) := by omega
    have i1 : (u : Int) < (Q.size : Int) := by omega
    have z1 : IntKind.i64.wrap ((u : Int) + 1) = (u : Int) + 1 := IntWalk.i64_in _ (by omega)
    have z2 : (0 : Int) ≤ (u : Int) + 1 := by omega
    have z3 : (u : Int) + 1 ≤ (Q.size : Int) := by omega
    have z4 : ((u : Int) + 1).toNat = u + 1 := by omega
    clear hx hu
    go_enter Tryz.func81, Tryz.ntmps81
    go_wp2_with fail
    refine (indexBar_any Q _).mono ?_
    rintro e w1 ⟨rfl, rfl⟩
    rw [HX.out]
    go_wp2_with fail
    go_quiet (fail)
    go_wp2
    go_ret3
    exact ⟨by rw [HV.out]; rfl, bdrew (Below.refl _ _) _⟩
  · rw [if_neg h] at hx
    have HV : Hid (cutV Q = .tuple #[.string Q, .string ⟨#[]⟩, .bool false]) := by show _ = _; unfold cutV; rw [if_neg h]
    have HX := Lib.hid hx
    clear hx h
    go_enter Tryz.func81, Tryz.ntmps81
    go_wp2_with fail
    refine (indexBar_any Q _).mono ?_
    rintro e w1 ⟨rfl, rfl⟩
    rw [HX.out]
    go_wp2_with fail
    go_ret3
    exact ⟨by rw [HV.out]; rfl, Below.refl _ _⟩
theorem cutV_shape (Q : ByteArray) : ∃ (a b : ByteArray) (c : Bool), cutV Q = .tuple #[.string a, .string b, .bool c] := by
  unfold cutV
  split
  · exact ⟨_, _, _, rfl⟩
  · exact ⟨_, _, _, rfl⟩
set_option maxHeartbeats 1000000 in
set_option maxRecDepth 100000 in
theorem cutBar_any (Q : ByteArray) (w : World) (hs : Q.size ≤ 4294967280) :
    Calls Tryz.prog 55 #[.string Q, .string ⟨#[124]⟩] w fun e w' => e = .returned (cutV Q) ∧ Below w.heap.size w w' := by
  obtain ⟨a, b, c, hv⟩ := cutV_shape Q
  have HV := Lib.hid hv
  clear hv
  go_enter Tryz.func55, Tryz.ntmps55
  go_wp2_with fail
  refine (sliteCut_any Q _ hs).mono ?_
  rintro e w1 ⟨rfl, hb⟩
  rw [HV.out]
  have HB := Lib.hid hb
  clear hb
  go_wp2
  go_ret3
  exact ⟨by rw [HV.out]; rfl, HB.out⟩
end Go.Proofs.YtcbmddgafkoooaaGreatDoor
