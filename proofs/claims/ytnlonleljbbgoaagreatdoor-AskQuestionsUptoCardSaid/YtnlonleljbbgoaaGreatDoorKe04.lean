/-
  DERIVED. strings.IndexRune at a text of ASCII bytes, of a rune beyond ASCII; strings.IndexAny and ContainsAny at ASCII bytes, of every text. Conditions: a length in reach.
  The walks of sync.Once's Do, not yet done, for a function value that is a method bound to the block's own struct. Conditions: the cells of the Once; the method's contract. By an AI agent (after the worked walks of a Once, turned to this program).
  By an AI agent.
-/
import Derived.Test.YtnlonleljbbgoaaGreatDoorKe01
import Derived.Test.YtnlonleljbbgoaaGreatDoorKe02
import Derived.Test.YtnlonleljbbgoaaGreatDoorChecked
import Derived.Deep.LoopGhost
import Derived.Deep.QuietTactic
import Derived.BigQuiet
import Derived.Laws.Runes
import Derived.Lib.OthersKept
import Derived.Lib.DecodeN
import Derived.Laws.Externs
namespace Go.Proofs.YtnlonleljbbgoaaGreatDoor
open Go.RowKit

theorem notEmpty_of {t : ByteArray} (h : 0 < t.size) : t.toList.isEmpty = false := by
  rw [ByteArray.toList_eq]
  obtain ⟨⟨l⟩⟩ := t
  cases l with
  | nil => cases h
  | cons a l => rfl

set_option maxHeartbeats 1000000 in
theorem validRune_any (r : Int) (w : World) (h : (0 ≤ r ∧ r < 55296) ∨ (57343 < r ∧ r ≤ 1114111)) : Calls Tryz.prog 199 #[.int .i32 r] w fun e w' => e = .returned (.bool true) ∧ w = w' := by
  rcases h with ⟨h1, h2⟩ | ⟨h1, h2⟩
  · go_enter Tryz.func199, Tryz.ntmps199
    go_wp2
    go_ret
    exact ⟨rfl, rfl⟩
  · have h3 : (0 : Int) ≤ r := by omega
    have h4 : ¬ r < 55296 := by omega
    go_enter Tryz.func199, Tryz.ntmps199
    go_wp2
    go_ret
    exact ⟨rfl, rfl⟩

/-- what is decoded from a byte beyond ASCII on -/
theorem decodeN_far (n b0 b1 b2 b3 : Nat) (h0 : 128 ≤ b0) :
    128 ≤ (Lib.decodeN n b0 b1 b2 b3).1 ∧ ((Lib.decodeN n b0 b1 b2 b3).1 < 55296 ∨ 57343 < (Lib.decodeN n b0 b1 b2 b3).1 ∧ (Lib.decodeN n b0 b1 b2 b3).1 ≤ 1114111) ∧
    ((Lib.decodeN n b0 b1 b2 b3).2 = 1 ∨ ((Lib.decodeN n b0 b1 b2 b3).2 = 2 ∧ 1 < n ∧ 128 ≤ b1) ∨ ((Lib.decodeN n b0 b1 b2 b3).2 = 3 ∧ 2 < n ∧ 128 ≤ b1 ∧ 128 ≤ b2) ∨ ((Lib.decodeN n b0 b1 b2 b3).2 = 4 ∧ 3 < n ∧ 128 ≤ b1 ∧ 128 ≤ b2 ∧ 128 ≤ b3)) := by
  unfold Lib.decodeN
  repeat' split
  all_goals (refine ⟨?_, ?_, ?_⟩ <;> dsimp only <;> omega)

theorem get!_bt {s : ByteArray} {i : Nat} (h : i < s.size) : s.get! i = s[i] := by
  cases s with
  | mk d =>
    show d[i]! = d[i]
    rw [getElem!_pos d i h]
theorem decode_far {s : ByteArray} {i : Nat} (h : i < s.size) (h0 : 128 ≤ (s[i]).toNat) :
    128 ≤ (Utf8.decode s i).1 ∧ ((Utf8.decode s i).1 < 55296 ∨ 57343 < (Utf8.decode s i).1 ∧ (Utf8.decode s i).1 ≤ 1114111) ∧ 1 ≤ (Utf8.decode s i).2 ∧ i + (Utf8.decode s i).2 ≤ s.size ∧
    ∀ j (hj : j < s.size), i ≤ j → j < i + (Utf8.decode s i).2 → 128 ≤ (s[j]).toNat := by
  rw [Lib.decode_at]
  obtain ⟨a1, a2, a3⟩ := decodeN_far (s.size - i) (s.get! i).toNat (s.get! (i + 1)).toNat (s.get! (i + 2)).toNat (s.get! (i + 3)).toNat (by rw [get!_bt h]; exact h0)
  refine ⟨a1, a2, by omega, by omega, fun j hj h1 h2 => ?_⟩
  rcases Nat.lt_or_ge j (i + 1) with g | g
  · obtain rfl : j = i := by omega
    exact h0
  · rcases Nat.lt_or_ge j (i + 2) with g2 | g2
    · obtain rfl : j = i + 1 := by omega
      rw [← get!_bt hj]; omega
    · rcases Nat.lt_or_ge j (i + 3) with g3 | g3
      · obtain rfl : j = i + 2 := by omega
        rw [← get!_bt hj]; omega
      · obtain rfl : j = i + 3 := by omega
        rw [← get!_bt hj]; omega

/-- ASCII bytes alone -/
def Asc (L : ByteArray) : Prop := ∀ i (h : i < L.size), (L[i]).toNat < 128
theorem Asc.drop_noByte {L : ByteArray} (hL : Asc L) (a : Nat) (x : UInt8) (hx : 128 ≤ x.toNat) : Lib.indexByte (L.data.toList.drop a) x = -1 := by
  have key : ∀ n a, L.size - a = n → Lib.indexByte (L.data.toList.drop a) x = -1 := by
    intro n
    induction n with
    | zero => intro a h; rw [drop_out (by omega)]; rfl
    | succ n ih =>
      intro a h
      have ha : a < L.size := by omega
      rw [drop_bt ha]
      simp only [Lib.indexByte]
      have := hL a ha
      rw [if_neg (by simp; intro e; rw [e] at this; omega), ih (a + 1) (by omega)]
      rfl
  exact key _ a rfl

set_option maxHeartbeats 2000000 in
set_option maxRecDepth 100000 in
theorem indexRune_asc (L : ByteArray) (hL : Asc L) (_hsz : L.size ≤ 64) (r : Int) (w : World) (h1 : 128 ≤ r) (hv : (0 ≤ r ∧ r < 55296) ∨ (57343 < r ∧ r ≤ 1114111)) :
    Calls Tryz.prog 165 #[.string L, .int .i32 r] w fun e w' => e = .returned (.int .i64 (-1)) ∧ Below w.heap.size w w' := by
  have h0 : (0 : Int) ≤ r := by omega
  have hr : r ≤ 1114111 := by omega
  have hn : ¬ r < 128 := by omega
  have HV := Lib.hid hv
  have HL := Lib.hid hL
  clear hL
  have hval : Utf8.valid r = true := by unfold Utf8.valid; simp; omega
  obtain ⟨e1, e2, e3⟩ := encode_facts r hval h1
  obtain ⟨T, hT⟩ : ∃ T, T = Utf8.encode r := ⟨_, rfl⟩
  rw [← hT] at e1 e2 e3
  have HT := Lib.hid hT
  clear hv hval hT
  by_cases hE : r = 65533
  · subst hE
    go_enter Tryz.func165, Tryz.ntmps165
    clear HT e1 e2 e3 HV
    go_wp2_with fail
    go_loopg [5, 6] L.size (fun g _ _ wx => ∃ i : Nat, i + g = L.size ∧ wx = w.iter L i)
    case atStart => exact ⟨0, by omega, rfl⟩
    case round =>
      obtain ⟨i, hig, rfl⟩ := hrel
      by_cases hi : i < L.size
      · have hlt := HL.out i hi
        have hnx := fun ty => run_next_ascii (P := Tryz.prog) w L i ty hi hlt
        have hne : (((L[i]).toNat : Int) == 65533) = false := by simp; omega
        go_wp2
        go_roundg (L.size - (i + 1))
        case measure => omega
        case rel => exact ⟨i + 1, by omega, rfl⟩
      · obtain rfl : i = L.size := by omega
        have hnx := run_next_end (P := Tryz.prog) w L L.size
        go_wp2
        go_ret
        exact ⟨rfl, (Below.refl _ _).alloc (Nat.le_refl _) _⟩
  · have hE' : (r == 65533) = false := by simpa using hE
    clear hE
    go_enter Tryz.func165, Tryz.ntmps165
    go_wp2_with fail
    refine (validRune_any r _ HV.out).mono ?_
    rintro e w1 ⟨rfl, hw⟩
    rw [← hw]
    clear hw
    have hT' := HT.out.symm
    have HB : Hid (∀ (a : Nat) (x : UInt8) w, 128 ≤ x.toNat → Calls Tryz.prog 178 #[.string (L.extract a L.size), .int .u8 x.toNat] w fun e w' => e = .returned (.int .i64 (-1)) ∧ w' = w) := fun a x w hx => by
      have := Tryz.strings_IndexByte (L.extract a L.size) x.toNat w
      rw [ext_list, show ((x.toNat : Int)).toNat.toUInt8 = x by simp, HL.out.drop_noByte a x hx] at this
      exact this
    obtain ⟨q, hq⟩ : ∃ q : Nat, T.size = q + 1 := ⟨T.size - 1, by omega⟩
    obtain ⟨i2, h3⟩ : ∃ h : q < T.size, 128 ≤ (T[q]'h).toNat := by
      refine ⟨by omega, ?_⟩
      have := e3 (by omega)
      have h4 : T[q]'(by omega) = T[T.size - 1]'(by omega) := by congr 1; omega
      rw [h4]; exact this
    have hq1 : (1 : Int) ≤ (q : Int) := by omega
    have hq3 : (q : Int) ≤ 3 := by omega
    have hqi : ((T.size : Int) - 1) = (q : Int) := by omega
    have HQ := Lib.hid hqi
    have i3 : (q : Int) < (T.size : Int) := by omega
    have i0 : (0 : Int) ≤ (q : Int) := by omega
    have ts1 : (2 : Int) ≤ (T.size : Int) := by omega
    have ts2 : (T.size : Int) ≤ 4 := by omega
    clear hq e1 e2 e3 hqi
    by_cases hin : q < L.size
    · have hl := HL.out q hin
      have hne : (((L[q]).toNat : Int) != ((T[q]'i2).toNat : Int)) = true := by simp; omega
      have i1 : (q : Int) < (L.size : Int) := by omega
      go_wp2_with fail
      go_step3
      go_wp2_with fail
      rw [HQ.out]
      go_loopg [9, 10] 0 (fun g s9 s10 wr => s9 = .int .i64 q ∧ s10 = .int .i64 0 ∧ wr = w)
      case atStart => exact ⟨rfl, rfl, rfl⟩
      case round =>
        obtain ⟨rfl, rfl, rfl⟩ := hrel
        go_wp2_with fail
        go_step3
        go_wp2_with fail
        go_quiet (fail)
        go_wp2_with fail
        have hwr : IntKind.i64.wrap ((q : Int) + 1) = (q : Int) + 1 := IntWalk.i64_in _ (by omega)
        go_quiet (refine (HB.out _ _ _ h3).mono (fun _ _ h => ⟨h.1, _, h.2⟩))
        go_wp2_with fail
        rw [Exit.noGoto_ret]
        simp only [Exit.inBlock, Exit.then]
        rw [Exit.noGoto_ret]
        go_ret
        exact ⟨rfl, bdrew (Below.refl _ _) _⟩
    · have i1 : (L.size : Int) ≤ (q : Int) := by omega
      go_wp2_with fail
      go_step3
      go_wp2_with fail
      rw [HQ.out]
      go_loopg [9, 10] 0 (fun g s9 s10 wr => s9 = .int .i64 q ∧ s10 = .int .i64 0 ∧ wr = w)
      case atStart => exact ⟨rfl, rfl, rfl⟩
      case round =>
        obtain ⟨rfl, rfl, rfl⟩ := hrel
        go_wp2_with fail
        try rw [Exit.noGoto_ret]
        go_ret
        exact ⟨rfl, Below.refl _ _⟩

theorem noAny_moreG {L s : ByteArray} (hL : Asc L) {i k : Nat} (h : Lib.NoAny s.data.toList L.data.toList i) (hm : ∀ j (hj : j < s.size), i ≤ j → j < k → 128 ≤ (s[j]).toNat) : Lib.NoAny s.data.toList L.data.toList k := by
  intro j b hj hb
  rcases Nat.lt_or_ge j i with g | g
  · exact h j b g hb
  · obtain ⟨hjs, e⟩ := List.getElem?_eq_some_iff.1 hb
    have hjs' : j < s.size := by simpa using hjs
    have := hm j hjs' g hj
    have e2 : s[j] = b := by rw [← e]; rfl
    rw [e2] at this
    cases hc : L.data.toList.contains b with
    | false => rfl
    | true =>
      obtain ⟨q, hq, eq⟩ := List.mem_iff_getElem.1 (by simpa using hc : b ∈ L.data.toList)
      have := hL q hq
      have e3 : L[q]'hq = b := eq
      rw [e3] at this
      omega

set_option maxHeartbeats 2000000 in
set_option maxRecDepth 100000 in
theorem indexAny_shortG (L : ByteArray) (hL : Asc L) (hL2 : 2 ≤ L.size) (hLs : L.size ≤ 64) (s : ByteArray) (w : World) (hs : s.size ≤ 8) :
    Calls Tryz.prog 126 #[.string s, .string L] w fun e w' => e = .returned (.int .i64 (Lib.indexAny s.data.toList L.data.toList)) ∧ Below w.heap.size w w' := by
  have hemp : L.toList.isEmpty = false := notEmpty_of (by omega)
  have HAL := Lib.hid hL
  clear hL
  have k2 : (2 : Int) ≤ (L.size : Int) := by omega
  have k1 : ((L.size : Int) == 1) = false := by simp; omega
  have h8z : ¬ ((8 : Int) < (s.size : Int)) := by omega
  go_enter Tryz.func126, Tryz.ntmps126
  go_wp2_with (first | (go_at_call 166; go_in))
  go_loopg [9, 10] s.size (fun g _ _ wx => ∃ i : Nat, i ≤ s.size ∧ s.size - i ≤ g ∧ wx.heap[w.heap.size]? = some (.stringIter s i) ∧ Below w.heap.size w wx ∧ Lib.NoAny s.data.toList L.data.toList i)
  case atStart => exact ⟨0, Nat.zero_le _, by omega, World.iter_heap w s 0, (Below.refl _ _).alloc (Nat.le_refl _) _, Lib.NoAny.zero _ _⟩
  case round =>
    obtain ⟨i, hi, hig, hit, hbel, hno⟩ := hrel
    have HN := Lib.hid hno
    have HB := Lib.hid hbel
    have hsz := hbel.size
    have hkz : w.heap.size < wr.heap.size := by
      rcases Nat.lt_or_ge w.heap.size wr.heap.size with h' | h'
      · exact h'
      · simp [Array.getElem?_eq_none h'] at hit
    clear hno hbel
    by_cases his : i < s.size
    · have hxl : s.data.toList[i]? = some s[i] := Lib.data_getElem? s i his
      have HX := Lib.hid hxl
      clear hxl
      by_cases hx128 : (s[i]).toNat < 128
      · have hnx := fun ty => Lib.run_next_ascii_at (P := Tryz.prog) wr w.heap.size s i ty hit his hx128
        have hit2 := Lib.iterAt_heap wr w.heap.size s i (i + 1) hit
        have hbel2 := Lib.below_iterAt HB.out (Nat.le_refl _) s (i + 1)
        obtain ⟨x, hx⟩ : ∃ x : UInt8, s[i] = x := ⟨_, rfl⟩
        rw [hx] at hnx hx128 HX
        obtain ⟨W, hW⟩ : ∃ W, W = wr.iterAt w.heap.size s (i + 1) := ⟨_, rfl⟩
        rw [← hW] at hnx hit2 hbel2
        have HW := Lib.hid (And.intro hit2 hbel2)
        have hxi : (x.toNat : Int) < 128 := by omega
        have hcon := Lib.contains_iff_indexByte L.data.toList x
        have hback : ((x.toNat : Int)).toNat.toUInt8 = x := by simp
        have HBK := Lib.hid hback
        clear hit hx hW hit2 hbel2 hback
        cases hin : L.data.toList.contains x
        · rw [hin] at hcon
          have hlt : ¬ ((0 : Int) ≤ Lib.indexByte L.data.toList x) := of_decide_eq_false hcon.symm
          have HN2 := Lib.hid (HN.out.succ HX.out hin)
          clear hcon hin
          go_wp2_with fail
          refine (Tryz.strings_IndexRune_ascii _ _ _ (by omega) hxi).mono ?_
          rintro e w1 ⟨rfl, hw⟩
          rw [hw, HBK.out]
          clear hw
          go_wp2
          go_roundg (s.size - (i + 1))
          case measure => omega
          case rel => exact ⟨i + 1, by omega, by omega, HW.out.1, HW.out.2, HN2.out⟩
        · rw [hin] at hcon
          have hge : (0 : Int) ≤ Lib.indexByte L.data.toList x := of_decide_eq_true hcon.symm
          have HR : Hid (Lib.indexAny s.data.toList L.data.toList = (i : Int)) := Lib.indexAny_hit HN.out HX.out hin
          clear hcon hin
          go_wp2_with fail
          refine (Tryz.strings_IndexRune_ascii _ _ _ (by omega) hxi).mono ?_
          rintro e w1 ⟨rfl, hw⟩
          rw [hw, HBK.out]
          clear hw
          go_wp2
          go_ret
          exact ⟨by rw [HR.out]; rfl, HW.out.2⟩
      · obtain ⟨f1, f2, f3, f4, f5⟩ := decode_far his (by omega)
        have hnx := fun ty => Lib.run_next_any_at (P := Tryz.prog) wr w.heap.size s i ty hit his
        obtain ⟨r, hr⟩ : ∃ r, r = (Utf8.decode s i).1 := ⟨_, rfl⟩
        obtain ⟨d, hd⟩ : ∃ d, d = (Utf8.decode s i).2 := ⟨_, rfl⟩
        rw [← hr] at f1 f2 hnx
        rw [← hd] at f3 f4 f5 hnx
        have hit2 := Lib.iterAt_heap wr w.heap.size s i (i + d) hit
        have hbel2 := Lib.below_iterAt HB.out (Nat.le_refl _) s (i + d)
        have HN2 := Lib.hid (noAny_moreG HAL.out HN.out f5)
        obtain ⟨W, hW⟩ : ∃ W, W = wr.iterAt w.heap.size s (i + d) := ⟨_, rfl⟩
        have hWz : W.heap.size = wr.heap.size := by rw [hW]; exact Lib.iterAt_size _ _ _ _
        rw [← hW] at hnx hit2 hbel2
        have HW := Lib.hid (And.intro hit2 hbel2)
        clear hit hW hit2 hbel2 hr hd f5 hx128
        go_wp2_with fail
        refine (indexRune_asc L HAL.out hLs (r : Int) _ (by omega) (by omega)).mono ?_
        rintro e w1 ⟨rfl, hb1⟩
        have HW1 := Lib.hid (And.intro ((hb1.block w.heap.size (by omega)).trans HW.out.1) (HW.out.2.trans (hb1.mono (by omega))))
        clear hb1
        go_wp2
        go_roundg (s.size - (i + d))
        case measure => omega
        case rel => exact ⟨i + d, by omega, by omega, HW1.out.1, HW1.out.2, HN2.out⟩
    · obtain rfl : i = s.size := by omega
      have hnx := fun ty => Lib.run_next_end_at (P := Tryz.prog) wr w.heap.size s s.size ty hit his
      go_wp2
      go_ret
      exact ⟨by rw [Lib.indexAny_none (by rw [← Lib.size_eq]; exact HN.out)]; rfl, HB.out⟩

theorem set_info : (Tryz.prog.info? 199).map (fun i => (i.zero, i.size)) = some (some (.agg (Array.replicate 256 (.bool false))), 256) := by kernel_rfl
theorem indexAny_asc (L : ByteArray) (hL : Asc L) (hL2 : 2 ≤ L.size) (hLs : L.size ≤ 64) (s : ByteArray) (w : World) (hs : s.size ≤ 4294967280) :
    Calls Tryz.prog 126 #[.string s, .string L] w fun e w' => e = .returned (.int .i64 (Lib.indexAny s.data.toList L.data.toList)) ∧ Below w.heap.size w w' := by
  by_cases h8 : s.size ≤ 8
  · exact indexAny_shortG L hL hL2 hLs s w h8
  · refine (Tryz.strings_IndexAny_long (zero_of_info set_info).1 s L w hL2 (by omega) (by omega) (by omega) (fun j b hb => ?_)).mono fun e w' ⟨h1, h2⟩ => ⟨h1, ?_⟩
    · obtain ⟨hjs, e⟩ := List.getElem?_eq_some_iff.1 hb
      have := hL j hjs
      have e2 : L[j]'hjs = b := e
      rw [e2] at this
      exact this
    · rw [h2]
      exact ((Below.refl _ _).alloc (Nat.le_refl _) _).alloc (by simp) _

set_option maxHeartbeats 1000000 in
theorem containsAny_asc (L : ByteArray) (hL : Asc L) (hL2 : 2 ≤ L.size) (hLs : L.size ≤ 64) (s : ByteArray) (w : World) (hs : s.size ≤ 4294967280) :
    Calls Tryz.prog 136 #[.string s, .string L] w fun e w' => e = .returned (.bool (decide (0 ≤ Lib.indexAny s.data.toList L.data.toList))) ∧ Below w.heap.size w w' := by
  obtain ⟨v, hvv⟩ : ∃ v, v = Lib.indexAny s.data.toList L.data.toList := ⟨_, rfl⟩
  rw [← hvv]
  have HVV := Lib.hid hvv
  have HL := Lib.hid hL
  clear hvv hL
  go_enter Tryz.func136, Tryz.ntmps136
  go_wp2_with fail
  refine (indexAny_asc L HL.out hL2 hLs s _ hs).mono ?_
  rintro e w1 ⟨rfl, hb⟩
  rw [← HVV.out]
  have HB := Lib.hid hb
  clear hb
  go_wp2
  go_ret
  exact ⟨rfl, HB.out⟩
end Go.Proofs.YtnlonleljbbgoaaGreatDoor
namespace Go.Proofs.YtnlonleljbbgoaaGreatDoor
open Go.RowKit

set_option maxRecDepth 100000 in
theorem oLock_free (a : Addr) (w : World) (hc : w.cell? a = some (.int .i32 0)) (hz : w.frozen? a = false) :
    Calls Tryz.prog 210 #[.pointer (some a)] w fun e w' => e = .returned (.tuple #[]) ∧ w' = w.setCell a (.int .i32 1) := by
  have hd := oDisable
  have he := oEnable
  have ha := oAcquire
  have hcas := run_call_cas_hit (P := Tryz.prog) Tryz.func260 (by kernel_rfl) (by kernel_rfl) (by kernel_rfl) .i32 (by kernel_rfl) (y := 1) hc hz
  have hc' : (w.setCell a (.int .i32 1)).cell? a = some (.int .i32 1) := World.cell?_setCell_same w a _ hc
  go_enter Tryz.func210, Tryz.ntmps210
  go_wp2
  rw [run_convert_to_unsafe ?hs ?hd (t := 175) (by kernel_rfl) hc']
  case hs => kernel_rfl
  case hd => kernel_rfl
  go_wp2
  first | go_end0 | (simp only [Exit.inBlock, Exit.then]; refine bodyPost_ret (results_none rfl _ _ _) rfl ?_) | refine bodyPost_ret (results_none rfl _ _ _) rfl ?_
  go_wp2
  go_end0
  exact ⟨rfl, rfl⟩

theorem oLoad_no (a : Addr) (w : World) (hc : w.cell? a = some (.int .u32 0)) :
    Calls Tryz.prog 184 #[.pointer (some a)] w fun e w' => e = .returned (.bool false) ∧ w = w' := by
  have hl := run_call_load (P := Tryz.prog) Tryz.func209 (by kernel_rfl) (by kernel_rfl) (by kernel_rfl) .u32 (by kernel_rfl) hc
  go_enter Tryz.func184, Tryz.ntmps184
  go_wp2
  go_ret
  exact ⟨rfl, rfl⟩

set_option maxRecDepth 100000 in
set_option maxHeartbeats 1600000 in
theorem oSlow_any (b : Nat) (R : World → Prop) (w : World)
    (h0 : w.cell? ⟨b, 0, none⟩ = some (.int .u32 0)) (h1 : w.cell? ⟨b, 1, none⟩ = some (.int .i32 0)) (_f0 : w.frozen? ⟨b, 0, none⟩ = false) (f1 : w.frozen? ⟨b, 1, none⟩ = false)
    (hm : Calls Tryz.prog 150 #[.pointer (some ⟨b, 0, none⟩)] (w.setCell ⟨b, 1, none⟩ (.int .i32 1)) fun e w' => e = .returned (.tuple #[]) ∧ R w')
    (hR : ∀ w', R w' → w'.cell? ⟨b, 0, none⟩ = some (.int .u32 0) ∧ w'.cell? ⟨b, 1, none⟩ = some (.int .i32 1) ∧ w'.frozen? ⟨b, 0, none⟩ = false ∧ w'.frozen? ⟨b, 1, none⟩ = false) :
    Calls Tryz.prog 185 #[.pointer (some ⟨b, 0, none⟩), .func (.func 150) #[.pointer (some ⟨b, 0, none⟩)] #[]] w fun e w' => e = .returned (.tuple #[]) ∧
      ∃ w1, R w1 ∧ w' = (w1.drew.setCell ⟨b, 0, none⟩ (.int .u32 1)).setCell ⟨b, 1, none⟩ (.int .i32 0) := by
  have hl : (w.setCell ⟨b, 1, none⟩ (.int .i32 1)).cell? ⟨b, 0, none⟩ = some (.int .u32 0) := (World.cell?_setCell_other _ ⟨b, 1, none⟩ ⟨b, 0, none⟩ _ (by simp)).trans h0
  have hnot : ∀ (x : Bool) (w : World), (Op.unary .not (.bool x)).run Tryz.prog w = .ok (.bool (!x)) w := fun _ _ => rfl
  have HM := Lib.hid hm
  have HR := Lib.hid hR
  clear hm hR
  go_enter_defers Tryz.func185, Tryz.ntmps185
  go_wp2_with (go_at_call 210; refine (oLock_free ⟨b, 1, none⟩ _ (by go_simp) (by go_simp)).mono ?_; rintro e w' ⟨rfl, rfl⟩)
  refine (oLoad_no _ _ hl).mono ?_
  rintro e w' ⟨rfl, rfl⟩
  go_wp2_with fail
  refine HM.out.mono ?_
  rintro e w1 ⟨rfl, hr⟩
  have HQ := Lib.hid hr
  clear hr
  go_wp2
  refine leaves_cons (f := 212) (args := #[.pointer (some ⟨b, 0, none⟩), .bool true]) (by simp) (by simp [go_sem]) ?_
  obtain ⟨c0, c1, z0, z1⟩ := HR.out _ HQ.out
  refine (oStore_deferred ⟨b, 0, none⟩ (.int .u32 0) .returning _ c0 z0).mono ?_
  rintro e u' w'' ⟨rfl, rfl, rfl⟩
  refine leaves_cons (f := 211) (args := #[.pointer (some ⟨b, 1, none⟩)]) (by simp [settle]) (by simp [go_sem]) ?_
  refine (oUnlock_deferred ⟨b, 1, none⟩ _ _ ?_ (by simp [z1])).mono ?_
  · refine (World.cell?_setCell_other _ ⟨b, 0, none⟩ ⟨b, 1, none⟩ _ (by simp)).trans ?_
    rw [World.cell?_drew]
    exact c1
  rintro e u' w'' ⟨rfl, rfl, rfl⟩
  have HF := HQ.out
  simp [Leaves, settle, results, Tryz.results185]
  exact ⟨_, HF, rfl⟩

set_option maxRecDepth 100000 in
set_option maxHeartbeats 1600000 in
theorem oDo_first (b : Nat) (R : World → Prop) (w : World)
    (h0 : w.cell? ⟨b, 0, none⟩ = some (.int .u32 0)) (h1 : w.cell? ⟨b, 1, none⟩ = some (.int .i32 0)) (f0 : w.frozen? ⟨b, 0, none⟩ = false) (f1 : w.frozen? ⟨b, 1, none⟩ = false)
    (hm : Calls Tryz.prog 150 #[.pointer (some ⟨b, 0, none⟩)] (w.setCell ⟨b, 1, none⟩ (.int .i32 1)) fun e w' => e = .returned (.tuple #[]) ∧ R w')
    (hR : ∀ w', R w' → w'.cell? ⟨b, 0, none⟩ = some (.int .u32 0) ∧ w'.cell? ⟨b, 1, none⟩ = some (.int .i32 1) ∧ w'.frozen? ⟨b, 0, none⟩ = false ∧ w'.frozen? ⟨b, 1, none⟩ = false) :
    Calls Tryz.prog 149 #[.pointer (some ⟨b, 0, none⟩), .func (.func 150) #[.pointer (some ⟨b, 0, none⟩)] #[]] w fun e w' => e = .returned (.tuple #[]) ∧
      ∃ w1, R w1 ∧ w' = (w1.drew.setCell ⟨b, 0, none⟩ (.int .u32 1)).setCell ⟨b, 1, none⟩ (.int .i32 0) := by
  have HS := Lib.hid (oSlow_any b R w h0 h1 f0 f1 hm hR)
  have HL := Lib.hid (oLoad_no ⟨b, 0, none⟩ w h0)
  clear hm hR h0 h1 f0 f1
  have hnot : ∀ (x : Bool) (w : World), (Op.unary .not (.bool x)).run Tryz.prog w = .ok (.bool (!x)) w := fun _ _ => rfl
  go_enter Tryz.func149, Tryz.ntmps149
  go_wp2_with fail
  refine HL.out.mono ?_
  rintro e w' ⟨rfl, rfl⟩
  go_wp2_with fail
  refine HS.out.mono ?_
  rintro e w' ⟨rfl, hr⟩
  have HQ := Lib.hid hr
  clear hr HS
  go_wp2
  go_end0
  exact ⟨rfl, HQ.out⟩
end Go.Proofs.YtnlonleljbbgoaaGreatDoor
