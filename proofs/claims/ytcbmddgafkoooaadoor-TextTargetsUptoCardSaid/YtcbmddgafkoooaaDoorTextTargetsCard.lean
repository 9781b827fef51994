/-
  Proved: for every input of bulk at most 1048576 florilegium/florlaw1.TextTargets returns true and leaves its arguments as they were (its card, tied). Conditions: none beyond the row's own.
-/
import Derived.Test.YtcbmddgafkoooaaDoorRefTok
import Derived.Laws.IdiomStrings
import Derived.Lib.ItoaMem
import Derived.Lib.ItoaLen
import Derived.Test.YtcbmddgafkoooaaDoorShelf
import Derived.Lib.SmallJoins
import Derived.Lib.AppendIntMem
import Derived.Test.YtcbmddgafkoooaaDoorRefRetarget
import Derived.Test.YtcbmddgafkoooaaDoorLawBase
import Derived.Test.YtcbmddgafkoooaaDoorLaidWorld
import Derived.Stop.LaidErr
import Derived.MakeChecks
namespace Go.Proofs.YtcbmddgafkoooaaDoor
open Go.RowKit

def decS (n : Nat) : ByteArray := ⟨(Lib.decDigits n).toArray⟩
theorem decS_small {n : Nat} (h : n < 10) : decS n = ⟨#[UInt8.ofNat (48 + n)]⟩ := by
  unfold decS; rw [Lib.decDigits_one h]
theorem decS_big {n : Nat} (h : ¬ n < 10) : decS n = decS (n / 10) ++ decS (n % 10) := by
  apply ba_ext
  unfold decS
  rw [Lib.decDigits, dif_neg h, Lib.decDigits_one (i := n % 10) (by omega)]
  simp

theorem decS_len (n : Nat) (h : n < 18446744073709551616) : (decS n).size ≤ 20 := by
  have := Lib.nDigits_le20 n h
  rw [← Lib.decDigits_length] at this
  exact this
theorem decS_itoa (n : Nat) : (⟨(Lib.itoa (n : Int)).toArray⟩ : ByteArray) = decS n := by rw [Lib.itoa_nonneg]; rfl

set_option maxHeartbeats 4000000 in
set_option maxRecDepth 100000 in
theorem told_small (n : Nat) (hn : n < 10) (w : World) :
    Calls Tryd.prog 58 #[.int .i64 n] w fun e w' => e = .returned (.string (decS n)) ∧ Below w.heap.size w w' := by
  rw [decS_small hn]
  have kc : ∀ (w : World) (x : Value) (t : TypeId) (fr : Nat × Nat), x = .int .u8 (48 + n : Nat) → (convert 47 9 (.slice (some ⟨w.heap.size, 0, none⟩) 1 1)).run Tryd.prog (w.alloc (.cells #[x] t fr)) = .ok (.string ⟨#[UInt8.ofNat (48 + n)]⟩) (w.alloc (.cells #[x] t fr)) := by
    intro w x t fr hx
    have := run_convert_bytes_back (P := Tryd.prog) (w.alloc (.cells #[x] t fr)) 47 9 5 ⟨w.heap.size, 0, none⟩ 1 [UInt8.ofNat (48 + n)] (by kernel_rfl) (by kernel_rfl) (by kernel_rfl) (by
      intro j hj
      have : j = 0 := by simp at hj; exact hj
      subst this
      rw [show (⟨w.heap.size, 0, none⟩ : Addr).add 0 = ⟨w.heap.size, 0, none⟩ from rfl, World.cell?_alloc_mark, hx]
      simp
      omega)
    exact this
  go_enter Tryd.func58, Tryd.ntmps58
  go_wp2_with fail
  go_ret
  refine ⟨?_, (Below.refl _ w).alloc (Nat.le_refl _) _⟩
  rw [UInt8.ofNat_add]; rfl

set_option maxHeartbeats 4000000 in
set_option maxRecDepth 100000 in
theorem told_any : ∀ n : Nat, n ≤ 4294967296 → ∀ w : World,
    Calls Tryd.prog 58 #[.int .i64 n] w fun e w' => e = .returned (.string (decS n)) ∧ Below w.heap.size w w' := by
  intro n
  induction n using Nat.strongRecOn with
  | _ n ih =>
    intro hb w
    by_cases hn : n < 10
    · exact told_small n hn w
    · rw [decS_big hn]
      have h1 := ih (n / 10) (by omega) (by omega)
      have h2 := fun w => told_small (n % 10) (by omega) w
      have e1 : ((n / 10 : Nat) : Int) = (n : Int) / 10 := rfl
      have e2 : ((n % 10 : Nat) : Int) = (n : Int) % 10 := rfl
      have z1 := decS_len (n / 10) (by omega)
      have z2 := decS_len (n % 10) (by omega)
      rw [e1] at h1
      rw [e2] at h2
      clear ih
      go_enter Tryd.func58, Tryd.ntmps58
      go_wp2_with fail
      refine (h1 _).mono ?_
      rintro e w1 ⟨rfl, hb1⟩
      go_wp2_with fail
      refine (h2 _).mono ?_
      rintro e w2 ⟨rfl, hb2⟩
      go_wp2_with fail
      go_ret
      exact ⟨rfl, hb1.trans (hb2.mono hb1.size)⟩

set_option maxHeartbeats 4000000 in
set_option maxRecDepth 100000 in
theorem inRange_any (n lo hi : Int) (w : World) :
    Calls Tryd.prog 57 #[.int .i64 n, .int .i64 lo, .int .i64 hi] w fun e w' => e = .returned (.bool (decide (lo ≤ n) && decide (n ≤ hi))) ∧ w' = w := by
  go_enter Tryd.func57, Tryd.ntmps57
  go_wp2_with fail
  · go_ret
    rename_i h
    exact ⟨by rw [decide_eq_true (show lo ≤ n from h), Bool.true_and]; rfl, rfl⟩
  · go_ret
    rename_i h
    exact ⟨by rw [decide_eq_false (show ¬ lo ≤ n by omega), Bool.false_and]; rfl, rfl⟩
end Go.Proofs.YtcbmddgafkoooaaDoor

namespace Go.Proofs.YtcbmddgafkoooaaDoor
open Go.RowKit

/-- the table of powers of ten lies in its variable -/
def Pow (w : World) : Prop := Lib.TabIs Tryd.prog w "internal/strconv.uint64pow10" .u64 Lib.pow10Tab
theorem Pow.below {w w' : World} (h : Pow w) (hb : Below w.heap.size w w') : Pow w' :=
  Go.Joins.tab_stays (g := 1) (by kernel_rfl) h hb (Nat.le_refl _)

theorem itoa_any (n : Nat) (hn : n ≤ 4294967296) (w : World) (hP : Pow w) :
    Calls Tryd.prog 56 #[.int .i64 n] w fun e w' => e = .returned (.string (decS n)) ∧ Below w.heap.size w w' := by
  refine (Tryd.strconv_Itoa n (by omega) (by omega) w hP).mono ?_
  rintro e w' ⟨rfl, k, os, rfl⟩
  rw [decS_itoa]
  exact ⟨rfl, Lib.below_grow _ _ (Nat.le_refl _) _ _⟩
end Go.Proofs.YtcbmddgafkoooaaDoor

namespace Go.Proofs.YtcbmddgafkoooaaDoor
open Go.RowKit

/-- the new number that stands first for this one -/
def firstAt : List Int → List Int → Int → Option Int
  | f :: F, t :: T, i => if f = i then some t else firstAt F T i
  | _, _, _ => none
theorem firstAt_at : ∀ {F T : List Int} {i t : Int} {k : Nat}, (∀ j, j < k → ∀ f, F[j]? = some f → f ≠ i) → F[k]? = some i → T[k]? = some t → firstAt F T i = some t
  | [], _, _, _, _, _, h, _ => by simp at h
  | f :: F, [], i, t, k, _, _, h => by simp at h
  | f :: F, u :: T, i, t, 0, _, h, h' => by
    simp at h h'
    subst h; subst h'
    simp [firstAt]
  | f :: F, u :: T, i, t, k + 1, h1, h, h' => by
    have := h1 0 (Nat.succ_pos k) f rfl
    unfold firstAt
    rw [if_neg this]
    exact firstAt_at (k := k) (fun j hj g hg => h1 (j + 1) (Nat.succ_lt_succ hj) g (by simpa using hg)) (by simpa using h) (by simpa using h')
theorem firstAt_none : ∀ {F T : List Int} {i : Int}, (∀ f ∈ F, f ≠ i) → firstAt F T i = none
  | [], T, _, _ => by cases T <;> rfl
  | f :: F, [], i, _ => rfl
  | f :: F, u :: T, i, h => by
    unfold firstAt
    rw [if_neg (h f (List.mem_cons_self ..))]
    exact firstAt_none fun g hg => h g (List.mem_cons_of_mem _ hg)

theorem mapI_at {zs : List Int} {k : Nat} {u : Value} (hx : (zs.map (Value.int .i64))[k]? = some u) : ∃ m, zs[k]? = some m ∧ u = .int .i64 m := by
  rw [List.getElem?_map] at hx
  cases h : zs[k]? with
  | none => rw [h] at hx; cases hx
  | some m => rw [h] at hx; injection hx with hx; exact ⟨m, rfl, hx.symm⟩
/-- a block's code under another number -/
def codeS (t : Int) : ByteArray := (⟨#[40, 40]⟩ ++ decS t.toNat) ++ ⟨#[41, 41]⟩
def numR (s : ByteArray) (F T : List Int) (_ : List Sp) (x : Sp) : ByteArray :=
  if x.kind = 5 then (match firstAt F T x.id with | some t => codeS t | none => s.extract x.frm x.to_) else s.extract x.frm x.to_

set_option maxHeartbeats 4000000 in
set_option maxRecDepth 100000 in
theorem renum1_any (s : ByteArray) (x : Sp) (w : World) (sb fb tb B : Nat) (A A' : Option Addr) (len cap cap' : Nat) (F T : List Int) (pre : List Sp)
    (hsb : sb < w.heap.size) (hs : w.cell? ⟨sb, 0, none⟩ = some (.string s)) (hfb : fb < w.heap.size) (hf : w.cell? ⟨fb, 0, none⟩ = some (.slice A len cap)) (htb : tb < w.heap.size) (ht : w.cell? ⟨tb, 0, none⟩ = some (.slice A' len cap'))
    (hF : Reads w B 1 A len (F.map (.int .i64))) (hT : Reads w B 1 A' len (T.map (.int .i64))) (hB : B ≤ w.heap.size) (hlF : F.length = len) (hlT : T.length = len) (hl : len ≤ 140737488351232)
    (hr : ∀ t ∈ T, 1 ≤ t ∧ t ≤ 1000000) (hP : Pow w) (h1 : x.frm ≤ x.to_) (h2 : x.to_ ≤ s.size) :
    Calls Tryd.prog 55 #[spV x, .pointer (some ⟨fb, 0, none⟩), .pointer (some ⟨tb, 0, none⟩), .pointer (some ⟨sb, 0, none⟩)] w fun e w' => e = .returned (.string (numR s F T pre x)) ∧ Below w.heap.size w w' := by
  have hsA : ∀ o, (w.alloc o).cell? ⟨sb, 0, none⟩ = some (.string s) := fun o => (World.cell?_alloc_lt w o _ hsb).trans hs
  have hfA : ∀ o, (w.alloc o).cell? ⟨fb, 0, none⟩ = some (.slice A len cap) := fun o => (World.cell?_alloc_lt w o _ hfb).trans hf
  have i1 : (0 : Int) ≤ (x.frm : Int) := by omega
  have i2 : (x.frm : Int) ≤ (x.to_ : Int) := by omega
  have i3 : (x.to_ : Int) ≤ (s.size : Int) := by omega
  obtain ⟨W, hW⟩ : ∃ W, W = w.alloc (.cells #[.int .i64 x.kind, .int .i64 x.frm, .int .i64 x.to_, .string x.text, .string x.show_, .int .i64 x.id, .bool x.strong] 29) := ⟨_, rfl⟩
  have K := Blk.new w 29 #[.int .i64 x.kind, .int .i64 x.frm, .int .i64 x.to_, .string x.text, .string x.show_, .int .i64 x.id, .bool x.strong]
  rw [← hW] at K
  have q0 := K.cell 0
  have q1 := K.cell 1
  have q2 := K.cell 2
  have q5 := K.cell 5
  have hbW : Below w.heap.size w W := by rw [hW]; exact (Below.refl _ _).alloc (Nat.le_refl _) _
  have hWz : W.heap.size = w.heap.size + 1 := by rw [hW]; simp
  have sW := (hbW.cell (p := ⟨sb, 0, none⟩) hsb).trans hs
  have fW := (hbW.cell (p := ⟨fb, 0, none⟩) hfb).trans hf
  have tW := (hbW.cell (p := ⟨tb, 0, none⟩) htb).trans ht
  clear hs hf ht K hsA
  have HF := Lib.hid hF
  have HT := Lib.hid hT
  have HP := Lib.hid (hP.below hbW)
  have HR := Lib.hid hr
  have HBW := Lib.hid hbW
  clear hF hT hP hr hbW
  rw [spV_eq]
  go_enter Tryd.func55, Tryd.ntmps55
  go_wp2_with fail
  rw [← hW]
  clear hfA
  have HX : Hid (∀ k, k ≤ len → (∀ j, j < k → ∀ f, F[j]? = some f → ¬ (x.kind = 5 ∧ f = x.id)) → ∀ m, F[k]? = some m → ∀ t, T[k]? = some t → x.kind = 5 → m = x.id → numR s F T pre x = codeS t) := by
    intro k _ h m hm t ht h5 hmi
    unfold numR
    rw [if_pos h5, firstAt_at (k := k) (t := t) (fun j hj f hf e => h j hj f hf ⟨h5, e⟩) (by rw [hm, hmi]) ht]
  have HY : Hid ((∀ j, j < len → ∀ f, F[j]? = some f → ¬ (x.kind = 5 ∧ f = x.id)) → numR s F T pre x = s.extract x.frm x.to_) := by
    intro h
    unfold numR
    by_cases h5 : x.kind = 5
    · rw [if_pos h5, firstAt_none (fun f hf e => by
        obtain ⟨j, hj, rfl⟩ := List.getElem_of_mem hf
        exact h j (by omega) _ (List.getElem?_eq_getElem hj) ⟨h5, e⟩)]
    · rw [if_neg h5]
  have lw : (len : Int) ≤ 140737488351232 := by omega
  go_loopw [10] (fun i wr => ∃ k : Nat, k ≤ len ∧ i = .int .i64 k ∧ Hid (∀ j, j < k → ∀ f, F[j]? = some f → ¬ (x.kind = 5 ∧ f = x.id)) ∧ Below W.heap.size W wr) (fun i _ => len - (intOf i).toNat)
  case atStart => exact ⟨0, Nat.zero_le _, rfl, fun j hj => absurd hj (Nat.not_lt_zero j), Below.refl _ _⟩
  case round =>
    obtain ⟨k, hk, rfl, HN, hbel⟩ := hrel
    have hz := hbel.size
    have sR := (hbel.cell (p := ⟨sb, 0, none⟩) (by show sb < _; omega)).trans sW
    have tR := (hbel.cell (p := ⟨tb, 0, none⟩) (by show tb < _; omega)).trans tW
    have q0R := (hbel.cell (p := ⟨w.heap.size, 0, none⟩) (by show w.heap.size < _; omega)).trans q0
    have q1R := (hbel.cell (p := ⟨w.heap.size, 1, none⟩) (by show w.heap.size < _; omega)).trans q1
    have q2R := (hbel.cell (p := ⟨w.heap.size, 2, none⟩) (by show w.heap.size < _; omega)).trans q2
    have q5R := (hbel.cell (p := ⟨w.heap.size, 5, none⟩) (by show w.heap.size < _; omega)).trans q5
    clear q0 q1 q2 q5 sW tW fW
    by_cases hkl : k < len
    · obtain ⟨ad, u, rfl, hab, hx, hc⟩ := HF.out.at_ hkl
      obtain ⟨ad', u', rfl, hab', hx', hc'⟩ := HT.out.at_ hkl
      obtain ⟨m, hm, rfl⟩ := mapI_at hx
      obtain ⟨t, ht, rfl⟩ := mapI_at hx'
      have hBB := HBW.out
      have hc1 := (hbel.cell (p := ad.add k) (by rw [block_of_add]; omega)).trans ((hBB.cell (p := ad.add k) (by rw [block_of_add]; omega)).trans hc)
      have hc2 := (hbel.cell (p := ad'.add k) (by rw [block_of_add]; omega)).trans ((hBB.cell (p := ad'.add k) (by rw [block_of_add]; omega)).trans hc')
      clear hc hc' hx hx' hBB
      have j1 : (k : Int) < (len : Int) := by omega
      have j0 : (0 : Int) ≤ (k : Int) := by omega
      by_cases hmt : x.kind = 5 ∧ m = x.id
      · obtain ⟨h5, h6⟩ := hmt
        subst h6
        have hans := HX.out k hk HN.out x.id (by assumption) t ht h5 rfl
        have htr := HR.out t (List.mem_of_getElem? ht)
        obtain ⟨tn, rfl⟩ : ∃ n : Nat, t = n := ⟨t.toNat, by omega⟩
        rw [h5] at q0R
        have HA : Hid (numR s F T pre x = codeS tn) := hans
        have hPr := HP.out.below hbel
        have zt := decS_len tn (by omega)
        have HBE := Lib.hid hbel
        clear hm ht hans hbel h5
        go_wp2_with fail
        refine (itoa_any tn (by omega) _ hPr).mono ?_
        rintro e w2 ⟨rfl, hb2⟩
        go_wp2_with fail
        go_ret
        rw [HA.out]
        exact ⟨rfl, HBW.out.trans ((HBE.out.trans (hb2.mono HBE.out.size)).mono (by omega))⟩
      · have HM := Lib.hid hmt
        have HN2 : Hid (∀ j, j < k + 1 → ∀ f, F[j]? = some f → ¬ (x.kind = 5 ∧ f = x.id)) := by
          intro j hj f hf
          by_cases e : j = k
          · subst e
            rw [hm] at hf
            injection hf with hf
            subst hf
            exact HM.out
          · exact HN.out j (by omega) f hf
        clear hm ht HX HY HN
        by_cases h5 : x.kind = 5
        · have h6 : (m = x.id) = False := eq_false fun e => HM.out ⟨h5, e⟩
          have h7 : (x.id == m) = false := by simp only [beq_eq_false_iff_ne, ne_eq]; exact fun e => HM.out ⟨h5, e.symm⟩
          rw [h5] at q0R
          clear h5 hmt
          go_wp2_with fail
          go_roundw
          case rel => exact ⟨k + 1, by omega, by go_num, HN2, hbel⟩
          case measure => simp [intOf]; omega
        · have h7 : (x.kind == 5) = false := by simp only [beq_eq_false_iff_ne, ne_eq]; exact h5
          clear h5 hmt
          go_wp2_with fail
          go_roundw
          case rel => exact ⟨k + 1, by omega, by go_num, HN2, hbel⟩
          case measure => simp [intOf]; omega
    · have hkk : k = len := by omega
      subst hkk
      have HA : Hid (numR s F T pre x = s.extract x.frm x.to_) := HY.out HN.out
      clear HX HY
      have HBE := Lib.hid hbel
      clear hbel
      go_wp2_with fail
      try go_region
      all_goals try go_wp2
      all_goals go_ret
      all_goals rw [HA.out]
      all_goals exact ⟨rfl, by repeat (first | exact HBW.out.trans (HBE.out.mono (by omega)) | apply Below.drew)⟩
end Go.Proofs.YtcbmddgafkoooaaDoor

namespace Go.Proofs.YtcbmddgafkoooaaDoor
open Go.RowKit

/-- the text with its blocks' new numbers, as the code makes it -/
def renOut (s : ByteArray) (F T : List Int) : ByteArray := ⟨(repP (numR s F T) [] (spans s)).toArray⟩
def badN (t : Int) : Bool := decide (t < 1) || decide (1000000 < t)
/-- what Renumber answers, and Renumbered too -/
def renV (s : ByteArray) (F T : List Int) : Value :=
  if F.length ≠ T.length then .tuple #[.string ⟨#[]⟩, .int .i64 1]
  else if T.any badN = true then .tuple #[.string ⟨#[]⟩, .int .i64 2]
  else boundV (renOut s F T)

theorem numR_size (s : ByteArray) (F T : List Int) (pre : List Sp) (x : Sp) (hs : s.size ≤ 1048576) (hr : ∀ t ∈ T, 1 ≤ t ∧ t ≤ 1000000) : (numR s F T pre x).size ≤ 2097152 := by
  have hext := ext_le s x.frm x.to_
  have hfm : ∀ {F T : List Int} {i t : Int}, firstAt F T i = some t → t ∈ T := by
    intro F
    induction F with
    | nil => intro T i t h; cases T <;> simp [firstAt] at h
    | cons f F ih =>
      intro T i t h
      cases T with
      | nil => simp [firstAt] at h
      | cons u T =>
        unfold firstAt at h
        split at h
        · injection h with h; subst h; exact List.mem_cons_self ..
        · exact List.mem_cons_of_mem _ (ih h)
  unfold numR
  split
  · cases hf : firstAt F T x.id with
    | none => dsimp only; omega
    | some t =>
      dsimp only
      have := hr t (hfm hf)
      have := decS_len t.toNat (by omega)
      unfold codeS
      rw [ByteArray.size_append, ByteArray.size_append]
      have : (⟨#[40, 40]⟩ : ByteArray).size = 2 := rfl
      have : (⟨#[41, 41]⟩ : ByteArray).size = 2 := rfl
      omega
  · omega

set_option maxHeartbeats 4000000 in
set_option maxRecDepth 100000 in
theorem renumber_len (s : ByteArray) (w : World) (A A' : Option Addr) (len cap len' cap' : Nat) (h : len ≠ len') (hl : len ≤ 140737488351232) (hl' : len' ≤ 140737488351232) :
    Calls Tryd.prog 29 #[.string s, .slice A len cap, .slice A' len' cap'] w fun e w' => e = .returned (.tuple #[.string ⟨#[]⟩, .int .i64 1]) ∧ Below w.heap.size w w' := by
  have hne : ((len : Int) == (len' : Int)) = false := by simp; omega
  have l1 : (len : Int) ≤ 140737488351232 := by omega
  have l2 : (len' : Int) ≤ 140737488351232 := by omega
  have HB : Hid (∀ a b c, Below w.heap.size w (((w.alloc a).alloc b).alloc c)) := fun a b c => ((((Below.refl w.heap.size w).alloc (Nat.le_refl _) _).alloc (by simp) _).alloc (by simp; omega) _)
  clear h
  go_enter Tryd.func29, Tryd.ntmps29
  go_wp2_with fail
  go_ret2
  exact ⟨rfl, HB.out _ _ _⟩

set_option maxHeartbeats 4000000 in
set_option maxRecDepth 100000 in
theorem renumber_any (s : ByteArray) (w : World) (B : Nat) (A A' : Option Addr) (len cap cap' : Nat) (F T : List Int) (hs : s.size ≤ 1048576)
    (hF : Reads w B 1 A len (F.map (.int .i64))) (hT : Reads w B 1 A' len (T.map (.int .i64))) (hB : B ≤ w.heap.size) (hlF : F.length = len) (hlT : T.length = len) (hl : len ≤ 140737488351232) (hP : Pow w) :
    Calls Tryd.prog 29 #[.string s, .slice A len cap, .slice A' len cap'] w fun e w' => e = .returned (renV s F T) ∧ Below w.heap.size w w' := by
  have hV : renV s F T = if T.any badN = true then .tuple #[.string ⟨#[]⟩, .int .i64 2] else boundV (renOut s F T) := by
    unfold renV; rw [if_neg (by omega)]
  have HV := Lib.hid hV
  clear hV
  have heq : ((len : Int) == (len : Int)) = true := by simp
  have lw : (len : Int) ≤ 140737488351232 := by omega
  have HF := Lib.hid hF
  have HT := Lib.hid hT
  have HP := Lib.hid hP
  clear hF hT hP
  go_enter Tryd.func29, Tryd.ntmps29
  go_wp2_with fail
  obtain ⟨W, hW⟩ : ∃ W, W = ((w.alloc (.cells #[.string s] 9)).alloc (.cells #[.slice A len cap] 39)).alloc (.cells #[.slice A' len cap'] 39) := ⟨_, rfl⟩
  have hbW : Below w.heap.size w W := by rw [hW]; exact ((((Below.refl w.heap.size w).alloc (Nat.le_refl _) _).alloc (by simp) _).alloc (by simp; omega) _)
  have hWz : W.heap.size = w.heap.size + 3 := by rw [hW]; simp
  have c0 : W.cell? ⟨w.heap.size, 0, none⟩ = some (.string s) := by
    rw [hW]
    refine (World.cell?_alloc_lt _ _ _ (by simp; omega)).trans ((World.cell?_alloc_lt _ _ _ (by simp)).trans ?_)
    exact (Blk.new w 9 #[.string s]).cell 0
  have c1 : W.cell? ⟨w.heap.size + 1, 0, none⟩ = some (.slice A len cap) := by
    rw [hW]
    refine (World.cell?_alloc_lt _ _ _ (by simp)).trans ?_
    have := (Blk.new (w.alloc (.cells #[.string s] 9)) 39 #[.slice A len cap]).cell 0
    simp only [World.size_alloc] at this
    exact this
  have c2 : W.cell? ⟨w.heap.size + 1 + 1, 0, none⟩ = some (.slice A' len cap') := by
    have := (Blk.new ((w.alloc (.cells #[.string s] 9)).alloc (.cells #[.slice A len cap] 39)) 39 #[.slice A' len cap']).cell 0
    simp only [World.size_alloc] at this
    rw [hW]; exact this
  rw [← hW]
  have HBW := Lib.hid hbW
  have hF2 := Lib.hid (HF.out.below (hbW.mono hB))
  have hT2 := Lib.hid (HT.out.below (hbW.mono hB))
  have hP2 := Lib.hid (HP.out.below hbW)
  clear hbW hW HF HT HP
  go_loopw [17] (fun i wr => ∃ k : Nat, k ≤ len ∧ i = .int .i64 k ∧ Hid (∀ j, j < k → ∀ t, T[j]? = some t → badN t = false) ∧ wr = W) (fun i _ => len - (intOf i).toNat)
  case atStart => exact ⟨0, Nat.zero_le _, rfl, fun j hj => absurd hj (Nat.not_lt_zero j), rfl⟩
  case round =>
    obtain ⟨k, hk, rfl, HN, rfl⟩ := hrel
    by_cases hkl : k < len
    · obtain ⟨ad, u, rfl, hab, hx, hc⟩ := hT2.out.at_ hkl
      obtain ⟨t, ht, rfl⟩ := mapI_at hx
      have j1 : (k : Int) < (len : Int) := by omega
      have j0 : (0 : Int) ≤ (k : Int) := by omega
      have hmem := List.mem_of_getElem? ht
      by_cases hb : badN t = true
      · have HA : Hid (renV s F T = .tuple #[.string ⟨#[]⟩, .int .i64 2]) := by
          show _ = _
          rw [HV.out, if_pos (List.any_eq_true.2 ⟨t, hmem, hb⟩)]
        by_cases hlo : t < 1
        · clear ht hx hmem hb
          go_wp2_with fail
          go_ret2
          rw [HA.out]
          exact ⟨rfl, HBW.out⟩
        · have hhi : 1000000 < t := by simp [badN] at hb; omega
          clear ht hx hmem hb
          go_wp2_with fail
          go_ret2
          rw [HA.out]
          exact ⟨rfl, HBW.out⟩
      · have HN2 : Hid (∀ j, j < k + 1 → ∀ t, T[j]? = some t → badN t = false) := by
          intro j hj f hf
          by_cases e : j = k
          · subst e
            rw [ht] at hf
            injection hf with hf
            subst hf
            simpa using hb
          · exact HN.out j (by omega) f hf
        have hlo : 1 ≤ t := by simp [badN] at hb; omega
        have hhi : t ≤ 1000000 := by simp [badN] at hb; omega
        clear ht hx hmem hb HN
        go_wp2_with fail
        go_roundw
        case rel => exact ⟨k + 1, by omega, by go_num, HN2, trivial⟩
        case measure => simp [intOf]; omega
    · have hkk : k = len := by omega
      subst hkk
      have hgood : ∀ t ∈ T, badN t = false := fun t ht => by
        obtain ⟨j, hj, rfl⟩ := List.getElem_of_mem ht
        exact HN.out j (by omega) _ (List.getElem?_eq_getElem hj)
      have hr : Hid (∀ t ∈ T, 1 ≤ t ∧ t ≤ 1000000) := fun t ht => by
        have := hgood t ht
        simp [badN] at this
        omega
      have HA : Hid (renV s F T = boundV (renOut s F T)) := by
        show _ = _
        rw [HV.out, if_neg (fun h => by
          obtain ⟨t, ht, hb⟩ := List.any_eq_true.1 h
          rw [hgood t ht] at hb; cases hb)]
      clear hgood HN HV
      have he : ∀ args w, (callFunc 55 args).run Tryd.prog w = .ok (.enter 55 args) w := Go.Proofs.enters_of Tryd.func55 (by kernel_rfl) rfl
      have HE := Lib.hid he
      clear he
      go_wp2_with fail
      refine (replaced_any s 55 #[.pointer (some ⟨w.heap.size + 1, 0, none⟩), .pointer (some ⟨w.heap.size + 1 + 1, 0, none⟩), .pointer (some ⟨w.heap.size, 0, none⟩)] _ hs (numR s F T)
        (fun _ w2 => Below wr.heap.size wr w2) HE.out ?_ ?_ ?_ (fun l x q _ => numR_size s F T l x hs hr.out)).mono ?_
      · exact Below.refl _ _
      · exact fun l w2 w3 hb h => h.trans hb
      · rintro l x w2 hz2 hb ⟨q, hq⟩
        have hx : x ∈ spans s := by rw [hq]; simp
        obtain ⟨_, m1, m2⟩ := cont_mem (spans_cont s) x hx
        refine (renum1_any s x w2 w.heap.size (w.heap.size + 1) (w.heap.size + 1 + 1) B A A' k cap cap' F T l (by omega) ((hb.cell (p := ⟨w.heap.size, 0, none⟩) (by show w.heap.size < _; omega)).trans c0) (by omega) ((hb.cell (p := ⟨w.heap.size + 1, 0, none⟩) (by show w.heap.size + 1 < _; omega)).trans c1) (by omega) ((hb.cell (p := ⟨w.heap.size + 1 + 1, 0, none⟩) (by show w.heap.size + 1 + 1 < _; omega)).trans c2)
          (hF2.out.below (hb.mono (by omega))) (hT2.out.below (hb.mono (by omega))) (by omega) hlF hlT hl hr.out (hP2.out.below hb) (by omega) m2).mono ?_
        rintro e w3 ⟨rfl, hb3⟩
        exact ⟨rfl, hb.trans (hb3.mono hb.size), hb3.size, fun j _ j2 => hb3.block j j2⟩
      · rintro e w2 ⟨rfl, hb5, hz2⟩
        have HB5 := Lib.hid (HBW.out.trans (hb5.mono (by omega)))
        have hlen : (renOut s F T).size ≤ 140737488355328 := by
          have h1 := repP_len (numR s F T) 2097152 (spans s) [] (fun p x q _ => numR_size s F T _ x hs hr.out)
          have h2 := (cont_le (spans_cont s)).2
          have h3 : (renOut s F T).size = (repP (numR s F T) [] (spans s)).length := by unfold renOut; simp [ByteArray.size]
          have h4 : (spans s).length * 2097152 ≤ 1048576 * 2097152 := Nat.mul_le_mul_right _ (by omega)
          omega
        clear hb5
        rw [show (⟨(repP (numR s F T) [] (spans s)).toArray⟩ : ByteArray) = renOut s F T from rfl]
        go_wp2_with fail
        refine (bounded_any (renOut s F T) _ hlen).mono ?_
        rintro e w3 ⟨rfl, rfl⟩
        by_cases hbig : 2000 < (renOut s F T).size
        · have HV : Hid (boundV (renOut s F T) = .tuple #[.string ⟨#[]⟩, .int .i64 4]) := by show _ = _; unfold boundV; rw [if_pos hbig]
          rw [HV.out]
          clear hbig
          go_wp2
          go_ret2
          exact ⟨by rw [HA.out, HV.out]; rfl, HB5.out⟩
        · have HV : Hid (boundV (renOut s F T) = .tuple #[.string (renOut s F T), .int .i64 0]) := by show _ = _; unfold boundV; rw [if_neg hbig]
          rw [HV.out]
          clear hbig
          go_wp2
          go_ret2
          exact ⟨by rw [HA.out, HV.out]; rfl, HB5.out⟩
end Go.Proofs.YtcbmddgafkoooaaDoor

namespace Go.Proofs.YtcbmddgafkoooaaDoor
open Go.RowKit

theorem inR_bad (t : Int) : (decide (1 ≤ t) && decide (t ≤ 1000000)) = !(badN t) := by
  unfold badN
  by_cases h1 : t < 1 <;> by_cases h2 : 1000000 < t <;> simp [h1, h2] <;> omega
theorem numR_step (s : ByteArray) (F T : List Int) (pre : List Sp) (x : Sp) (n : Nat) (f t : Int) (hf : F[n]? = some f) (ht : T[n]? = some t) :
    numR s (F.drop n) (T.drop n) pre x = if x.kind = 5 ∧ f = x.id then codeS t else numR s (F.drop (n + 1)) (T.drop (n + 1)) pre x := by
  obtain ⟨h1, rfl⟩ := List.getElem?_eq_some_iff.1 hf
  obtain ⟨h2, rfl⟩ := List.getElem?_eq_some_iff.1 ht
  rw [List.drop_eq_getElem_cons h1, List.drop_eq_getElem_cons h2]
  unfold numR
  by_cases h5 : x.kind = 5
  · rw [if_pos h5, if_pos h5]
    by_cases h6 : F[n] = x.id
    · rw [if_pos ⟨h5, h6⟩]; simp only [firstAt]; rw [if_pos h6]
    · rw [if_neg (fun h => h6 h.2)]; simp only [firstAt]; rw [if_neg h6]
  · rw [if_neg h5, if_neg h5, if_neg (fun h => h5 h.1)]
theorem numR_end (s : ByteArray) (F T : List Int) (pre : List Sp) (x : Sp) (n : Nat) (h : F.length ≤ n) : numR s (F.drop n) (T.drop n) pre x = s.extract x.frm x.to_ := by
  rw [List.drop_eq_nil_of_le h]
  unfold numR
  split
  · have : firstAt [] (T.drop n) x.id = none := by cases T.drop n <;> rfl
    rw [this]
  · rfl

set_option maxHeartbeats 4000000 in
set_option maxRecDepth 100000 in
theorem renumbered_len (s : ByteArray) (w : World) (A A' : Option Addr) (len cap len' cap' : Nat) (h : len ≠ len') (hl : len ≤ 140737488351232) (hl' : len' ≤ 140737488351232) :
    Calls Tryd.prog 30 #[.string s, .slice A len cap, .slice A' len' cap'] w fun e w' => e = .returned (.tuple #[.string ⟨#[]⟩, .int .i64 1]) ∧ Below w.heap.size w w' := by
  have hne : ((len : Int) == (len' : Int)) = false := by simp; omega
  have l1 : (len : Int) ≤ 140737488351232 := by omega
  have l2 : (len' : Int) ≤ 140737488351232 := by omega
  clear h
  go_enter Tryd.func30, Tryd.ntmps30
  go_wp2_with fail
  go_ret2
  exact ⟨rfl, Below.refl _ _⟩

set_option maxHeartbeats 4000000 in
set_option maxRecDepth 100000 in
theorem renumbered_any (s : ByteArray) (w : World) (B : Nat) (A A' : Option Addr) (len cap cap' : Nat) (F T : List Int) (hs : s.size ≤ 1048576)
    (hF : Reads w B 1 A len (F.map (.int .i64))) (hT : Reads w B 1 A' len (T.map (.int .i64))) (hB : B ≤ w.heap.size) (hlF : F.length = len) (hlT : T.length = len) (hl : len ≤ 140737488351232) :
    Calls Tryd.prog 30 #[.string s, .slice A len cap, .slice A' len cap'] w fun e w' => e = .returned (renV s F T) ∧ Below w.heap.size w w' := by
  have hV : renV s F T = if T.any badN = true then .tuple #[.string ⟨#[]⟩, .int .i64 2] else boundV (renOut s F T) := by
    unfold renV; rw [if_neg (by omega)]
  have HV := Lib.hid hV
  clear hV
  have heq : ((len : Int) == (len : Int)) = true := by simp
  have lw : (len : Int) ≤ 140737488351232 := by omega
  obtain ⟨L, hL⟩ : ∃ L, L = spans s := ⟨_, rfl⟩
  have hll : L.length ≤ 1048576 := by rw [hL]; have := (cont_le (spans_cont s)).2; omega
  have HL := Lib.hid hL
  have HF := Lib.hid hF
  have HT := Lib.hid hT
  clear hF hT hL
  go_enter Tryd.func30, Tryd.ntmps30
  go_wp2_with fail
  go_loopw [22] (fun i wr => ∃ k : Nat, k ≤ len ∧ i = .int .i64 k ∧ Hid (∀ j, j < k → ∀ t, T[j]? = some t → badN t = false) ∧ wr = w) (fun i _ => len - (intOf i).toNat)
  case atStart => exact ⟨0, Nat.zero_le _, rfl, fun j hj => absurd hj (Nat.not_lt_zero j), rfl⟩
  case round =>
    obtain ⟨k, hk, rfl, HN, rfl⟩ := hrel
    by_cases hkl : k < len
    · obtain ⟨ad, u, rfl, hab, hx, hc⟩ := HT.out.at_ hkl
      obtain ⟨t, ht, rfl⟩ := mapI_at hx
      have j1 : (k : Int) < (len : Int) := by omega
      have j0 : (0 : Int) ≤ (k : Int) := by omega
      have hmem := List.mem_of_getElem? ht
      have hI := inR_bad t
      by_cases hb : badN t = true
      · have HA : Hid (renV s F T = .tuple #[.string ⟨#[]⟩, .int .i64 2]) := by
          show _ = _
          rw [HV.out, if_pos (List.any_eq_true.2 ⟨t, hmem, hb⟩)]
        rw [hb] at hI
        clear ht hx hmem hb
        go_wp2_with fail
        refine (inRange_any _ _ _ _).mono ?_
        rintro e w2 ⟨rfl, rfl⟩
        rw [hI]
        go_wp2_with fail
        go_ret2
        rw [HA.out]
        exact ⟨rfl, Below.refl _ _⟩
      · have HN2 : Hid (∀ j, j < k + 1 → ∀ t, T[j]? = some t → badN t = false) := by
          intro j hj f hf
          by_cases e : j = k
          · subst e
            rw [ht] at hf
            injection hf with hf
            subst hf
            simpa using hb
          · exact HN.out j (by omega) f hf
        rw [show badN t = false by simpa using hb] at hI
        clear ht hx hmem hb HN
        go_wp2_with fail
        refine (inRange_any _ _ _ _).mono ?_
        rintro e w2 ⟨rfl, rfl⟩
        rw [hI]
        go_wp2_with fail
        go_roundw
        case rel => exact ⟨k + 1, by omega, by go_num, HN2, trivial⟩
        case measure => simp [intOf]; omega
    · have hkk : k = len := by omega
      subst hkk
      have hgood : ∀ t ∈ T, badN t = false := fun t ht => by
        obtain ⟨j, hj, rfl⟩ := List.getElem_of_mem ht
        exact HN.out j (by omega) _ (List.getElem?_eq_getElem hj)
      have hr : Hid (∀ t ∈ T, 1 ≤ t ∧ t ≤ 1000000) := fun t ht => by
        have := hgood t ht
        simp [badN] at this
        omega
      have HA : Hid (renV s F T = boundV (renOut s F T)) := by
        show _ = _
        rw [HV.out, if_neg (fun h => by
          obtain ⟨t, ht, hb⟩ := List.any_eq_true.1 h
          rw [hgood t ht] at hb; cases hb)]
      clear hgood HN HV
      obtain ⟨w0, rfl⟩ : ∃ w0 : World, w0 = wr := ⟨_, rfl⟩
      have HNR : Hid (∀ pre x, (numR s F T pre x).size ≤ 2097152) := fun pre x => numR_size s F T pre x hs hr.out
      have HND : Hid (∀ n pre x, (numR s (F.drop n) (T.drop n) pre x).size ≤ 2097152) := fun n pre x => numR_size s _ _ pre x hs (fun t ht => hr.out t (List.drop_subset _ _ ht))
      have HRL : Hid (∀ k, (repP (numR s F T) [] (L.take k)).length ≤ 140737488355328) := fun k => by
        have h1 := repP_len (numR s F T) 2097152 (L.take k) [] (fun p x q _ => HNR.out _ _)
        have h2 : (L.take k).length ≤ 1048576 := by rw [List.length_take]; omega
        have h4 : (L.take k).length * 2097152 ≤ 1048576 * 2097152 := Nat.mul_le_mul_right _ h2
        omega
      go_wp2_with fail
      refine (rspans_any s _ hs).mono ?_
      rintro e w2 ⟨v, rfl, hown, hb⟩
      rw [← HL.out] at hown
      obtain ⟨A2, c, rfl, hnc, hA⟩ := own_shape hown
      have hz2' := hb.size
      go_wp2_with fail
      go_loopg [10, 33] L.length (fun gg s10 s33 wr => ∃ k : Nat, k + gg = L.length ∧ s33 = .int .i64 k ∧ s10 = .string ⟨(repP (numR s F T) [] (L.take k)).toArray⟩ ∧ Below w2.heap.size w2 wr)
      case atStart => exact ⟨0, by omega, rfl, rfl, Below.refl _ _⟩
      case round =>
        obtain ⟨k2, hkg, rfl, rfl, hbel⟩ := hrel
        by_cases hk : k2 < L.length
        · obtain ⟨g, rfl⟩ := hA (by omega)
          obtain ⟨x, hx⟩ : ∃ x, L[k2]? = some x := ⟨_, List.getElem?_eq_getElem hk⟩
          obtain ⟨c0, c1, c2, c3, c4, c5, c6⟩ := sp_cells hown hbel hx
          have hxm : x ∈ spans s := by rw [← HL.out]; exact List.mem_of_getElem? hx
          obtain ⟨_, m1, m2⟩ := cont_mem (spans_cont s) x hxm
          have ik : (k2 : Int) < (L.length : Int) := by omega
          have ik0 : (0 : Int) ≤ (k2 : Int) := by omega
          have hzz := hbel.size
          have i1 : (0 : Int) ≤ (x.frm : Int) := by omega
          have i2 : (x.frm : Int) ≤ (x.to_ : Int) := by omega
          have i3 : (x.to_ : Int) ≤ (s.size : Int) := by omega
          have hnx : Hid (repP (numR s F T) [] (L.take (k2 + 1)) = repP (numR s F T) [] (L.take k2) ++ (numR s F T (L.take k2) x).data.toList) := by
            show _ = _
            rw [List.take_add_one, hx]
            show repP _ _ (L.take k2 ++ [x]) = _
            rw [repP_snoc, List.nil_append]
          clear hx hxm
          have hrl := HRL.out k2
          go_wp2_with fail
          obtain ⟨wo, rfl⟩ : ∃ wo : World, wo = wr := ⟨_, rfl⟩
          obtain ⟨W, hW⟩ : ∃ W, W = wo.alloc (.cells #[.int .i64 x.kind, .int .i64 x.frm, .int .i64 x.to_, .string x.text, .string x.show_, .int .i64 x.id, .bool x.strong] 29) := ⟨_, rfl⟩
          have K := Blk.new wo 29 #[.int .i64 x.kind, .int .i64 x.frm, .int .i64 x.to_, .string x.text, .string x.show_, .int .i64 x.id, .bool x.strong]
          rw [← hW] at K ⊢
          have q0 := K.cell 0
          have q5 := K.cell 5
          have hbW : Below wo.heap.size wo W := by rw [hW]; exact (Below.refl _ _).alloc (Nat.le_refl _) _
          have hWz : W.heap.size = wo.heap.size + 1 := by rw [hW]; simp
          have HBW : Hid (Below w2.heap.size w2 W) := hbel.trans (hbW.mono (by omega))
          have HFW : Hid (Reads W B 1 A k (F.map (.int .i64))) := (HF.out.below (hb.mono hB)).below (HBW.out.mono (by omega))
          have HTW : Hid (Reads W B 1 A' k (T.map (.int .i64))) := (HT.out.below (hb.mono hB)).below (HBW.out.mono (by omega))
          clear hW K hbW c0 c1 c2 c3 c4 c5 c6 hbel
          go_loopg [13, 14] k (fun gg s13 s14 wr => gg ≤ k ∧ s14 = .int .i64 ((gg : Int) - 1) ∧ s13 = .string (numR s (F.drop gg) (T.drop gg) (L.take k2) x) ∧ Below W.heap.size W wr)
          case atStart => exact ⟨Nat.le_refl _, rfl, by rw [numR_end _ _ _ _ _ _ (by omega)], Below.refl _ _⟩
          case round =>
            obtain ⟨hgk, rfl, rfl, hbi⟩ := hrel
            have hzi := hbi.size
            have b0 := (hbi.cell (p := ⟨wo.heap.size, 0, none⟩) (by show wo.heap.size < _; omega)).trans q0
            have b5 := (hbi.cell (p := ⟨wo.heap.size, 5, none⟩) (by show wo.heap.size < _; omega)).trans q5
            clear q0 q5
            cases gk with
            | zero =>
              have hnr := HNR.out (L.take k2) x
              have hd : Hid (numR s (F.drop 0) (T.drop 0) (L.take k2) x = numR s F T (L.take k2) x) := by show _ = _; rw [List.drop_zero, List.drop_zero]
              rw [hd.out]
              have hout : Hid ((⟨(repP (numR s F T) [] (L.take k2)).toArray⟩ : ByteArray) ++ numR s F T (L.take k2) x = ⟨(repP (numR s F T) [] (L.take (k2 + 1))).toArray⟩) := by
                show _ = _
                rw [hnx.out]
                apply ba_ext
                simp
              have hrs : (⟨(repP (numR s F T) [] (L.take k2)).toArray⟩ : ByteArray).size ≤ 140737488355328 := hrl
              have HBI : Hid (Below w2.heap.size w2 wr) := HBW.out.trans (hbi.mono (by omega))
              clear hrl hnr hnx b0 b5 hbi
              have hnr := HNR.out (L.take k2) x
              go_wp2_with fail
              go_roundg (L.length - (k2 + 1))
              case measure => omega
              case rel => exact ⟨k2 + 1, by omega, by go_num, by rw [hout.out], HBI.out⟩
            | succ n =>
              have hnk : n < k := by omega
              rw [show ((n + 1 : Nat) : Int) - 1 = (n : Int) by omega]
              have HFi := (HFW.out.below (hbi.mono (by omega)))
              have HTi := (HTW.out.below (hbi.mono (by omega)))
              obtain ⟨ad, u, rfl, hab, hx, hc⟩ := HFi.at_ hnk
              obtain ⟨ad', u', rfl, hab', hx', hc'⟩ := HTi.at_ hnk
              obtain ⟨f, hf, rfl⟩ := mapI_at hx
              obtain ⟨t, ht, rfl⟩ := mapI_at hx'
              have HST : Hid (numR s (F.drop n) (T.drop n) (L.take k2) x = if x.kind = 5 ∧ f = x.id then codeS t else numR s (F.drop (n + 1)) (T.drop (n + 1)) (L.take k2) x) := numR_step s F T _ x n f t hf ht
              have htr := hr.out t (List.mem_of_getElem? ht)
              obtain ⟨tn, rfl⟩ : ∃ m : Nat, t = m := ⟨t.toNat, by omega⟩
              have zt := decS_len tn (by omega)
              have j1 : (n : Int) < (k : Int) := by omega
              have j0 : (0 : Int) ≤ (n : Int) := by omega
              have HBI := Lib.hid hbi
              clear hx hx' hf ht HFi HTi hbi hnx hrl
              by_cases h5 : x.kind = 5
              · by_cases h6 : f = x.id
                · subst h6
                  have HS2 : Hid (numR s (F.drop n) (T.drop n) (L.take k2) x = codeS tn) := by show _ = _; rw [HST.out, if_pos ⟨h5, rfl⟩]
                  have g5 : (x.kind == 5) = true := by simpa using h5
                  have g6 : (x.id == x.id) = true := by simp
                  clear HST h5
                  go_wp2_with fail
                  go_quiet (fail)
                  go_wp2_with fail
                  refine (told_any tn (by omega) _).mono ?_
                  rintro e w4 ⟨rfl, hb4⟩
                  have hzz4 := hb4.size
                  go_wp2_with fail
                  go_roundg n
                  case measure => omega
                  case rel => exact ⟨by omega, by go_num, by rw [HS2.out]; rfl, (bdrew HBI.out _).trans (hb4.mono (by exact HBI.out.size))⟩
                · have HS2 : Hid (numR s (F.drop n) (T.drop n) (L.take k2) x = numR s (F.drop (n + 1)) (T.drop (n + 1)) (L.take k2) x) := by show _ = _; rw [HST.out, if_neg (fun h => h6 h.2)]
                  have g5 : (x.kind == 5) = true := by simpa using h5
                  have g6 : (x.id == f) = false := by simp only [beq_eq_false_iff_ne, ne_eq]; exact fun e => h6 e.symm
                  clear HST h5 h6
                  go_wp2_with fail
                  go_quiet (fail)
                  go_wp2_with fail
                  go_roundg n
                  case measure => omega
                  case rel => exact ⟨by omega, by go_num, by rw [HS2.out], bdrew HBI.out _⟩
              · have HS2 : Hid (numR s (F.drop n) (T.drop n) (L.take k2) x = numR s (F.drop (n + 1)) (T.drop (n + 1)) (L.take k2) x) := by show _ = _; rw [HST.out, if_neg (fun h => h5 h.1)]
                have g5 : (x.kind == 5) = false := by simp only [beq_eq_false_iff_ne, ne_eq]; exact h5
                clear HST h5
                go_wp2_with fail
                go_quiet (fail)
                go_wp2_with fail
                go_roundg n
                case measure => omega
                case rel => exact ⟨by omega, by go_num, by rw [HS2.out], bdrew HBI.out _⟩
        · have hkk : k2 = L.length := by omega
          subst hkk
          rw [List.take_length]
          have HO : Hid ((⟨(repP (numR s F T) [] L).toArray⟩ : ByteArray) = renOut s F T) := by show _ = _; unfold renOut; rw [HL.out]
          have hlen := HRL.out L.length
          rw [List.take_length] at hlen
          rw [HO.out]
          have hlen2 : (renOut s F T).size ≤ 140737488355328 := by rw [← HO.out]; exact hlen
          have HBE : Hid (Below w0.heap.size w0 wr) := hb.trans (hbel.mono hb.size)
          clear hlen hbel hb hown
          by_cases hbig : 2000 < (renOut s F T).size
          · have HV : Hid (boundV (renOut s F T) = .tuple #[.string ⟨#[]⟩, .int .i64 4]) := by show _ = _; unfold boundV; rw [if_pos hbig]
            have h2 : (2000 : Int) < ((renOut s F T).size : Int) := by omega
            clear hbig
            go_wp2_with fail
            go_ret2
            exact ⟨by rw [HA.out, HV.out]; rfl, HBE.out⟩
          · have HV : Hid (boundV (renOut s F T) = .tuple #[.string (renOut s F T), .int .i64 0]) := by show _ = _; unfold boundV; rw [if_neg hbig]
            have h2 : ((renOut s F T).size : Int) ≤ 2000 := by omega
            clear hbig
            go_wp2_with fail
            go_ret2
            exact ⟨by rw [HA.out, HV.out]; rfl, HBE.out⟩
end Go.Proofs.YtcbmddgafkoooaaDoor

namespace Go.Proofs.YtcbmddgafkoooaaDoor
open Go.RowKit

theorem renV_shape (s : ByteArray) (F T : List Int) : ∃ a, ∃ b : Int, renV s F T = .tuple #[.string a, .int .i64 b] := by
  unfold renV boundV
  split
  · exact ⟨_, _, rfl⟩
  · split
    · exact ⟨_, _, rfl⟩
    · split <;> exact ⟨_, _, rfl⟩
theorem rtgV_shape (s U : ByteArray) (k : Int) : ∃ a, ∃ b : Int, rtgV s k U = .tuple #[.string a, .int .i64 b] := by
  unfold rtgV boundV
  split
  · exact ⟨_, _, rfl⟩
  · split
    · exact ⟨_, _, rfl⟩
    · split <;> exact ⟨_, _, rfl⟩

section
variable (s : ByteArray) (w : World) (A A' : Option Addr) (len cap len' cap' : Nat) (F T : List Int) (hs : s.size ≤ 1048576)
  (hF : Reads w w.heap.size 1 A len (F.map (.int .i64))) (hT : Reads w w.heap.size 1 A' len' (T.map (.int .i64))) (hl : len ≤ 140737488351232) (hl' : len' ≤ 140737488351232)
include hs hF hT hl hl'
theorem renumber_all (hP : Pow w) : Calls Tryd.prog 29 #[.string s, .slice A len cap, .slice A' len' cap'] w fun e w' => e = .returned (renV s F T) ∧ Below w.heap.size w w' := by
  have h1 : F.length = len := by have := hF.1; simpa using this
  have h2 : T.length = len' := by have := hT.1; simpa using this
  by_cases h : len = len'
  · subst h
    exact renumber_any s w w.heap.size A A' len cap cap' F T hs hF hT (Nat.le_refl _) h1 h2 hl hP
  · have hv : renV s F T = .tuple #[.string ⟨#[]⟩, .int .i64 1] := by unfold renV; rw [if_pos (by omega)]
    rw [hv]
    exact renumber_len s w A A' len cap len' cap' h hl hl'
theorem renumbered_all : Calls Tryd.prog 30 #[.string s, .slice A len cap, .slice A' len' cap'] w fun e w' => e = .returned (renV s F T) ∧ Below w.heap.size w w' := by
  have h1 : F.length = len := by have := hF.1; simpa using this
  have h2 : T.length = len' := by have := hT.1; simpa using this
  by_cases h : len = len'
  · subst h
    exact renumbered_any s w w.heap.size A A' len cap cap' F T hs hF hT (Nat.le_refl _) h1 h2 hl
  · have hv : renV s F T = .tuple #[.string ⟨#[]⟩, .int .i64 1] := by unfold renV; rw [if_pos (by omega)]
    rw [hv]
    exact renumbered_len s w A A' len cap len' cap' h hl hl'
end

set_option maxHeartbeats 4000000 in
set_option maxRecDepth 100000 in
theorem textTargets_any (s : ByteArray) (p : Int) (t sh : ByteArray) (A A' : Option Addr) (len cap len' cap' : Nat) (F T : List Int) (w : World) (hs : s.size ≤ 1048576) (ht : t.size ≤ 1048576) (hsh : sh.size ≤ 1048576)
    (hF : Reads w w.heap.size 1 A len (F.map (.int .i64))) (hT : Reads w w.heap.size 1 A' len' (T.map (.int .i64))) (hl : len ≤ 140737488351232) (hl' : len' ≤ 140737488351232) (hP : Pow w) :
    Calls Tryd.prog 7 #[.string s, .int .i64 p, .string t, .string sh, .slice A len cap, .slice A' len' cap'] w fun e w' => e = .returned (.bool true) ∧ Below w.heap.size w w' := by
  have tail : ∀ w1 : World, Below w.heap.size w w1 → Hid (Pow w1 ∧ Reads w1 w1.heap.size 1 A len (F.map (.int .i64)) ∧ Reads w1 w1.heap.size 1 A' len' (T.map (.int .i64))) := fun w1 hb =>
    ⟨hP.below hb, (hF.below hb).more hb.size, (hT.below hb).more hb.size⟩
  have HTL := Lib.hid tail
  obtain ⟨ra, rb, hr⟩ := renV_shape s F T
  obtain ⟨ga, gb, hg⟩ := rtgV_shape s t p
  have HR := Lib.hid hr
  have HG := Lib.hid hg
  clear hr hg hF hT hP tail
  go_enter Tryd.func7, Tryd.ntmps7
  go_wp2_with fail
  refine (linkText_any t sh _ ht hsh).mono ?_
  rintro e w1 ⟨rfl, hb1⟩
  cases h1 : isTgt t
  · have HV : Hid (ltV t sh = .tuple #[.string ⟨#[]⟩, .int .i64 3]) := by show _ = _; unfold ltV; rw [if_pos h1]
    rw [HV.out]
    go_wp2_with fail
    refine (rIsTarget_any t _ (by omega)).mono ?_
    rintro e w2 ⟨rfl, hb2⟩
    rw [h1]
    have HB0 : Hid (Below w.heap.size w w2) := hb1.trans (hb2.mono hb1.size)
    clear hb1 hb2 h1
    go_wp2_with fail
    refine (retarget_any s t p _ hs ht).mono ?_
    rintro e w3 ⟨rfl, hb3⟩
    rw [HG.out]
    have HB3 : Hid (Below w.heap.size w w3) := HB0.out.trans (hb3.mono HB0.out.size)
    clear hb3
    go_wp2_with fail
    refine (rretarget_any s t p _ hs ht).mono ?_
    rintro e w4 ⟨rfl, hb4⟩
    rw [HG.out]
    have HB4 : Hid (Below w.heap.size w w4) := HB3.out.trans (hb4.mono HB3.out.size)
    clear hb4
    go_wp2_with fail
    refine (renumber_all s _ A A' len cap len' cap' F T hs (HTL.out _ HB4.out).out.2.1 (HTL.out _ HB4.out).out.2.2 hl hl' (HTL.out _ HB4.out).out.1).mono ?_
    rintro e w5 ⟨rfl, hb5⟩
    rw [HR.out]
    have HB5 : Hid (Below w.heap.size w w5) := HB4.out.trans (hb5.mono HB4.out.size)
    clear hb5
    go_wp2_with fail
    refine (renumbered_all s _ A A' len cap len' cap' F T hs (HTL.out _ HB5.out).out.2.1 (HTL.out _ HB5.out).out.2.2 hl hl').mono ?_
    rintro e w6 ⟨rfl, hb6⟩
    rw [HR.out]
    have HB6 : Hid (Below w.heap.size w w6) := HB5.out.trans (hb6.mono HB5.out.size)
    clear hb6
    go_wp2_with fail
    go_ret
    exact ⟨rfl, HB6.out⟩
  · by_cases h2 : upto brB sh 0 < sh.size
    · have HV : Hid (ltV t sh = .tuple #[.string ⟨#[]⟩, .int .i64 1]) := by show _ = _; unfold ltV; rw [if_neg (by rw [h1]; decide), if_pos h2]
      rw [HV.out]
      go_wp2_with fail
      refine (rIsTarget_any t _ (by omega)).mono ?_
      rintro e w2 ⟨rfl, hb2⟩
      rw [h1]
      go_wp2_with fail
      refine (hasBracket_any sh _ (by omega)).mono ?_
      rintro e w2 ⟨rfl, rfl⟩
      rw [decide_eq_true h2]
      have HB0 : Hid (Below w.heap.size w w2) := hb1.trans (hb2.mono hb1.size)
      clear hb1 hb2 h1 h2
      go_wp2_with fail
      refine (retarget_any s t p _ hs ht).mono ?_
      rintro e w3 ⟨rfl, hb3⟩
      rw [HG.out]
      have HB3 : Hid (Below w.heap.size w w3) := HB0.out.trans (hb3.mono HB0.out.size)
      clear hb3
      go_wp2_with fail
      refine (rretarget_any s t p _ hs ht).mono ?_
      rintro e w4 ⟨rfl, hb4⟩
      rw [HG.out]
      have HB4 : Hid (Below w.heap.size w w4) := HB3.out.trans (hb4.mono HB3.out.size)
      clear hb4
      go_wp2_with fail
      refine (renumber_all s _ A A' len cap len' cap' F T hs (HTL.out _ HB4.out).out.2.1 (HTL.out _ HB4.out).out.2.2 hl hl' (HTL.out _ HB4.out).out.1).mono ?_
      rintro e w5 ⟨rfl, hb5⟩
      rw [HR.out]
      have HB5 : Hid (Below w.heap.size w w5) := HB4.out.trans (hb5.mono HB4.out.size)
      clear hb5
      go_wp2_with fail
      refine (renumbered_all s _ A A' len cap len' cap' F T hs (HTL.out _ HB5.out).out.2.1 (HTL.out _ HB5.out).out.2.2 hl hl').mono ?_
      rintro e w6 ⟨rfl, hb6⟩
      rw [HR.out]
      have HB6 : Hid (Below w.heap.size w w6) := HB5.out.trans (hb6.mono HB5.out.size)
      clear hb6
      go_wp2_with fail
      go_ret
      exact ⟨rfl, HB6.out⟩
    · by_cases h3 : sh.size = 0
      · have HV : Hid (ltV t sh = .tuple #[.string (⟨#[91, 91]⟩ ++ t ++ ⟨#[93, 93]⟩), .int .i64 0]) := by show _ = _; unfold ltV; rw [if_neg (by rw [h1]; decide), if_neg h2, if_pos h3]
        obtain rfl : sh = ⟨#[]⟩ := by
          obtain ⟨⟨l⟩⟩ := sh
          cases l with
          | nil => rfl
          | cons a l => simp [ByteArray.size] at h3
        have hcz : (⟨#[91, 91]⟩ ++ t : ByteArray).size ≤ 1048578 := by rw [ByteArray.size_append]; have : (⟨#[91, 91]⟩ : ByteArray).size = 2 := rfl; omega
        have h0 : (((⟨#[]⟩ : ByteArray) != (⟨#[]⟩ : ByteArray)) : Bool) = false := rfl
        rw [HV.out]
        go_wp2_with fail
        refine (rIsTarget_any t _ (by omega)).mono ?_
        rintro e w2 ⟨rfl, hb2⟩
        rw [h1]
        go_wp2_with fail
        refine (hasBracket_any _ _ (by first | decide | omega)).mono ?_
        rintro e w2 ⟨rfl, rfl⟩
        rw [decide_eq_false h2]
        have HB0 : Hid (Below w.heap.size w w2) := hb1.trans (hb2.mono hb1.size)
        clear hb1 hb2 h1 h2
        go_wp2_with fail
        refine (retarget_any s t p _ hs ht).mono ?_
        rintro e w3 ⟨rfl, hb3⟩
        rw [HG.out]
        have HB3 : Hid (Below w.heap.size w w3) := HB0.out.trans (hb3.mono HB0.out.size)
        clear hb3
        go_wp2_with fail
        refine (rretarget_any s t p _ hs ht).mono ?_
        rintro e w4 ⟨rfl, hb4⟩
        rw [HG.out]
        have HB4 : Hid (Below w.heap.size w w4) := HB3.out.trans (hb4.mono HB3.out.size)
        clear hb4
        go_wp2_with fail
        refine (renumber_all s _ A A' len cap len' cap' F T hs (HTL.out _ HB4.out).out.2.1 (HTL.out _ HB4.out).out.2.2 hl hl' (HTL.out _ HB4.out).out.1).mono ?_
        rintro e w5 ⟨rfl, hb5⟩
        rw [HR.out]
        have HB5 : Hid (Below w.heap.size w w5) := HB4.out.trans (hb5.mono HB4.out.size)
        clear hb5
        go_wp2_with fail
        refine (renumbered_all s _ A A' len cap len' cap' F T hs (HTL.out _ HB5.out).out.2.1 (HTL.out _ HB5.out).out.2.2 hl hl').mono ?_
        rintro e w6 ⟨rfl, hb6⟩
        rw [HR.out]
        have HB6 : Hid (Below w.heap.size w w6) := HB5.out.trans (hb6.mono HB5.out.size)
        clear hb6
        go_wp2_with fail
        go_ret
        exact ⟨rfl, HB6.out⟩
      · have HV : Hid (ltV t sh = .tuple #[.string (⟨#[91, 91]⟩ ++ t ++ ⟨#[124]⟩ ++ sh ++ ⟨#[93, 93]⟩), .int .i64 0]) := by show _ = _; unfold ltV; rw [if_neg (by rw [h1]; decide), if_neg h2, if_neg h3]
        have hcz : (⟨#[91, 91]⟩ ++ t : ByteArray).size ≤ 1048578 := by rw [ByteArray.size_append]; have : (⟨#[91, 91]⟩ : ByteArray).size = 2 := rfl; omega
        have hcz2 : (⟨#[124]⟩ ++ sh : ByteArray).size ≤ 1048578 := by rw [ByteArray.size_append]; have : (⟨#[124]⟩ : ByteArray).size = 1 := rfl; omega
        have hcz3 : ((⟨#[91, 91]⟩ ++ t) ++ (⟨#[124]⟩ ++ sh) : ByteArray).size ≤ 2097156 := by rw [ByteArray.size_append]; omega
        have hass : ⟨#[91, 91]⟩ ++ t ++ ⟨#[124]⟩ ++ sh ++ ⟨#[93, 93]⟩ = ((⟨#[91, 91]⟩ ++ t) ++ (⟨#[124]⟩ ++ sh)) ++ (⟨#[93, 93]⟩ : ByteArray) := by apply ba_ext; simp
        have h0 : (!sh.toList.isEmpty) = true := by
          rw [Lib.toList_data]
          clear hsh HTL hcz2 hcz3 hass h2 HV
          obtain ⟨⟨l⟩⟩ := sh
          cases l with
          | nil => exact absurd rfl h3
          | cons a l => rfl
        rw [hass] at HV
        rw [HV.out]
        go_wp2_with fail
        refine (rIsTarget_any t _ (by omega)).mono ?_
        rintro e w2 ⟨rfl, hb2⟩
        rw [h1]
        go_wp2_with fail
        refine (hasBracket_any _ _ (by first | decide | omega)).mono ?_
        rintro e w2 ⟨rfl, rfl⟩
        rw [decide_eq_false h2]
        have HB0 : Hid (Below w.heap.size w w2) := hb1.trans (hb2.mono hb1.size)
        clear hb1 hb2 h1 h2
        go_wp2_with fail
        refine (retarget_any s t p _ hs ht).mono ?_
        rintro e w3 ⟨rfl, hb3⟩
        rw [HG.out]
        have HB3 : Hid (Below w.heap.size w w3) := HB0.out.trans (hb3.mono HB0.out.size)
        clear hb3
        go_wp2_with fail
        refine (rretarget_any s t p _ hs ht).mono ?_
        rintro e w4 ⟨rfl, hb4⟩
        rw [HG.out]
        have HB4 : Hid (Below w.heap.size w w4) := HB3.out.trans (hb4.mono HB3.out.size)
        clear hb4
        go_wp2_with fail
        refine (renumber_all s _ A A' len cap len' cap' F T hs (HTL.out _ HB4.out).out.2.1 (HTL.out _ HB4.out).out.2.2 hl hl' (HTL.out _ HB4.out).out.1).mono ?_
        rintro e w5 ⟨rfl, hb5⟩
        rw [HR.out]
        have HB5 : Hid (Below w.heap.size w w5) := HB4.out.trans (hb5.mono HB4.out.size)
        clear hb5
        go_wp2_with fail
        refine (renumbered_all s _ A A' len cap len' cap' F T hs (HTL.out _ HB5.out).out.2.1 (HTL.out _ HB5.out).out.2.2 hl hl').mono ?_
        rintro e w6 ⟨rfl, hb6⟩
        rw [HR.out]
        have HB6 : Hid (Below w.heap.size w w6) := HB5.out.trans (hb6.mono HB5.out.size)
        clear hb6
        go_wp2_with fail
        go_ret
        exact ⟨rfl, HB6.out⟩
end Go.Proofs.YtcbmddgafkoooaaDoor

namespace Go.Proofs.YtcbmddgafkoooaaDoor.textTargets
open Go.ChangeShapes Go.WideShapes Go.ChangeAt Go.RowKit Go.Joins
open Go.ChangeMaps (open_string shut_string)

theorem readable : ∀ t ∈ [9, 3, 9, 9, 39, 39], Tryd.prog.readableRec t = true ∧ t < Tryd.prog.types.size := by
  intro t ht
  simp only [List.mem_cons, List.not_mem_nil, or_false] at ht
  rcases ht with rfl | rfl | rfl | rfl | rfl | rfl
  · exact ⟨by kernel_rfl, of_decide_eq_true (by kernel_rfl)⟩
  · exact ⟨by kernel_rfl, of_decide_eq_true (by kernel_rfl)⟩
  · exact ⟨by kernel_rfl, of_decide_eq_true (by kernel_rfl)⟩
  · exact ⟨by kernel_rfl, of_decide_eq_true (by kernel_rfl)⟩
  · exact ⟨by kernel_rfl, of_decide_eq_true (by kernel_rfl)⟩
  · exact ⟨by kernel_rfl, of_decide_eq_true (by kernel_rfl)⟩

set_option maxHeartbeats 1000000 in
set_option maxRecDepth 100000 in
theorem contract (H : Type) (enc : TypeId × Value → H) (W : World) (base : Nat) (args : Array Value) (ds gs : List (DataW H)) (before : List MemPlace)
    (hval : ∀ (j : Nat) t v, Tryd.f7.params[j]? = some t → args[j]? = some v → Value.okWide Tryd.prog W .any base t v)
    (hW : DataW.Whole enc Tryd.prog Tryd.f7.params.toList Rows.textTargetsSpec.vars false W args.toList ds gs before)
    (hk : Rows.uptoSmall H (ds ++ gs) = true)
    (hsz : (DataW.weightsEach Tryd.prog (Tryd.f7.params.toList ++ Rows.textTargetsSpec.plain.varTypes Tryd.prog) (ds ++ gs)).all (· ≤ reachBytes) = true) (_hL : laidMetH Tryd.prog Rows.textTargetsUptoRow.laid W) :
    Calls Tryd.prog 7 args W fun e W' => ∃ v, e = .returned v ∧ Rows.textTargetsSpec.post enc Tryd.prog Tryd.f7 false true false false W args v W' := by
  have hW' := hW
  obtain ⟨p, q, hA0, hV, rfl, _, _⟩ := hW
  have hA : DataW.TrodAll enc Tryd.prog W 0 (fun _ => true) true Tryd.f7.params.toList args.toList ds p := hA0
  rw [Tryd.params7] at hA hval hsz
  obtain ⟨v0, vs0, d0, ds0, p0, q0, hargs, rfl, rfl, h0, r0⟩ := trodAll_cons hA
  obtain ⟨v1, vs1, d1, ds1, p1, q1, rfl, rfl, rfl, h1, r1⟩ := trodAll_cons r0
  obtain ⟨v2, vs2, d2, ds2, p2, q2, rfl, rfl, rfl, h2, r2⟩ := trodAll_cons r1
  obtain ⟨v3, vs3, d3, ds3, p3, q3, rfl, rfl, rfl, h3, r3⟩ := trodAll_cons r2
  obtain ⟨v4, vs4, d4, ds4, p4, q4, rfl, rfl, rfl, h4, r4⟩ := trodAll_cons r3
  obtain ⟨v5, vs5, d5, ds5, p5, q5, rfl, rfl, rfl, h5, r5⟩ := trodAll_cons r4
  obtain ⟨rfl, rfl, rfl⟩ := trodAll_nil r5
  obtain rfl : args = #[v0, v1, v2, v3, v4, v5] := Array.ext' hargs
  obtain ⟨rfl, rfl⟩ := trodVars_none hV
  clear hA0 hA
  have hsz1 : (DataW.weightsEach Tryd.prog [9, 3, 9, 9, 39, 39] [d0, d1, d2, d3, d4, d5]).all (· ≤ reachBytes) = true := hsz
  obtain ⟨a0, rfl, rfl, rfl, _⟩ := open_string Tryd.underlying9 (hval 0 9 v0 rfl rfl) h0
  have e0 : a0.data.toList.length = a0.size := rfl
  obtain ⟨a1, rfl, rfl, rfl, w1⟩ := open_int Tryd.underlying3 (hval 1 3 v1 rfl rfl) h1
  have b1 := i64_bounds w1
  obtain ⟨a2, rfl, rfl, rfl, _⟩ := open_string Tryd.underlying9 (hval 2 9 v2 rfl rfl) h2
  have e2 : a2.data.toList.length = a2.size := rfl
  obtain ⟨a3, rfl, rfl, rfl, _⟩ := open_string Tryd.underlying9 (hval 3 9 v3 rfl rfl) h3
  have e3 : a3.data.toList.length = a3.size := rfl
  have q4l : ∀ x ∈ p4, x.block < W.heap.size := fun x hx => by simpa using hW'.lt x (by simp [hx])
  obtain ⟨A4, len4, cap4, zs4, rfl, hr4, hl4, _⟩ := reads_ints Tryd.underlying39 Tryd.underlying3 (by kernel_rfl) (by kernel_rfl) (hval 4 39 v4 rfl rfl) h4 q4l (fits_at hsz1 (j := 4) rfl rfl)
  have q5l : ∀ x ∈ p5, x.block < W.heap.size := fun x hx => by simpa using hW'.lt x (by simp [hx])
  obtain ⟨A5, len5, cap5, zs5, rfl, hr5, hl5, _⟩ := reads_ints Tryd.underlying39 Tryd.underlying3 (by kernel_rfl) (by kernel_rfl) (hval 5 39 v5 rfl rfl) h5 q5l (fits_at hsz1 (j := 5) rfl rfl)
  have hP : Pow W := by
    have h0 : laidMet Tryd.prog Rows.textTargetsUptoRow.laid W := by rw [← MakeChecks.laidMetH_plain _ _ _ (by kernel_rfl)]; exact _hL
    exact Lib.tabIs_of_head (g := 1) (by kernel_rfl) (by kernel_rfl) Tryd.underlying114 Tryd.underlying107 (by kernel_rfl) (by kernel_rfl) h0.tail.tail
  have hb := of_decide_eq_true hk
  simp only [List.cons_append, List.nil_append, Rows.uptoBulkAll, Rows.uptoBulk] at hb
  refine (textTargets_any a0 a1 a2 a3 A4 A5 len4 cap4 len5 cap5 zs4 zs5 W (by omega) (by omega) (by omega) hr4 hr5 (by omega) (by omega) hP).mono fun e W' ⟨he, hbel⟩ => ?_
  subst he
  exact ⟨_, rfl, law_post Tryd.laidOut rfl Tryd.underlying4 rfl readable rfl hW' hbel⟩

theorem laid_met (os : Os) (args : Array Value) : laidMet Tryd.prog Rows.textTargetsUptoRow.laid ((laidWorld os).forCall (fun _ _ => 0) ⟨#[], args, []⟩).memory :=
  laidMet_of_run' 8 (by kernel_rfl) (by kernel_rfl)
def wArgs : Array Value := #[.string ⟨#[]⟩, .int .i64 0, .string ⟨#[]⟩, .string ⟨#[]⟩, .slice none 0 0, .slice none 0 0]
theorem witness_row (os : Os) {H : Type} (enc : TypeId × Value → H) :
    (Rows.OpenSpec.upto Rows.textTargetsSpec).preRow enc Tryd.prog Tryd.f7 Rows.textTargetsUptoRow.domain false Rows.textTargetsUptoRow.laid ((laidWorld os).forCall (fun _ _ => 0) ⟨#[], wArgs, []⟩).memory wArgs := by
  have hw : ((DataW.whole enc Tryd.prog ((laidWorld os).forCall (fun _ _ => 0) ⟨#[], wArgs, []⟩).memory Tryd.f7.params.toList Rows.textTargetsSpec.vars false wArgs.toList 8).map (fun x => (x.1, x.2.1))) =
      some ([.lit (.string []), .lit (.int .i64 0), .lit (.string []), .lit (.string []), .nil, .nil], []) := by kernel_rfl
  obtain ⟨⟨x1, x2, x3⟩, hx, hx1⟩ := Option.map_eq_some_iff.1 hw
  simp only [Prod.mk.injEq] at hx1
  obtain ⟨rfl, rfl⟩ := hx1
  exact OpenSpec.preRow_of_cond 8 hx (by kernel_rfl) (fun k hk => by cases hk; kernel_rfl) (by kernel_rfl) (laid_met os _)

set_option maxRecDepth 100000 in
set_option maxHeartbeats 2000000 in
theorem lifted (os : Os) (started : os.Started) (H : Type) (enc : TypeId × Value → H) (F : Stop.Interp) :
    ReturnsInHanded {} Tryd.checked os 7 .any ((Rows.OpenSpec.upto Rows.textTargetsSpec).preRow enc Tryd.prog Tryd.f7 Rows.textTargetsUptoRow.domain false Rows.textTargetsUptoRow.laid) (((Rows.OpenSpec.upto Rows.textTargetsSpec).at F).post enc Tryd.prog Tryd.f7 false true false false) := by
  refine returnsInHanded_of_row (C := Tryd.checked) (s := Rows.OpenSpec.upto Rows.textTargetsSpec) Tryd.own started (by kernel_rfl) Tryd.func7
    (witness_row_atRef (enc := enc) (C := Tryd.checked) false (laidWorld os) wArgs rfl (by kernel_rfl) (by kernel_rfl) (by kernel_rfl) (witness_row os enc)) ?_
  intro W base args ds gs before hval hW _ hcond hsz hL _ _
  exact contract H enc W base args ds gs before hval hW (hcond _ rfl) hsz hL

theorem said : Rows.TextTargetsUptoSaid :=
  OpenClaim.holds_of_cond 7 Tryd.f7 rfl rfl rfl rfl rfl rfl rfl ⟨rfl, rfl, rfl, rfl, rfl⟩ rfl rfl rfl rfl rfl (by kernel_rfl) Tryd.func7 (by kernel_rfl)
    (of_decide_eq_true (by kernel_rfl)) (by unfold Func.isWrapper; first | (rw [if_pos (by decide +kernel)]; kernel_rfl) | (rw [if_neg (by decide +kernel)]; exact ⟨rfl, rfl⟩))
    (fun os started H enc _ F => by rw [OpenClaim.pre_eq_preRow]; exact lifted os started H enc F)

theorem plain (f : FuncId) (fn : Func) (hf : Tryd.pinned.checked.prog.funcNamed "florilegium/florlaw1.TextTargets" = some f) (hfn : Tryd.pinned.checked.prog.funcs[f]? = some fn) :
    true = Tryd.pinned.checked.prog.looks [] ∧ ∀ (j : Nat) t, fn.params[j]? = some t → Tryd.pinned.checked.prog.wantsStandIn t = false := by
  obtain rfl : f = 7 := Option.some.inj ((show Tryd.prog.funcNamed "florilegium/florlaw1.TextTargets" = some 7 by kernel_rfl).symm.trans hf) |>.symm
  obtain rfl : fn = Tryd.f7 := (Option.some.inj (Tryd.func7.symm.trans hfn)).symm
  refine ⟨by kernel_rfl, fun j t ht => ?_⟩
  rw [Tryd.params7] at ht
  have hm : t ∈ [9, 3, 9, 9, 39, 39] := by simpa using Array.mem_of_getElem? ht
  simp only [List.mem_cons, List.not_mem_nil, or_false] at hm
  rcases hm with rfl | rfl | rfl | rfl | rfl | rfl
  · exact (show Tryd.prog.wantsStandIn 9 = false by kernel_rfl)
  · exact (show Tryd.prog.wantsStandIn 3 = false by kernel_rfl)
  · exact (show Tryd.prog.wantsStandIn 9 = false by kernel_rfl)
  · exact (show Tryd.prog.wantsStandIn 9 = false by kernel_rfl)
  · exact (show Tryd.prog.wantsStandIn 39 = false by kernel_rfl)
  · exact (show Tryd.prog.wantsStandIn 39 = false by kernel_rfl)

theorem card : Rows.TextTargetsUptoCardSaid :=
  Claim7.holds_tied_plain_at .later [] _ _ _ _ said (fun _ h => by cases h) (by kernel_rfl) (fun _ h => by cases h) textTargetsUpto_row_tie rfl ⟨rfl, rfl⟩ (by kernel_rfl) rfl plain (by kernel_rfl)
end Go.Proofs.YtcbmddgafkoooaaDoor.textTargets
