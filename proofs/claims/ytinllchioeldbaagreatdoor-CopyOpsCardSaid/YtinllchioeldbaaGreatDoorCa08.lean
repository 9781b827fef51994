/-
  DERIVED. strings.Join over a row of the call's own. Conditions: sizes.
  The walk of a Replacer's Replace, right behind NewReplacer: the text escaped. Conditions: the text's length.
  The walks of cmp.Compare and cmp.Or at int. Conditions: none.
  The walks of text.hasControl and florref1.below: is there a byte below 32, or 127. Conditions: the length is within the form's reach.
  The walk of text.Check. Conditions: a length in reach.
  The reference's walk beside hasControl. Conditions: a length in reach.
  The walks of small functions of a base's check: inRange, the reference's TextError. Conditions: sizes.
  By an AI agent.
-/
import Derived.Test.YtinllchioeldbaaGreatDoorCa05
import Derived.Test.YtinllchioeldbaaGreatDoorCa03
import Derived.Test.YtinllchioeldbaaGreatDoorCa07
import Derived.Test.YtinllchioeldbaaGreatDoorCa01
import Derived.Test.YtinllchioeldbaaGreatDoorCa04
import Derived.Test.YtinllchioeldbaaGreatDoorChecked
import Derived.WalkLawsBesides
namespace Go.Proofs.YtinllchioeldbaaGreatDoor
open Go.RowKit

def joinB (xs : List ByteArray) (sep : ByteArray) : ByteArray := ⟨(Lib.join (xs.map (·.data.toList)) sep.data.toList).toArray⟩
theorem joinB_size (xs : List ByteArray) (sep : ByteArray) : (joinB xs sep).size = (Lib.join (xs.map (·.data.toList)) sep.data.toList).length := by
  show (Lib.join _ _).toArray.size = _
  simp
theorem joinB_nil (sep : ByteArray) : joinB [] sep = ⟨#[]⟩ := rfl
theorem joinB_one (x sep : ByteArray) : joinB [x] sep = x := by
  unfold joinB
  rw [List.map_cons, List.map_nil, Lib.join_one]
theorem joinB_cons (x y : ByteArray) (r : List ByteArray) (sep : ByteArray) : joinB (x :: y :: r) sep = x ++ sep ++ joinB (y :: r) sep := by
  apply ByteArray.ext
  unfold joinB
  simp only [List.map_cons]
  rw [Lib.join_cons, Lib.join_cons]
  simp [Lib.joinTail]
theorem joinB_snoc : ∀ (xs : List ByteArray) (y sep : ByteArray), xs ≠ [] → joinB (xs ++ [y]) sep = joinB xs sep ++ sep ++ y
  | [], _, _, h => absurd rfl h
  | [x], y, sep, _ => by
    rw [show [x] ++ [y] = [x, y] from rfl, joinB_cons, joinB_one, joinB_one]
  | x :: z :: r, y, sep, _ => by
    rw [show (x :: z :: r) ++ [y] = x :: z :: (r ++ [y]) from rfl, joinB_cons, joinB_cons, show z :: (r ++ [y]) = (z :: r) ++ [y] from rfl, joinB_snoc (z :: r) y sep (by simp)]
    simp only [ByteArray.append_assoc]
theorem joinB_le (sep : ByteArray) (k : Nat) : ∀ (xs : List ByteArray), (∀ x ∈ xs, x.size ≤ k) → (joinB xs sep).size ≤ xs.length * (k + sep.size)
  | [], _ => by rw [joinB_nil]; exact Nat.zero_le _
  | [x], h => by
    rw [joinB_one, List.length_singleton]
    have := h x (by simp)
    omega
  | x :: y :: r, h => by
    have ih := joinB_le sep k (y :: r) (fun z hz => h z (by simp [hz]))
    have hx := h x (by simp)
    rw [joinB_cons, ByteArray.size_append, ByteArray.size_append, List.length_cons, Nat.succ_mul]
    omega
theorem str_one (s : ByteArray) : ∀ u ∈ [Value.string s], u.oneCell' = true := fun u hu => by rw [List.mem_singleton.1 hu]; rfl
theorem take_str {α : Type} (f : α → ByteArray) {xs : List α} {k : Nat} {x : α} (h : xs[k]? = some x) : (((xs.take (k + 1)).map f).map Value.string) = ((xs.take k).map f).map .string ++ [.string (f x)] := by
  rw [List.take_add_one, h]
  simp
theorem join_own (xs : List ByteArray) (sep : ByteArray) (w : World) (base n : Nat) (v : Value) (h : w.ownsRow base 9 1 v n (xs.map .string)) (hn : n = xs.length) (hb : n ≤ 4294967280) (hs : (joinB xs sep).size ≤ 4294967280) :
    Calls Tryz.prog 35 #[v, .string sep] w fun e w' => e = .returned (.string (joinB xs sep)) ∧ Below w.heap.size w w' := by
  have hr := own_reads h
  obtain ⟨h1, h2⟩ := h
  have h0 : ∀ A c, n = 0 → Calls Tryz.prog 35 #[.slice A n c, .string sep] w fun e w' => e = .returned (.string (joinB xs sep)) ∧ Below w.heap.size w w' := by
    intro A c h0
    obtain rfl : xs = [] := List.eq_nil_of_length_eq_zero (by omega)
    rw [h0]
    refine (Tryz.strings_Join_none A c sep w).mono ?_
    rintro e w' ⟨rfl, rfl⟩
    exact ⟨rfl, Below.refl _ _⟩
  rcases h2 with ⟨rfl, rfl⟩ | ⟨g, cap, cur, rfl, hg, hh, hnc, _⟩
  · exact h0 none 0 rfl
  · rcases Nat.eq_zero_or_pos n with h3 | h3
    · exact h0 _ _ h3
    · obtain ⟨A, c, e, hrd⟩ := hr
      injection e with e1 e2 e3
      subst e1
      obtain ⟨b, off, e4, hbb, hc⟩ := hrd.plain h3 (by decide)
      injection e4 with e4
      rw [e4]
      have h := Tryz.strings_Join b off cap xs sep w (fun j x hx => hc j (.string x) (by rw [List.getElem?_map, hx]; rfl)) hbb (by omega) (by omega) (by rw [← joinB_size]; omega)
      rw [← hn] at h
      exact h
end Go.Proofs.YtinllchioeldbaaGreatDoor
namespace Go.Proofs.YtinllchioeldbaaGreatDoor
open Go.RowKit

set_option maxHeartbeats 1000000 in
set_option maxRecDepth 100000 in
theorem buildOnce_any (b g cap : Nat) (w : World) (hg : g < w.heap.size) (h4 : w.cell? ⟨b, 4, none⟩ = some (.slice (some ⟨g, 0, none⟩) 4 cap)) (h3 : w.cell? ⟨b, 3, none⟩ = some .nilIface) (f3 : w.frozen? ⟨b, 3, none⟩ = false) (f4 : w.frozen? ⟨b, 4, none⟩ = false) (hc : ∀ j u, rpO[j]? = some u → w.cell? ⟨g, j, none⟩ = some u) :
    Calls Tryz.prog 70 #[.pointer (some ⟨b, 0, none⟩)] w fun e w' => e = .returned (.tuple #[]) ∧ ∃ w1, RepIs w1 w.heap.size (w.heap.size + 1) ∧ Below w.heap.size w w1 ∧ w' = (w1.setCell ⟨b, 3, none⟩ (.iface 153 (.pointer (some ⟨w.heap.size + 1, 0, none⟩)))).setCell ⟨b, 4, none⟩ (.slice none 0 0) := by
  have hbl : b < w.heap.size := World.block_lt_of_cell? w _ h3
  have HBA := Lib.hid (build_any b g cap w hg h4 hc)
  have H3 := Lib.hid h3
  have H4 := Lib.hid h4
  clear hc h3 h4
  go_enter Tryz.func70, Tryz.ntmps70
  go_wp2_with fail
  refine HBA.out.mono ?_
  rintro e w1 ⟨rfl, hr, hb⟩
  have k3 := (hb.cell (p := ⟨b, 3, none⟩) hbl).trans H3.out
  have k4 := (hb.cell (p := ⟨b, 4, none⟩) hbl).trans H4.out
  have z3 := (hb.frozen (p := ⟨b, 3, none⟩) hbl).trans f3
  have z4 := (hb.frozen (p := ⟨b, 4, none⟩) hbl).trans f4
  have HQ := Lib.hid (And.intro hr hb)
  clear hr hb HBA
  go_wp2_with fail
  go_end0
  exact ⟨rfl, w1, HQ.out.1, HQ.out.2, rfl⟩

theorem rep_method (n : Nat) (a : Addr) (w : World) : (method (n + 3) 153 (.pointer (some a)) "Replace").run Tryz.prog w = .ok (163, .pointer (some a)) w := by kernel_rfl

set_option maxHeartbeats 2000000 in
set_option maxRecDepth 100000 in
/-- a new Replacer's Replace -/
theorem replace_any (w : World) (b g cap : Nat) (s : ByteArray) (hs : s.size ≤ 4194304) (hg : g < w.heap.size)
    (hb : w.heap[b]? = some (.cells #[.int .u32 0, .int .i32 0, .int .u32 0, .nilIface, .slice (some ⟨g, 0, none⟩) 4 cap] 105 (0, 0))) (hc : ∀ j u, rpO[j]? = some u → w.cell? ⟨g, j, none⟩ = some u) (hgb : g ≠ b) :
    Calls Tryz.prog 62 #[.pointer (some ⟨b, 0, none⟩), .string s] w fun e w' => e = .returned (.string (escS s)) ∧ Below b w w' := by
  have hbl : b < w.heap.size := by
    rcases Nat.lt_or_ge b w.heap.size with h | h
    · exact h
    · rw [Array.getElem?_eq_none h] at hb; cases hb
  have c0 : w.cell? ⟨b, 0, none⟩ = some (.int .u32 0) := (Lib.cell_of_heap hb _).trans rfl
  have c1 : w.cell? ⟨b, 1, none⟩ = some (.int .i32 0) := (Lib.cell_of_heap hb _).trans rfl
  have c3 : w.cell? ⟨b, 3, none⟩ = some .nilIface := (Lib.cell_of_heap hb _).trans rfl
  have c4 : w.cell? ⟨b, 4, none⟩ = some (.slice (some ⟨g, 0, none⟩) 4 cap) := (Lib.cell_of_heap hb _).trans rfl
  have fz := fun i => Lib.frozen_of_heap hb i
  have hm := buildOnce_any b g cap (w.setCell ⟨b, 1, none⟩ (.int .i32 1)) (by simpa using hg)
    ((World.cell?_setCell_other _ _ _ _ (by simp)).trans c4) ((World.cell?_setCell_other _ _ _ _ (by simp)).trans c3) ((World.frozen?_setCell _ _ _ _).trans (fz 3)) ((World.frozen?_setCell _ _ _ _).trans (fz 4))
    (fun j u h => (World.cell?_setCell_other _ _ _ _ (by intro q; injection q with q; exact hgb q.symm)).trans (hc j u h))
  rw [show (w.setCell ⟨b, 1, none⟩ (.int .i32 1)).heap.size = w.heap.size from by simp] at hm
  have HDO := Lib.hid (oDo_first b (fun w' => ∃ w1, RepIs w1 w.heap.size (w.heap.size + 1) ∧ Below w.heap.size (w.setCell ⟨b, 1, none⟩ (.int .i32 1)) w1 ∧ w' = (w1.setCell ⟨b, 3, none⟩ (.iface 153 (.pointer (some ⟨w.heap.size + 1, 0, none⟩)))).setCell ⟨b, 4, none⟩ (.slice none 0 0)) w c0 c1 (fz 0) (fz 1) hm (by
    rintro w' ⟨w1, _, h2, rfl⟩
    refine ⟨?_, ?_, ?_, ?_⟩
    · rw [World.cell?_setCell_other _ _ _ _ (by simp), World.cell?_setCell_other _ _ _ _ (by simp), h2.cell hbl]
      exact (World.cell?_setCell_other _ _ _ _ (by simp)).trans c0
    · rw [World.cell?_setCell_other _ _ _ _ (by simp), World.cell?_setCell_other _ _ _ _ (by simp), h2.cell hbl]
      exact World.cell?_setCell_same _ _ _ c1
    · rw [World.frozen?_setCell, World.frozen?_setCell, h2.frozen hbl, World.frozen?_setCell]
      exact fz 0
    · rw [World.frozen?_setCell, World.frozen?_setCell, h2.frozen hbl, World.frozen?_setCell]
      exact fz 1))
  have HC3 := Lib.hid c3
  clear hm c0 c1 c3 c4 hb hc
  go_enter Tryz.func62, Tryz.ntmps62
  go_wp2_with fail
  refine HDO.out.mono ?_
  rintro e w9 ⟨rfl, w8, ⟨w1, hr, hb1, rfl⟩, rfl⟩
  have k3 : (((((w1.setCell ⟨b, 3, none⟩ (.iface 153 (.pointer (some ⟨w.heap.size + 1, 0, none⟩)))).setCell ⟨b, 4, none⟩ (.slice none 0 0)).drew.setCell ⟨b, 0, none⟩ (.int .u32 1)).setCell ⟨b, 1, none⟩ (.int .i32 0))).cell? ⟨b, 3, none⟩ = some (.iface 153 (.pointer (some ⟨w.heap.size + 1, 0, none⟩))) := by
    rw [World.cell?_setCell_other _ _ _ _ (by simp), World.cell?_setCell_other _ _ _ _ (by simp), World.cell?_drew, World.cell?_setCell_other _ _ _ _ (by simp)]
    refine World.cell?_setCell_same _ _ _ ((hb1.cell (p := ⟨b, 3, none⟩) hbl).trans ((World.cell?_setCell_other _ _ _ _ (by simp)).trans HC3.out))
  have hrp : RepIs (((((w1.setCell ⟨b, 3, none⟩ (.iface 153 (.pointer (some ⟨w.heap.size + 1, 0, none⟩)))).setCell ⟨b, 4, none⟩ (.slice none 0 0)).drew.setCell ⟨b, 0, none⟩ (.int .u32 1)).setCell ⟨b, 1, none⟩ (.int .i32 0))) w.heap.size (w.heap.size + 1) := hr.keep fun p v hp hv => by
    have hn : ∀ j, (⟨b, j, none⟩ : Addr) ≠ p := fun j e => by rw [← e] at hp; exact absurd hp (by show ¬ w.heap.size ≤ b; omega)
    rw [World.cell?_setCell_other _ _ _ _ (hn 1), World.cell?_setCell_other _ _ _ _ (hn 0), World.cell?_drew, World.cell?_setCell_other _ _ _ _ (hn 4), World.cell?_setCell_other _ _ _ _ (hn 3)]
    exact hv
  have hbe : Below b w (((((w1.setCell ⟨b, 3, none⟩ (.iface 153 (.pointer (some ⟨w.heap.size + 1, 0, none⟩)))).setCell ⟨b, 4, none⟩ (.slice none 0 0)).drew.setCell ⟨b, 0, none⟩ (.int .u32 1)).setCell ⟨b, 1, none⟩ (.int .i32 0))) :=
    (((((((Below.refl b w).setCell (p := ⟨b, 1, none⟩) (Nat.le_refl _) _).trans (hb1.mono (by omega))).setCell (p := ⟨b, 3, none⟩) (Nat.le_refl _) _).setCell (p := ⟨b, 4, none⟩) (Nat.le_refl _) _).drew).setCell (p := ⟨b, 0, none⟩) (Nat.le_refl _) _).setCell (p := ⟨b, 1, none⟩) (Nat.le_refl _) _
  have hsz := hbe.size
  generalize (((((w1.setCell ⟨b, 3, none⟩ (.iface 153 (.pointer (some ⟨w.heap.size + 1, 0, none⟩)))).setCell ⟨b, 4, none⟩ (.slice none 0 0)).drew.setCell ⟨b, 0, none⟩ (.int .u32 1)).setCell ⟨b, 1, none⟩ (.int .i32 0))) = W at k3 hrp hbe hsz ⊢
  have HRA := Lib.hid (rep_any (w.heap.size + 1) w.heap.size s W hrp hs)
  have HBE := Lib.hid hbe
  have HSZ := Lib.hid hsz
  have hme := rep_method
  clear hr hb1 hrp hbe hsz HDO
  go_wp2_with fail
  refine HRA.out.mono ?_
  rintro e w2 ⟨rfl, hb2⟩
  have HB2 : Hid (Below b w w2) := HBE.out.trans (hb2.mono (by have := HSZ.out; omega))
  clear hb2
  go_wp2_with fail
  go_ret
  exact ⟨rfl, HB2.out⟩
end Go.Proofs.YtinllchioeldbaaGreatDoor
namespace Go.Proofs.YtinllchioeldbaaGreatDoor
open Go.RowKit

theorem ret_int' {k : IntKind} {a b : Int} (h : a = b) : Ending.returned (.int k a) = .returned (.int k b) := by rw [h]

set_option maxHeartbeats 1000000 in
theorem cmpInt_any (a b : Int) (w : World) : Calls Tryz.prog 37 #[.int .i64 a, .int .i64 b] w fun e w' => e = .returned (.int .i64 (c3 a b)) ∧ w = w' := by
  have hc : a < b ∧ c3 a b = -1 ∨ b < a ∧ c3 a b = 1 ∨ a = b ∧ c3 a b = 0 := by
    unfold c3
    repeat' split
    all_goals omega
  rcases hc with ⟨h, hv⟩ | ⟨h, hv⟩ | ⟨rfl, hv⟩
  all_goals
    rw [hv]
    clear hv
    go_enter Tryz.func37, Tryz.ntmps37
    go_wp2
    go_ret
    exact ⟨rfl, rfl⟩

def orI (a b : Int) : Int := if a = 0 then b else a
set_option maxHeartbeats 1000000 in
theorem or_two (a b : Int) (g : Nat) (cap : Nat) (w : World) (c0 : w.cell? ⟨g, 0, none⟩ = some (.int .i64 a)) (c1 : w.cell? ⟨g, 1, none⟩ = some (.int .i64 b)) :
    Calls Tryz.prog 36 #[.slice (some ⟨g, 0, none⟩) 2 cap] w fun e w' => e = .returned (.int .i64 (orI a b)) ∧ w = w' := by
  go_enter Tryz.func36, Tryz.ntmps36
  go_wp2
  go_loop [8] (fun i => i = .int .i64 0 ∨ (i = .int .i64 1 ∧ Hid (a = 0)) ∨ (i = .int .i64 2 ∧ Hid (a = 0) ∧ Hid (b = 0))) (fun i => (2 - intOf i).toNat)
  case atStart => exact .inl rfl
  case round =>
    rcases hrel with rfl | ⟨rfl, ha⟩ | ⟨rfl, ha, hb⟩
    · by_cases ha : a = 0
      · have hn : (a != 0) = false := by simpa using ha
        have HA : Hid (a = 0) := ha
        clear ha
        go_wp2
        go_round
        case rel => exact .inr (.inl ⟨rfl, HA⟩)
        case measure => simp [intOf]
      · have hn : (a != 0) = true := by simpa using ha
        have HA := Lib.hid ha
        clear ha
        go_wp2
        go_ret
        exact ⟨ret_int' (by unfold orI; rw [if_neg HA.out]), rfl⟩
    · by_cases hb : b = 0
      · have hn : (b != 0) = false := by simpa using hb
        have HB : Hid (b = 0) := hb
        clear hb
        go_wp2
        go_round
        case rel => exact .inr (.inr ⟨rfl, ha, HB⟩)
        case measure => simp [intOf]
      · have hn : (b != 0) = true := by simpa using hb
        have HB := Lib.hid hb
        clear hb
        go_wp2
        go_ret
        exact ⟨ret_int' (by unfold orI; rw [if_pos ha.out]), rfl⟩
    · go_wp2
      go_ret
      exact ⟨ret_int' (by unfold orI; rw [if_pos ha.out, hb.out]), rfl⟩
end Go.Proofs.YtinllchioeldbaaGreatDoor
namespace Go.Proofs.YtinllchioeldbaaGreatDoor
open Go.RowKit

theorem ctlB_low {c : UInt8} (h : (c.toNat : Int) < 32) : ctlB c = true := by unfold ctlB; simp; omega
theorem ctlB_del {c : UInt8} (h : ((c.toNat : Int) == 127) = true) : ctlB c = true := by unfold ctlB; simp at h ⊢; omega
theorem ctlB_not {c : UInt8} (h : (32 : Int) ≤ c.toNat) (h' : ((c.toNat : Int) == 127) = false) : ctlB c = false := by unfold ctlB; simp at h' ⊢; omega
theorem ctlB_ways (c : UInt8) : (c.toNat : Int) < 32 ∨ ((32 : Int) ≤ c.toNat ∧ ((c.toNat : Int) == 127) = true) ∨ ((32 : Int) ≤ c.toNat ∧ ((c.toNat : Int) == 127) = false) := by
  cases h : ((c.toNat : Int) == 127) <;> simp <;> omega

set_option maxHeartbeats 400000 in
theorem hasControl_any (s : ByteArray) (w : World) (hs : s.size ≤ 140737488351232) :
    Calls Tryz.prog 56 #[.string s] w fun e w' => e = .returned (.bool (ctl s)) ∧ w = w' := by
  go_enter Tryz.func56, Tryz.ntmps56
  go_wp2
  go_loop [6] (fun i => ∃ k : Nat, k ≤ s.size ∧ i = .int .i64 k ∧ ctlTo s k) (fun i => s.size - (intOf i).toNat)
  case atStart => exact ⟨0, Nat.zero_le _, rfl, fun j _ h => absurd h (by omega)⟩
  case round =>
    obtain ⟨k, hk, rfl, ht⟩ := hrel
    by_cases hlt : k < s.size
    · have H1 := Lib.hid (ctl_yes s k hlt)
      have H2 := Lib.hid (ctlTo_succ s k hlt ht)
      clear ht
      rcases ctlB_ways s[k] with g | ⟨g, g'⟩ | ⟨g, g'⟩
      · go_wp2
        go_ret
        exact ⟨ret_bool' (H1.out (ctlB_low g)).symm, rfl⟩
      · go_wp2
        go_ret
        exact ⟨ret_bool' (H1.out (ctlB_del g')).symm, rfl⟩
      · go_wp2
        go_round
        case rel => exact ⟨k + 1, by omega, by go_num, H2.out (ctlB_not g g')⟩
        case measure => simp [intOf]; omega
    · obtain rfl : k = s.size := by omega
      have H := Lib.hid (ctl_no s ht)
      clear ht
      go_wp2
      go_ret
      exact ⟨ret_bool' H.out.symm, rfl⟩

end Go.Proofs.YtinllchioeldbaaGreatDoor
namespace Go.Proofs.YtinllchioeldbaaGreatDoor
open Go.RowKit

def chkE (s : ByteArray) : Int := if 2000 < s.size then 4 else if ctl s = true then 9 else 0
set_option maxHeartbeats 400000 in
theorem check_any (s : ByteArray) (w : World) (hs : s.size ≤ 140737488351232) :
    Calls Tryz.prog 39 #[.string s] w fun e w' => e = .returned (.int .i64 (chkE s)) ∧ w = w' := by
  by_cases h : 2000 < s.size
  · have HV : Hid (chkE s = 4) := by show _ = _; unfold chkE; rw [if_pos h]
    have h' : (2000 : Int) < (s.size : Int) := by omega
    clear h
    go_enter Tryz.func39, Tryz.ntmps39
    go_wp2
    go_ret
    exact ⟨by rw [HV.out]; rfl, rfl⟩
  · have h' : ¬ (2000 : Int) < (s.size : Int) := by omega
    cases hc : ctl s
    · have HV : Hid (chkE s = 0) := by show _ = _; unfold chkE; rw [if_neg h, if_neg (by rw [hc]; decide)]
      clear h
      go_enter Tryz.func39, Tryz.ntmps39
      go_wp2_with fail
      refine (hasControl_any s _ hs).mono ?_
      rintro e w1 ⟨rfl, hw⟩
      rw [hc, ← hw]
      clear hw
      go_wp2
      go_ret
      exact ⟨by rw [HV.out]; rfl, rfl⟩
    · have HV : Hid (chkE s = 9) := by show _ = _; unfold chkE; rw [if_neg h, if_pos hc]
      clear h
      go_enter Tryz.func39, Tryz.ntmps39
      go_wp2_with fail
      refine (hasControl_any s _ hs).mono ?_
      rintro e w1 ⟨rfl, hw⟩
      rw [hc, ← hw]
      clear hw
      go_wp2
      go_ret
      exact ⟨by rw [HV.out]; rfl, rfl⟩
end Go.Proofs.YtinllchioeldbaaGreatDoor
namespace Go.Proofs.YtinllchioeldbaaGreatDoor
open Go.RowKit

set_option maxHeartbeats 400000 in
theorem below_any (s : ByteArray) (w : World) (hs : s.size ≤ 140737488351232) :
    Calls Tryz.prog 24 #[.string s] w fun e w' => e = .returned (.bool (ctl s)) ∧ w = w' := by
  go_enter Tryz.func24, Tryz.ntmps24
  go_wp2
  go_loop [3] (fun i => ∃ k : Nat, k ≤ s.size ∧ i = .int .i64 k ∧ ctlTo s k) (fun i => s.size - (intOf i).toNat)
  case atStart => exact ⟨0, Nat.zero_le _, rfl, fun j _ h => absurd h (by omega)⟩
  case round =>
    obtain ⟨k, hk, rfl, ht⟩ := hrel
    by_cases hlt : k < s.size
    · have H1 := Lib.hid (ctl_yes s k hlt)
      have H2 := Lib.hid (ctlTo_succ s k hlt ht)
      clear ht
      rcases ctlB_ways s[k] with g | ⟨g, g'⟩ | ⟨g, g'⟩
      · go_wp2
        go_ret
        exact ⟨ret_bool' (H1.out (ctlB_low g)).symm, rfl⟩
      · go_wp2
        go_ret
        exact ⟨ret_bool' (H1.out (ctlB_del g')).symm, rfl⟩
      · go_wp2
        go_round
        case rel => exact ⟨k + 1, by omega, by go_num, H2.out (ctlB_not g g')⟩
        case measure => simp [intOf]; omega
    · obtain rfl : k = s.size := by omega
      have H := Lib.hid (ctl_no s ht)
      clear ht
      go_wp2
      go_ret
      exact ⟨ret_bool' H.out.symm, rfl⟩

end Go.Proofs.YtinllchioeldbaaGreatDoor
namespace Go.Proofs.YtinllchioeldbaaGreatDoor
open Go.RowKit

set_option maxHeartbeats 400000 in
theorem inRange_any (n a b : Int) (w : World) :
    Calls Tryz.prog 21 #[.int .i64 n, .int .i64 a, .int .i64 b] w fun e w' => e = .returned (.bool (decide (a ≤ n ∧ n ≤ b))) ∧ w' = w := by
  by_cases h1 : a ≤ n
  · by_cases h2 : n ≤ b
    · rw [decide_eq_true ⟨h1, h2⟩]
      go_enter Tryz.func21, Tryz.ntmps21
      go_wp2
      go_ret
      exact ⟨rfl, rfl⟩
    · rw [decide_eq_false (fun h => h2 h.2)]
      go_enter Tryz.func21, Tryz.ntmps21
      go_wp2
      go_ret
      exact ⟨rfl, rfl⟩
  · rw [decide_eq_false (fun h => h1 h.1)]
    go_enter Tryz.func21, Tryz.ntmps21
    go_wp2
    go_ret
    exact ⟨rfl, rfl⟩
set_option maxHeartbeats 400000 in
theorem textError_any (s : ByteArray) (w : World) :
    Calls Tryz.prog 23 #[.string s] w fun e w' => e = .returned (.int .i64 (txErr s)) ∧ w' = w := by
  by_cases h1 : 2000 < s.size
  · have hv : txErr s = 4 := if_pos h1
    rw [hv]
    have h1' : (2000 : Int) < (s.size : Int) := by omega
    clear hv
    go_enter Tryz.func23, Tryz.ntmps23
    go_wp2_with fail
    go_ret
    exact ⟨rfl, rfl⟩
  · have h1' : ¬ (2000 : Int) < (s.size : Int) := by omega
    have hv : txErr s = if ctl s = true then 9 else 0 := if_neg h1
    rw [hv]
    have HB := Lib.hid (below_any s w (by omega))
    obtain ⟨q, hq⟩ : ∃ q, q = ctl s := ⟨_, rfl⟩
    rw [← hq] at HB ⊢
    clear hv hq
    go_enter Tryz.func23, Tryz.ntmps23
    go_wp2_with fail
    refine HB.out.mono ?_
    rintro e w1 ⟨rfl, rfl⟩
    cases q
    · go_wp2_with fail
      go_ret
      exact ⟨rfl, rfl⟩
    · go_wp2_with fail
      go_ret
      exact ⟨rfl, rfl⟩
/-- text.Check, whatever the length -/
theorem checkT_any (s : ByteArray) (w : World) :
    Calls Tryz.prog 39 #[.string s] w fun e w' => e = .returned (.int .i64 (txErr s)) ∧ w' = w := by
  by_cases h : s.size ≤ 140737488351232
  · exact (check_any s w h).mono fun e w' ⟨h1, h2⟩ => ⟨h1, h2.symm⟩
  · have hv : txErr s = 4 := if_pos (by omega)
    rw [hv]
    have h' : (2000 : Int) < (s.size : Int) := by omega
    clear h hv
    go_enter Tryz.func39, Tryz.ntmps39
    go_wp2
    go_ret
    exact ⟨rfl, rfl⟩
end Go.Proofs.YtinllchioeldbaaGreatDoor
