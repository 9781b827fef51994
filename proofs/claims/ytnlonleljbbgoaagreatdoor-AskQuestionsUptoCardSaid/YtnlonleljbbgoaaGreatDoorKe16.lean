/-
  DERIVED. The walk of a Replacer's Replace, right behind NewReplacer: the text escaped. Conditions: the text's length.
  The walks of prop.written and prop.Text, to the byte. Conditions: the value is right; the table of powers of ten is laid.
  By an AI agent.
-/
import Derived.Test.YtnlonleljbbgoaaGreatDoorKe12
import Derived.Test.YtnlonleljbbgoaaGreatDoorKe13
import Derived.Test.YtnlonleljbbgoaaGreatDoorKe06
import Derived.Test.YtnlonleljbbgoaaGreatDoorKe14
import Derived.Deep.RegionHeld3
namespace Go.Proofs.YtnlonleljbbgoaaGreatDoor
open Go.RowKit

set_option maxHeartbeats 1000000 in
set_option maxRecDepth 100000 in
theorem buildOnce_any (b g cap : Nat) (w : World) (hg : g < w.heap.size) (h4 : w.cell? ⟨b, 4, none⟩ = some (.slice (some ⟨g, 0, none⟩) 4 cap)) (h3 : w.cell? ⟨b, 3, none⟩ = some .nilIface) (f3 : w.frozen? ⟨b, 3, none⟩ = false) (f4 : w.frozen? ⟨b, 4, none⟩ = false) (hc : ∀ j u, rpO[j]? = some u → w.cell? ⟨g, j, none⟩ = some u) :
    Calls Tryz.prog 150 #[.pointer (some ⟨b, 0, none⟩)] w fun e w' => e = .returned (.tuple #[]) ∧ ∃ w1, RepIs w1 w.heap.size (w.heap.size + 1) ∧ Below w.heap.size w w1 ∧ w' = (w1.setCell ⟨b, 3, none⟩ (.iface 247 (.pointer (some ⟨w.heap.size + 1, 0, none⟩)))).setCell ⟨b, 4, none⟩ (.slice none 0 0) := by
  have hbl : b < w.heap.size := World.block_lt_of_cell? w _ h3
  have HBA := Lib.hid (build_any b g cap w hg h4 hc)
  have H3 := Lib.hid h3
  have H4 := Lib.hid h4
  clear hc h3 h4
  go_enter Tryz.func150, Tryz.ntmps150
  go_wp2_with fail
  refine HBA.out.mono ?_
  rintro e w1 ⟨rfl, hr, hb⟩
  have k3 := (hb.cell (p := ⟨b, 3, none⟩) hbl).trans H3.out
  have k4 := (hb.cell (p := ⟨b, 4, none⟩) hbl).trans H4.out
  have z3 := (hb.frozen (p := ⟨b, 3, none⟩) hbl).trans f3
  have z4 := (hb.frozen (p := ⟨b, 4, none⟩) hbl).trans f4
  have HQ := Lib.hid (And.intro hr hb)
  clear hr hb HBA
  go_wp2_with fail
  go_end0
  exact ⟨rfl, w1, HQ.out.1, HQ.out.2, rfl⟩

theorem rep_method (n : Nat) (a : Addr) (w : World) : (method (n + 3) 247 (.pointer (some a)) "Replace").run Tryz.prog w = .ok (346, .pointer (some a)) w := by kernel_rfl

set_option maxHeartbeats 2000000 in
set_option maxRecDepth 100000 in
/-- a new Replacer's Replace -/
theorem replace_any (w : World) (b g cap : Nat) (s : ByteArray) (hs : s.size ≤ 4194304) (hg : g < w.heap.size)
    (hb : w.heap[b]? = some (.cells #[.int .u32 0, .int .i32 0, .int .u32 0, .nilIface, .slice (some ⟨g, 0, none⟩) 4 cap] 183 (0, 0))) (hc : ∀ j u, rpO[j]? = some u → w.cell? ⟨g, j, none⟩ = some u) (hgb : g ≠ b) :
    Calls Tryz.prog 111 #[.pointer (some ⟨b, 0, none⟩), .string s] w fun e w' => e = .returned (.string (escS s)) ∧ Below b w w' := by
  have hbl : b < w.heap.size := by
    rcases Nat.lt_or_ge b w.heap.size with h | h
    · exact h
    · rw [Array.getElem?_eq_none h] at hb; cases hb
  have c0 : w.cell? ⟨b, 0, none⟩ = some (.int .u32 0) := (Lib.cell_of_heap hb _).trans rfl
  have c1 : w.cell? ⟨b, 1, none⟩ = some (.int .i32 0) := (Lib.cell_of_heap hb _).trans rfl
  have c3 : w.cell? ⟨b, 3, none⟩ = some .nilIface := (Lib.cell_of_heap hb _).trans rfl
  have c4 : w.cell? ⟨b, 4, none⟩ = some (.slice (some ⟨g, 0, none⟩) 4 cap) := (Lib.cell_of_heap hb _).trans rfl
  have fz := fun i => Lib.frozen_of_heap hb i
  have hm := buildOnce_any b g cap (w.setCell ⟨b, 1, none⟩ (.int .i32 1)) (by simpa using hg)
    ((World.cell?_setCell_other _ _ _ _ (by simp)).trans c4) ((World.cell?_setCell_other _ _ _ _ (by simp)).trans c3) ((World.frozen?_setCell _ _ _ _).trans (fz 3)) ((World.frozen?_setCell _ _ _ _).trans (fz 4))
    (fun j u h => (World.cell?_setCell_other _ _ _ _ (by intro q; injection q with q; exact hgb q.symm)).trans (hc j u h))
  rw [show (w.setCell ⟨b, 1, none⟩ (.int .i32 1)).heap.size = w.heap.size from by simp] at hm
  have HDO := Lib.hid (oDo_first b (fun w' => ∃ w1, RepIs w1 w.heap.size (w.heap.size + 1) ∧ Below w.heap.size (w.setCell ⟨b, 1, none⟩ (.int .i32 1)) w1 ∧ w' = (w1.setCell ⟨b, 3, none⟩ (.iface 247 (.pointer (some ⟨w.heap.size + 1, 0, none⟩)))).setCell ⟨b, 4, none⟩ (.slice none 0 0)) w c0 c1 (fz 0) (fz 1) hm (by
    rintro w' ⟨w1, _, h2, rfl⟩
    refine ⟨?_, ?_, ?_, ?_⟩
    · rw [World.cell?_setCell_other _ _ _ _ (by simp), World.cell?_setCell_other _ _ _ _ (by simp), h2.cell hbl]
      exact (World.cell?_setCell_other _ _ _ _ (by simp)).trans c0
    · rw [World.cell?_setCell_other _ _ _ _ (by simp), World.cell?_setCell_other _ _ _ _ (by simp), h2.cell hbl]
      exact World.cell?_setCell_same _ _ _ c1
    · rw [World.frozen?_setCell, World.frozen?_setCell, h2.frozen hbl, World.frozen?_setCell]
      exact fz 0
    · rw [World.frozen?_setCell, World.frozen?_setCell, h2.frozen hbl, World.frozen?_setCell]
      exact fz 1))
  have HC3 := Lib.hid c3
  clear hm c0 c1 c3 c4 hb hc
  go_enter Tryz.func111, Tryz.ntmps111
  go_wp2_with fail
  refine HDO.out.mono ?_
  rintro e w9 ⟨rfl, w8, ⟨w1, hr, hb1, rfl⟩, rfl⟩
  have k3 : (((((w1.setCell ⟨b, 3, none⟩ (.iface 247 (.pointer (some ⟨w.heap.size + 1, 0, none⟩)))).setCell ⟨b, 4, none⟩ (.slice none 0 0)).drew.setCell ⟨b, 0, none⟩ (.int .u32 1)).setCell ⟨b, 1, none⟩ (.int .i32 0))).cell? ⟨b, 3, none⟩ = some (.iface 247 (.pointer (some ⟨w.heap.size + 1, 0, none⟩))) := by
    rw [World.cell?_setCell_other _ _ _ _ (by simp), World.cell?_setCell_other _ _ _ _ (by simp), World.cell?_drew, World.cell?_setCell_other _ _ _ _ (by simp)]
    refine World.cell?_setCell_same _ _ _ ((hb1.cell (p := ⟨b, 3, none⟩) hbl).trans ((World.cell?_setCell_other _ _ _ _ (by simp)).trans HC3.out))
  have hrp : RepIs (((((w1.setCell ⟨b, 3, none⟩ (.iface 247 (.pointer (some ⟨w.heap.size + 1, 0, none⟩)))).setCell ⟨b, 4, none⟩ (.slice none 0 0)).drew.setCell ⟨b, 0, none⟩ (.int .u32 1)).setCell ⟨b, 1, none⟩ (.int .i32 0))) w.heap.size (w.heap.size + 1) := hr.keep fun p v hp hv => by
    have hn : ∀ j, (⟨b, j, none⟩ : Addr) ≠ p := fun j e => by rw [← e] at hp; exact absurd hp (by show ¬ w.heap.size ≤ b; omega)
    rw [World.cell?_setCell_other _ _ _ _ (hn 1), World.cell?_setCell_other _ _ _ _ (hn 0), World.cell?_drew, World.cell?_setCell_other _ _ _ _ (hn 4), World.cell?_setCell_other _ _ _ _ (hn 3)]
    exact hv
  have hbe : Below b w (((((w1.setCell ⟨b, 3, none⟩ (.iface 247 (.pointer (some ⟨w.heap.size + 1, 0, none⟩)))).setCell ⟨b, 4, none⟩ (.slice none 0 0)).drew.setCell ⟨b, 0, none⟩ (.int .u32 1)).setCell ⟨b, 1, none⟩ (.int .i32 0))) :=
    (((((((Below.refl b w).setCell (p := ⟨b, 1, none⟩) (Nat.le_refl _) _).trans (hb1.mono (by omega))).setCell (p := ⟨b, 3, none⟩) (Nat.le_refl _) _).setCell (p := ⟨b, 4, none⟩) (Nat.le_refl _) _).drew).setCell (p := ⟨b, 0, none⟩) (Nat.le_refl _) _).setCell (p := ⟨b, 1, none⟩) (Nat.le_refl _) _
  have hsz := hbe.size
  generalize (((((w1.setCell ⟨b, 3, none⟩ (.iface 247 (.pointer (some ⟨w.heap.size + 1, 0, none⟩)))).setCell ⟨b, 4, none⟩ (.slice none 0 0)).drew.setCell ⟨b, 0, none⟩ (.int .u32 1)).setCell ⟨b, 1, none⟩ (.int .i32 0))) = W at k3 hrp hbe hsz ⊢
  have HRA := Lib.hid (rep_any (w.heap.size + 1) w.heap.size s W hrp hs)
  have HBE := Lib.hid hbe
  have HSZ := Lib.hid hsz
  have hme := rep_method
  clear hr hb1 hrp hbe hsz HDO
  go_wp2_with fail
  refine HRA.out.mono ?_
  rintro e w2 ⟨rfl, hb2⟩
  have HB2 : Hid (Below b w w2) := HBE.out.trans (hb2.mono (by have := HSZ.out; omega))
  clear hb2
  go_wp2_with fail
  go_ret
  exact ⟨rfl, HB2.out⟩
end Go.Proofs.YtnlonleljbbgoaaGreatDoor
namespace Go.Proofs.YtnlonleljbbgoaaGreatDoor
open Go.RowKit

mutual
/-- a value as a text -/
noncomputable def wrV : Vl → ByteArray
  | .mk k i t s l => if k = 1 then (if i = 0 then ⟨#[110, 111]⟩ else ⟨#[121, 101, 115]⟩) else if k = 2 then wd i else if k = 3 then quoS s else if k = 4 then dtS i else if k = 5 then dtS i ++ ⟨#[46, 46]⟩ ++ dtS t else if k = 6 then ⟨#[91, 91]⟩ ++ s ++ ⟨#[93, 93]⟩ else if k = 7 then ⟨#[91]⟩ ++ joinB (wrL l) ⟨#[44, 32]⟩ ++ ⟨#[93]⟩ else ⟨#[45]⟩
noncomputable def wrL : List Vl → List ByteArray
  | [] => []
  | x :: l => wrV x :: wrL l
end
theorem wrL_map : ∀ l : List Vl, wrL l = l.map wrV
  | [] => by rw [wrL]; rfl
  | x :: l => by rw [wrL, wrL_map l]; rfl
theorem wrV_eq (x : Vl) : wrV x = if x.kind = 1 then (if x.int_ = 0 then ⟨#[110, 111]⟩ else ⟨#[121, 101, 115]⟩) else if x.kind = 2 then wd x.int_ else if x.kind = 3 then quoS x.text else if x.kind = 4 then dtS x.int_ else if x.kind = 5 then dtS x.int_ ++ ⟨#[46, 46]⟩ ++ dtS x.to_ else if x.kind = 6 then ⟨#[91, 91]⟩ ++ x.text ++ ⟨#[93, 93]⟩ else if x.kind = 7 then ⟨#[91]⟩ ++ joinB (x.items.map wrV) ⟨#[44, 32]⟩ ++ ⟨#[93]⟩ else ⟨#[45]⟩ := by
  cases x; rw [wrV, wrL_map]; rfl

/-- what a right value is -/
theorem vErr_zero {x : Vl} (h : vErr x = 0) : (0 ≤ x.kind ∧ x.kind ≤ 7) ∧ nuErr x.kind x.int_ x.to_ = 0 ∧ x.text.size ≤ 2000 ∧ x.items.length ≤ 20 ∧ itErr x.items = 0 := by
  rw [vErr_eq] at h
  cases h0 : outI x.kind 0 7
  case true => rw [h0, if_pos rfl] at h; cases h
  rw [h0, if_neg (by decide)] at h
  cases h1 : ufB x
  case false => rw [h1, if_pos rfl] at h; cases h
  rw [h1, if_neg (by decide)] at h
  by_cases h2 : nuErr x.kind x.int_ x.to_ = 0
  case neg => rw [if_pos h2] at h; exact absurd h h2
  rw [if_neg (fun e => e h2)] at h
  by_cases h3 : ttErr (x.kind == 6) x.text = 0
  case neg => rw [if_pos h3] at h; exact absurd h h3
  rw [if_neg (fun e => e h3)] at h
  by_cases h4 : 20 < x.items.length
  case pos => rw [if_pos h4] at h; cases h
  rw [if_neg h4] at h
  refine ⟨?_, h2, ?_, by omega, h⟩
  · unfold outI at h0
    have := of_decide_eq_false h0
    omega
  · unfold ttErr at h3
    by_cases h5 : 2000 < x.text.size
    · rw [if_pos h5] at h3; cases h3
    · omega
theorem itErr_mem : ∀ {l : List Vl}, itErr l = 0 → ∀ x ∈ l, vErr x = 0 ∧ x.kind ≠ 7 ∧ x.kind ≠ 0
  | [], _, x, hx => by cases hx
  | y :: l, h, x, hx => by
    rw [itErr] at h
    cases h0 : (y.kind == 0)
    case true => rw [h0, if_pos rfl] at h; cases h
    rw [h0, if_neg (by decide)] at h
    cases h7 : (y.kind == 7)
    case true => rw [h7, if_pos rfl] at h; cases h
    rw [h7, if_neg (by decide)] at h
    by_cases hv : vErr y = 0
    case neg => rw [if_pos hv] at h; exact absurd h hv
    rw [if_neg (fun e => e hv)] at h
    rcases List.mem_cons.1 hx with rfl | hx
    · exact ⟨hv, by simpa using h7, by simpa using h0⟩
    · exact itErr_mem h x hx
theorem wd_size21 {n : Int} (h : n.natAbs ≤ 1000000000) : (wd n).size ≤ 21 := by
  have := dd_len 9 n.natAbs (by omega)
  rw [wd_len]
  unfold Lib.itoa
  split
  · rw [List.length_cons]; omega
  · rw [show n.toNat = n.natAbs by omega]; omega
set_option maxHeartbeats 4000000 in
set_option maxRecDepth 100000 in
theorem written_str (i t : Int) (s : ByteArray) (A : Option Addr) (n c : Nat) (w : World) (hs : s.size ≤ 2000) :
    Calls Tryz.prog 112 #[.agg #[.int .i64 3, .int .i64 i, .int .i64 t, .string s, .slice A n c]] w fun e w' => e = .returned (.string (quoS s)) ∧ Below w.heap.size w w' := by
  have hq := quoS_eq s
  have hes := escS_size s
  have HRP := Lib.hid fun w b g cap h1 h2 h3 h4 => replace_any w b g cap s (by omega) h1 h2 h3 h4
  obtain ⟨S, hS⟩ : ∃ S, S = escS s := ⟨_, rfl⟩
  rw [← hS] at hq hes HRP
  have hes2 : S.size ≤ 4000 := by omega
  rw [← hq]
  clear hq hS hes
  go_enter Tryz.func112, Tryz.ntmps112
  go_upto_region 7 with fail
  have hbX : Below w.heap.size w (w.alloc (.cells #[.int .i64 3, .int .i64 i, .int .i64 t, .string s, .slice A n c] 24)) := (Below.refl _ _).alloc (Nat.le_refl _) _
  have KX := Blk.new w 24 #[.int .i64 3, .int .i64 i, .int .i64 t, .string s, .slice A n c]
  generalize (w.alloc (.cells #[.int .i64 3, .int .i64 i, .int .i64 t, .string s, .slice A n c] 24)) = X at hbX KX ⊢
  have d0 : X.cell? ⟨w.heap.size, 3, none⟩ = some (.string s) := KX.cell 3
  have hzX := KX.lt
  have z0 : ∀ o, (X.alloc o).cell? ⟨w.heap.size, 3, none⟩ = some (.string s) := fun o => (World.cell?_alloc_lt _ _ _ hzX).trans d0
  have hcY : ∀ j u, rpO[j]? = some u → (X.alloc (.cells #[.string ⟨#[34]⟩, .string ⟨#[92, 34]⟩, .string ⟨#[92]⟩, .string ⟨#[92, 92]⟩] 9)).drew.cell? ((⟨X.heap.size, 0, none⟩ : Addr).add j) = some u := fun j u h => by
    rw [World.cell?_drew, Addr.add_lit, Nat.zero_add, World.cell?_alloc_mark]
    show (rpO.toArray)[j]? = some u
    rw [List.getElem?_toArray]
    exact h
  have ha1 : ∀ W, (Op.stringOp .add ⟨#[34]⟩ S).run Tryz.prog W = .ok (.string (⟨#[34]⟩ ++ S)) W := fun W => run_string_add_sum W _ _ (by show 1 + S.size ≤ _; omega)
  have ha2 : ∀ W, (Op.stringOp .add (⟨#[34]⟩ ++ S) ⟨#[34]⟩).run Tryz.prog W = .ok (.string (⟨#[34]⟩ ++ S ++ ⟨#[34]⟩)) W := fun W => run_string_add_sum W _ _ (by rw [ByteArray.size_append]; show 1 + S.size + 1 ≤ _; omega)
  have d0' : X.drew.cell? ⟨w.heap.size, 3, none⟩ = some (.string s) := d0
  have z0' : ∀ o, (X.alloc o).drew.cell? ⟨w.heap.size, 3, none⟩ = some (.string s) := z0
  go_region_held3 (fun w' => w'.cell? ⟨w.heap.size, 3, none⟩ = some (.string s))
    (first | with_reducible exact d0 | with_reducible exact d0' | with_reducible exact z0 _ | with_reducible exact z0' _ | with_reducible exact t0 | with_reducible exact r0)
    (first
      | (go_at_call 110; refine (newReplacer_any ⟨X.heap.size, 0, none⟩ 4 _ hcY).mono ?_; rintro e w2 ⟨b, g, cap, rfl, hb1, hg1, hblk, hcl, hgb, hbel⟩; have hgl : g < w2.heap.size := (World.block_lt_of_cell? w2 _ (hcl 0 _ rfl)); have hbY : Below X.heap.size X w2 := ((Below.refl _ _).alloc (Nat.le_refl _) _).drew.trans (hbel.mono (by simp)); have t0 : w2.cell? ⟨w.heap.size, 3, none⟩ = some (.string s) := (hbY.cell (p := ⟨w.heap.size, 3, none⟩) hzX).trans d0; have hbb : X.heap.size ≤ b := Nat.le_trans (by simp) hb1; have HC2 := Lib.hid (And.intro hblk hcl); clear hblk hcl hbel hb1 hg1)
      | (go_at_call 111; refine (HRP.out w2 b g cap hgl HC2.out.1 HC2.out.2 (Nat.ne_of_lt hgb)).mono ?_; rintro e w3 ⟨rfl, hb3⟩; have r0 : w3.cell? ⟨w.heap.size, 3, none⟩ = some (.string s) := (hb3.cell (p := ⟨w.heap.size, 3, none⟩) (by show w.heap.size < b; omega)).trans t0; have HB3 : Hid (Below w.heap.size w w3) := (hbX.trans (hbY.mono (by omega))).trans (hb3.mono (by omega)); clear hb3))
  all_goals
    go_wp2_with fail
    go_ret
    exact ⟨rfl, HB3.out⟩
set_option maxHeartbeats 4000000 in
set_option maxRecDepth 100000 in
theorem written_none (i t : Int) (s : ByteArray) (A : Option Addr) (n c : Nat) (w : World) :
    Calls Tryz.prog 112 #[.agg #[.int .i64 0, .int .i64 i, .int .i64 t, .string s, .slice A n c]] w fun e w' => e = .returned (.string ⟨#[45]⟩) ∧ Below w.heap.size w w' := by
  go_enter Tryz.func112, Tryz.ntmps112
  go_wp2_with fail
  go_ret
  exact ⟨rfl, (Below.refl _ _).alloc (Nat.le_refl _) _⟩

set_option maxHeartbeats 4000000 in
set_option maxRecDepth 100000 in
theorem written_flag (i t : Int) (s : ByteArray) (A : Option Addr) (n c : Nat) (w : World) (h0 : 0 ≤ i) (h1 : i ≤ 1) :
    Calls Tryz.prog 112 #[.agg #[.int .i64 1, .int .i64 i, .int .i64 t, .string s, .slice A n c]] w fun e w' => e = .returned (.string (if i = 0 then ⟨#[110, 111]⟩ else ⟨#[121, 101, 115]⟩)) ∧ Below w.heap.size w w' := by
  rcases (show i = 0 ∨ i = 1 by omega) with rfl | rfl
  all_goals
    clear h0 h1
    go_enter Tryz.func112, Tryz.ntmps112
    go_wp2_with fail
    go_ret
    exact ⟨rfl, ((Below.refl _ _).alloc (Nat.le_refl _) _).alloc (by simp) _⟩

set_option maxHeartbeats 4000000 in
set_option maxRecDepth 100000 in
theorem written_num (i t : Int) (s : ByteArray) (A : Option Addr) (n c : Nat) (w : World) (h : i.natAbs ≤ 1000000000) (hP : Pow w) :
    Calls Tryz.prog 112 #[.agg #[.int .i64 2, .int .i64 i, .int .i64 t, .string s, .slice A n c]] w fun e w' => e = .returned (.string (wd i)) ∧ Below w.heap.size w w' := by
  have HI := Lib.hid (itoaN_any i (by omega) (by omega) _ (hP.below (w' := w.alloc (.cells #[.int .i64 2, .int .i64 i, .int .i64 t, .string s, .slice A n c] 24)) ((Below.refl _ _).alloc (Nat.le_refl _) _)))
  clear hP
  go_enter Tryz.func112, Tryz.ntmps112
  go_wp2_with fail
  refine HI.out.mono ?_
  rintro e w1 ⟨rfl, hb⟩
  go_wp2_with fail
  go_ret
  exact ⟨rfl, ((Below.refl _ _).alloc (Nat.le_refl _) _).trans (hb.mono (by simp))⟩

set_option maxHeartbeats 4000000 in
set_option maxRecDepth 100000 in
theorem written_date (i t : Int) (s : ByteArray) (A : Option Addr) (n c : Nat) (w : World) (h0 : 0 ≤ i) (h1 : i ≤ 100000) (hP : Pow w) :
    Calls Tryz.prog 112 #[.agg #[.int .i64 4, .int .i64 i, .int .i64 t, .string s, .slice A n c]] w fun e w' => e = .returned (.string (dtS i)) ∧ (dtS i).size ≤ 100 ∧ Below w.heap.size w w' := by
  have HI := Lib.hid (dateText_any i _ h0 h1 (hP.below (w' := w.alloc (.cells #[.int .i64 4, .int .i64 i, .int .i64 t, .string s, .slice A n c] 24)) ((Below.refl _ _).alloc (Nat.le_refl _) _)))
  clear hP
  go_enter Tryz.func112, Tryz.ntmps112
  go_wp2_with fail
  refine HI.out.mono ?_
  rintro e w1 ⟨rfl, hsz, hb⟩
  go_wp2_with fail
  go_ret
  exact ⟨rfl, hsz, ((Below.refl _ _).alloc (Nat.le_refl _) _).trans (hb.mono (by simp))⟩

set_option maxHeartbeats 4000000 in
set_option maxRecDepth 100000 in
theorem written_span (i t : Int) (s : ByteArray) (A : Option Addr) (n c : Nat) (w : World) (h0 : 0 ≤ i) (h1 : i ≤ 100000) (h2 : 0 ≤ t) (h3 : t ≤ 100000) (hP : Pow w) :
    Calls Tryz.prog 112 #[.agg #[.int .i64 5, .int .i64 i, .int .i64 t, .string s, .slice A n c]] w fun e w' => e = .returned (.string (dtS i ++ ⟨#[46, 46]⟩ ++ dtS t)) ∧ (dtS i ++ ⟨#[46, 46]⟩ ++ dtS t).size ≤ 300 ∧ Below w.heap.size w w' := by
  have HI := Lib.hid fun W hP => dateText_any i W h0 h1 hP
  have HJ := Lib.hid fun W hP => dateText_any t W h2 h3 hP
  have HP0 : Hid (Pow (w.alloc (.cells #[.int .i64 5, .int .i64 i, .int .i64 t, .string s, .slice A n c] 24))) := hP.below ((Below.refl _ _).alloc (Nat.le_refl _) _)
  obtain ⟨S1, hS1⟩ : ∃ S, S = dtS i := ⟨_, rfl⟩
  obtain ⟨S2, hS2⟩ : ∃ S, S = dtS t := ⟨_, rfl⟩
  rw [← hS1, ← hS2]
  rw [← hS1] at HI
  rw [← hS2] at HJ
  clear hP hS1 hS2
  go_enter Tryz.func112, Tryz.ntmps112
  go_wp2_with fail
  refine (HI.out _ HP0.out).mono ?_
  rintro e w1 ⟨rfl, hs1, hb⟩
  have HB1 : Hid (Below w.heap.size w w1) := ((Below.refl _ _).alloc (Nat.le_refl _) _).trans (hb.mono (by simp))
  have HP1 := Lib.hid (HP0.out.below hb)
  have hc : w1.cell? ⟨w.heap.size, 2, none⟩ = some (.int .i64 t) := (hb.cell (p := ⟨w.heap.size, 2, none⟩) (by simp)).trans ((Blk.new w _ _).cell 2)
  clear hb
  go_wp2_with fail
  refine (HJ.out _ HP1.out).mono ?_
  rintro e w2 ⟨rfl, hs2, hb⟩
  have HB2 : Hid (Below w.heap.size w w2) := HB1.out.trans (hb.mono HB1.out.size)
  clear hb
  go_wp2_with fail
  go_ret
  refine ⟨rfl, ?_, HB2.out⟩
  simp only [ByteArray.size_append]
  show _ + 2 + _ ≤ 300
  omega

set_option maxHeartbeats 4000000 in
set_option maxRecDepth 100000 in
theorem written_link (i t : Int) (s : ByteArray) (A : Option Addr) (n c : Nat) (w : World) (hs : s.size ≤ 2000) :
    Calls Tryz.prog 112 #[.agg #[.int .i64 6, .int .i64 i, .int .i64 t, .string s, .slice A n c]] w fun e w' => e = .returned (.string (⟨#[91, 91]⟩ ++ s ++ ⟨#[93, 93]⟩)) ∧ Below w.heap.size w w' := by
  go_enter Tryz.func112, Tryz.ntmps112
  go_wp2_with fail
  go_ret
  exact ⟨rfl, (Below.refl _ _).alloc (Nat.le_refl _) _⟩

end Go.Proofs.YtnlonleljbbgoaaGreatDoor
