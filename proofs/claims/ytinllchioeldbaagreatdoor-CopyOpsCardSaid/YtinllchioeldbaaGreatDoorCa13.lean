/-
  DERIVED. The walks of a copy's kindWords, quoted and spotNumbers. Conditions: sizes; the table of powers of ten is laid.
  The walks of a copy's noValue and checkForm. Conditions: sizes.
  Same values: the reference's SameValue. Conditions: sizes.
  By an AI agent.
-/
import Derived.Test.YtinllchioeldbaaGreatDoorCa12
import Derived.Test.YtinllchioeldbaaGreatDoorCa11
import Derived.Test.YtinllchioeldbaaGreatDoorCa06
import Derived.Test.YtinllchioeldbaaGreatDoorChecked
import Derived.WalkSpells
import Derived.Deep.QuietTactic
import Derived.BigQuiet
import Derived.Deep.LoopGhost
import Derived.Deep.RegionHeld3
namespace Go.Proofs.YtinllchioeldbaaGreatDoor
open Go.RowKit

def kwL : List Value := [.string ⟨#[105, 110, 115, 101, 114, 116]⟩, .string ⟨#[109, 111, 118, 101]⟩, .string ⟨#[114, 101, 109, 111, 118, 101]⟩, .string ⟨#[116, 121, 112, 101]⟩, .string ⟨#[101, 114, 97, 115, 101]⟩, .string ⟨#[115, 101, 116]⟩]
set_option maxHeartbeats 1000000 in
theorem kindWords_any (w : World) : Calls Tryz.prog 49 #[] w fun e w' => ∃ g, e = .returned (.slice (some ⟨g, 0, none⟩) 6 6) ∧ w.heap.size ≤ g ∧ (∀ j u, kwL[j]? = some u → w'.cell? ⟨g, j, none⟩ = some u) ∧ Below w.heap.size w w' := by
  go_enter Tryz.func49, Tryz.ntmps49
  go_wp2
  go_ret
  refine ⟨w.heap.size, rfl, Nat.le_refl _, fun j u h => ?_, (Below.refl _ _).alloc (Nat.le_refl _) _⟩
  rw [World.cell?_alloc_mark]
  show (kwL.toArray)[j]? = some u
  rw [List.getElem?_toArray]
  exact h

theorem vErr_str {s : ByteArray} (h : s.size ≤ 2000) (hc : ctl s = false) : vErr (.mk 3 0 0 s []) = 0 := by
  have ht : ttErr ((3 : Int) == 6) s = 0 := by
    unfold ttErr
    rw [if_neg (by omega), if_neg (by simp), hc, if_neg (by decide), if_neg (by simp)]
  have hu : ufB (.mk 3 0 0 s []) = true := by simp [ufB, hasI, hasT, Vl.kind, Vl.int_, Vl.to_, Vl.text, Vl.items]
  have hi : itErr [] = 0 := by rw [itErr]
  rw [vErr, hu, ht, hi]
  rfl
set_option maxHeartbeats 1000000 in
theorem quotedC_any (s : ByteArray) (w : World) (h : s.size ≤ 2000) (hc : ctl s = false) (hP : Pow w) :
    Calls Tryz.prog 51 #[.string s] w fun e w' => e = .returned (.string (quoS s)) ∧ Below w.heap.size w w' := by
  have HT := Lib.hid (text_any (.mk 3 0 0 s []) none 0 0 w w.heap.size (Nat.le_refl _) ⟨0, rfl, none, 0, rfl⟩ hP)
  have hv := vErr_str h hc
  have hx : txS (.mk 3 0 0 s []) = quoS s := by
    unfold txS
    rw [if_pos hv, wrV_eq]
    rfl
  unfold TxP at HT
  rw [hx, hv] at HT
  dsimp only [AV, Vl.kind, Vl.int_, Vl.to_, Vl.text] at HT
  obtain ⟨Q, hQ⟩ : ∃ Q, Q = quoS s := ⟨_, rfl⟩
  rw [← hQ] at HT ⊢
  clear hv hx hQ h hc hP
  go_enter Tryz.func51, Tryz.ntmps51
  go_wp2_with fail
  refine HT.out.mono ?_
  rintro e w1 ⟨rfl, _, hb⟩
  go_wp2_with fail
  go_ret
  exact ⟨rfl, hb⟩
set_option maxHeartbeats 1000000 in
theorem spotNumbers_any (x : Spt) (w : World) : Calls Tryz.prog 52 #[spA x] w fun e w' => ∃ g, e = .returned (.slice (some ⟨g, 0, none⟩) 3 3) ∧ w.heap.size ≤ g ∧ Blk w' g 3 ((spN x).map (.int .i64)).toArray ∧ Below w.heap.size w w' := by
  obtain ⟨⟨a, b⟩, c⟩ := x
  dsimp only [spA, spN]
  go_enter Tryz.func52, Tryz.ntmps52
  go_wp2_with fail
  go_ret
  have hb : Below w.heap.size w (w.alloc (.cells #[.int .i64 a, .int .i64 b, .int .i64 c] 27)) := (Below.refl _ _).alloc (Nat.le_refl _) _
  refine ⟨w.heap.size + 1, rfl, by omega, ?_, hb.alloc hb.size _⟩
  have := Blk.new (w.alloc (.cells #[.int .i64 a, .int .i64 b, .int .i64 c] 27)) 3 #[.int .i64 a, .int .i64 b, .int .i64 c]
  rw [show (w.alloc (.cells #[.int .i64 a, .int .i64 b, .int .i64 c] 27)).heap.size = w.heap.size + 1 from Array.size_push _] at this
  exact this
theorem WSr.new {X w : World} (L : List ByteArray) (cs : Array Value) (hcs : cs = (L.map Value.string).toArray) (h : Below X.heap.size X w) (hl : L.length ≤ 1000) :
    WSr (w.heap.size + 1) X ((w.alloc (.cells cs 9)).alloc (.cells #[.slice (some ⟨w.heap.size, 0, none⟩) L.length L.length] 62)) L := by
  have hs := h.size
  have h1 : Below X.heap.size X (w.alloc (.cells cs 9)) := h.alloc hs _
  have hz : (w.alloc (.cells cs 9)).heap.size = w.heap.size + 1 := Array.size_push _
  refine ⟨⟨_, ?_, ⟨by simp, .inr ⟨w.heap.size, L.length, cs, rfl, hs, (Blk.new w 9 cs).alloc _, Nat.le_refl _, by unfold maxLen; omega, by rw [hcs]; simp, by rw [hcs, Nat.mul_one]; exact List.take_of_length_le (by simp)⟩⟩, ?_⟩, by omega, h1.alloc h1.size _⟩
  · have := Blk.new (w.alloc (.cells cs 9)) 62 #[.slice (some ⟨w.heap.size, 0, none⟩) L.length L.length]
    rw [hz] at this
    exact this
  · simp [Value.ownBlock]
theorem WSr.new2 {X w : World} (L : List ByteArray) (cs : Array Value) (hcs : cs = (L.map Value.string).toArray) (h : Below X.heap.size X w) (hl : L.length ≤ 1000) :
    WSr w.heap.size X ((w.alloc (.cells #[.slice (some ⟨w.heap.size + 1, 0, none⟩) L.length L.length] 62)).alloc (.cells cs 9)) L := by
  have hs := h.size
  have h1 : Below X.heap.size X (w.alloc (.cells #[.slice (some ⟨w.heap.size + 1, 0, none⟩) L.length L.length] 62)) := h.alloc hs _
  have hz : (w.alloc (.cells #[.slice (some ⟨w.heap.size + 1, 0, none⟩) L.length L.length] 62)).heap.size = w.heap.size + 1 := Array.size_push _
  refine ⟨⟨_, (Blk.new w 62 _).alloc _, ⟨by simp, .inr ⟨w.heap.size + 1, L.length, cs, rfl, by omega, ?_, Nat.le_refl _, by unfold maxLen; omega, by rw [hcs]; simp, by rw [hcs, Nat.mul_one]; exact List.take_of_length_le (by simp)⟩⟩, ?_⟩, hs, h1.alloc h1.size _⟩
  · have := Blk.new (w.alloc (.cells #[.slice (some ⟨w.heap.size + 1, 0, none⟩) L.length L.length] 62)) 9 cs
    rw [hz] at this
    exact this
  · simp [Value.ownBlock]
theorem WSr.new3 {X w : World} {gw : Nat} {v : Value} (L : List ByteArray) (cs : Array Value) (hcs : cs = (L.map Value.string).toArray) (h : Below X.heap.size X w) (hl : L.length ≤ 1000) (hb : Blk w gw 62 #[v]) (hg : X.heap.size ≤ gw) :
    WSr gw X ((w.alloc (.cells cs 9)).setCell ⟨gw, 0, none⟩ (.slice (some ⟨w.heap.size, 0, none⟩) L.length L.length)) L := by
  have hs := h.size
  have hlt := hb.lt
  have h1 : Below X.heap.size X (w.alloc (.cells cs 9)) := h.alloc hs _
  refine ⟨⟨_, (hb.alloc (.cells cs 9)).set_ 0 _, ⟨by simp, .inr ⟨w.heap.size, L.length, cs, rfl, hs, ?_, Nat.le_refl _, by unfold maxLen; omega, by rw [hcs]; simp, by rw [hcs, Nat.mul_one]; exact List.take_of_length_le (by simp)⟩⟩, ?_⟩, hg, h1.setCell (p := ⟨gw, 0, none⟩) hg _⟩
  · exact (Blk.new w 9 cs).far (p := ⟨gw, 0, none⟩) (by show w.heap.size ≠ gw; omega) _
  · simp [Value.ownBlock]
    omega
theorem Pow.keep {X w : World} (h : Pow X) (hb : Below X.heap.size X w) : Pow w := h.below hb
end Go.Proofs.YtinllchioeldbaaGreatDoor
namespace Go.Proofs.YtinllchioeldbaaGreatDoor
open Go.RowKit

set_option maxHeartbeats 1000000 in
theorem noValueC_any (x : Vl) (A : Option Addr) (n c : Nat) (w : World) (hn : n = x.items.length) :
    Calls Tryz.prog 38 #[AV (x, .slice A n c)] w fun e w' => e = .returned (.bool (noV x)) ∧ Below w.heap.size w w' := by
  obtain ⟨k, i, t, s, l⟩ := x
  dsimp only [Vl.items] at hn
  dsimp only [AV, noV, Vl.kind, Vl.int_, Vl.to_, Vl.text, Vl.items]
  rw [← hn]
  clear hn
  obtain ⟨z0, g0⟩ : ∃ q, (k == 0) = q := ⟨_, rfl⟩
  obtain ⟨z1, g1⟩ : ∃ q, (i == 0) = q := ⟨_, rfl⟩
  obtain ⟨z2, g2⟩ : ∃ q, (t == 0) = q := ⟨_, rfl⟩
  obtain ⟨z3, g3⟩ : ∃ q, s.toList.isEmpty = q := ⟨_, rfl⟩
  obtain ⟨z4, g4⟩ : ∃ q, ((n : Int) == 0) = q := ⟨_, rfl⟩
  rw [g0, g1, g2, g3, g4]
  go_enter Tryz.func38, Tryz.ntmps38
  go_wp2_with fail
  all_goals
    go_ret
    exact ⟨by simp_all, (Below.refl _ _).alloc (Nat.le_refl _) _⟩

theorem eqStampIn (d : Nat) (x0 x1 y0 y1 : Int) (w : World) : (Op.equalIn (d + 2) 23 (.agg #[.int .i64 x0, .int .i64 x1]) (.agg #[.int .i64 y0, .int .i64 y1])).run Tryz.prog w = .ok ((x0 == y0) && (x1 == y1)) w := by
  have u3 := Tryz.underlying3
  have a3 := Tryz.isAgg3
  have z3 := Tryz.sizeOf3
  have hS : Tryz.prog.underlying 23 = some (.struct (Tryz.prog.fieldsOf 23)) := by kernel_rfl
  have hp : Tryz.prog.stoodInHeld 23 = false := by kernel_rfl
  rw [run_equalIn_agg w (d + 1) 23 _ _ hS hp]
  simp only [Program.fieldsOf, Tryz.underlying23]
  obtain ⟨q0, h0⟩ : ∃ q, (x0 == y0) = q := ⟨_, rfl⟩
  obtain ⟨q1, h1⟩ : ∃ q, (x1 == y1) = q := ⟨_, rfl⟩
  rw [h0, h1]
  cases q0 <;> cases q1 <;> go_simp
@[go_sem] theorem neqStamp (x0 x1 y0 y1 : Int) (w : World) : (binOp .neq 23 (.agg #[.int .i64 x0, .int .i64 x1]) (.agg #[.int .i64 y0, .int .i64 y1])).run Tryz.prog w = .ok (.bool (!((x0 == y0) && (x1 == y1)))) w := by
  rw [run_neq_struct, show (10000 : Nat) = 9998 + 2 from rfl, eqStampIn]
  rfl
@[go_sem] theorem neqSpot (x0 x1 x2 : Int) (w : World) : (binOp .neq 27 (.agg #[.int .i64 x0, .int .i64 x1, .int .i64 x2]) (.agg #[.int .i64 0, .int .i64 0, .int .i64 0])).run Tryz.prog w = .ok (.bool (!((x0 == 0) && (x1 == 0) && (x2 == 0)))) w := by
  have u3 := Tryz.underlying3
  have a3 := Tryz.isAgg3
  have z3 := Tryz.sizeOf3
  have aS := Tryz.isAgg23
  have zS := Tryz.sizeOf23
  have hS : Tryz.prog.underlying 27 = some (.struct (Tryz.prog.fieldsOf 27)) := by kernel_rfl
  have hp : Tryz.prog.stoodInHeld 27 = false := by kernel_rfl
  have hq := fun w => eqStampIn 9997 x0 x1 0 0 w
  rw [run_neq_struct, show (10000 : Nat) = 9999 + 1 from rfl, run_equalIn_agg w 9999 27 _ _ hS hp]
  simp only [Program.fieldsOf, Tryz.underlying27]
  obtain ⟨q1, h1⟩ : ∃ q, ((x0 == 0) && (x1 == 0)) = q := ⟨_, rfl⟩
  obtain ⟨q0, h0⟩ : ∃ q, (x2 == 0) = q := ⟨_, rfl⟩
  rw [h0, h1]
  rw [h1] at hq
  cases q0 <;> cases q1 <;> go_simp

def fmE (o : COp) : Int := if outI o.kind 1 6 = true then 10 else if cFormB o = true then 1 else 0
theorem fmE_out {o : COp} (h : outI o.kind 1 6 = true) : fmE o = 10 := if_pos h
theorem fmE_yes {o : COp} (h : outI o.kind 1 6 = false) (h1 : cFormB o = true) : fmE o = 1 := (if_neg (by rw [h]; decide)).trans (if_pos h1)
theorem fmE_no {o : COp} (h : outI o.kind 1 6 = false) (h1 : cFormB o = false) : fmE o = 0 := (if_neg (by rw [h]; decide)).trans (if_neg (by rw [h1]; decide))

set_option maxHeartbeats 4000000 in
set_option maxRecDepth 100000 in
theorem checkFormC_any (o : COp) (As Ai : Option Addr) (ns cs ni ci : Nat) (w : World) (hs : ns = o.spots.length) (hi : ni = o.val.items.length) :
    Calls Tryz.prog 13 #[CA ⟨o, .slice As ns cs, .slice Ai ni ci⟩] w fun e w' => e = .returned (.int .i64 (fmE o)) ∧ Below w.heap.size w w' := by
  have H0 := Lib.hid fun W => outsideC_any o.kind 1 6 W
  have HNV := Lib.hid fun W => noValueC_any o.val Ai ni ci W hi
  have V0 : Hid (outI o.kind 1 6 = true → fmE o = 10) := fmE_out
  have V1 : Hid (outI o.kind 1 6 = false → cFormB o = true → fmE o = 1) := fmE_yes
  have V2 : Hid (outI o.kind 1 6 = false → cFormB o = false → fmE o = 0) := fmE_no
  obtain ⟨E, hE⟩ : ∃ E, E = fmE o := ⟨_, rfl⟩
  rw [← hE] at V0 V1 V2 ⊢
  obtain ⟨p0, hp0⟩ : ∃ q, q = outI o.kind 1 6 := ⟨_, rfl⟩
  rw [← hp0] at H0 V0 V1 V2
  have hF : cFormB o = cFormB o := rfl
  unfold cFormB aftZ at hF
  rw [← hs] at hF
  conv at hF => lhs; rw [show ((!((o.kind == 1) || (o.kind == 2)) && ((o.parent != 0) || (o.left != 0))) || (((o.kind != 4) && !((o.aft.st.time == 0) && (o.aft.st.cp == 0) && (o.aft.at_ == 0))) || ((((o.kind != 1) && (o.kind != 4)) && !o.oct.toList.isEmpty) || (((o.kind != 5) && decide (0 < (ns : Int))) || ((o.kind != 6) && (!o.name.toList.isEmpty || !noV o.val)))))) = cFormB o from by unfold cFormB aftZ; rw [← hs]]
  obtain ⟨F, hFF⟩ : ∃ F, F = cFormB o := ⟨_, rfl⟩
  rw [← hFF] at hF V1 V2
  obtain ⟨nv, hnv⟩ : ∃ q, q = noV o.val := ⟨_, rfl⟩
  rw [← hnv] at HNV hF
  clear hE hp0 hFF hnv hs hi
  obtain ⟨⟨t0, t1⟩, k, id, pa, le, ⟨⟨a0, a1⟩, a2⟩, oc, sp, nm, ⟨vk, vi, vt, vs, vl⟩⟩ := o
  dsimp only [CA, AV, Vl.kind, Vl.int_, Vl.to_, Vl.text, Vl.items] at H0 HNV hF ⊢
  obtain ⟨k1, h1⟩ : ∃ q, (k == 1) = q := ⟨_, rfl⟩
  obtain ⟨k2, h2⟩ : ∃ q, (k == 2) = q := ⟨_, rfl⟩
  obtain ⟨n1, h3⟩ : ∃ q, (k != 1) = q := ⟨_, rfl⟩
  obtain ⟨n4, h4⟩ : ∃ q, (k != 4) = q := ⟨_, rfl⟩
  obtain ⟨n5, h5⟩ : ∃ q, (k != 5) = q := ⟨_, rfl⟩
  obtain ⟨n6, h6⟩ : ∃ q, (k != 6) = q := ⟨_, rfl⟩
  obtain ⟨q1, g1⟩ : ∃ q, (pa != 0) = q := ⟨_, rfl⟩
  obtain ⟨q2, g2⟩ : ∃ q, (le != 0) = q := ⟨_, rfl⟩
  obtain ⟨z0, g30⟩ : ∃ q, (a0 == 0) = q := ⟨_, rfl⟩
  obtain ⟨z1, g31⟩ : ∃ q, (a1 == 0) = q := ⟨_, rfl⟩
  obtain ⟨z2, g32⟩ : ∃ q, (a2 == 0) = q := ⟨_, rfl⟩
  obtain ⟨q4, g4⟩ : ∃ q, oc.toList.isEmpty = q := ⟨_, rfl⟩
  obtain ⟨q5, g5⟩ : ∃ q, decide (0 < (ns : Int)) = q := ⟨_, rfl⟩
  obtain ⟨q6, g6⟩ : ∃ q, nm.toList.isEmpty = q := ⟨_, rfl⟩
  rw [h1, h2, h3, h4, h5, h6, g1, g2, g30, g31, g32, g4, g5, g6] at hF
  have HF := Lib.hid hF
  clear hF
  go_enter Tryz.func13, Tryz.ntmps13
  go_wp2_with fail
  refine (H0.out _).mono ?_
  rintro e w1 ⟨rfl, rfl⟩
  cases p0
  case true =>
    have HV := Lib.hid (V0.out rfl)
    go_wp2_with fail
    go_ret
    exact ⟨by rw [HV.out]; rfl, (Below.refl _ _).alloc (Nat.le_refl _) _⟩
  have W1 := Lib.hid (V1.out rfl)
  have W2 := Lib.hid (V2.out rfl)
  clear V0 V1 V2
  go_upto_region 3 with fail
  go_cut [3] (fun s3 wc => s3 = .bool (k1 || k2) ∧ wc = w.alloc (.cells #[.int .i64 t0, .int .i64 t1, .int .i64 k, .int .i64 id, .int .i64 pa, .int .i64 le, .int .i64 a0, .int .i64 a1, .int .i64 a2, .string oc, .slice As ns cs, .string nm, .int .i64 vk, .int .i64 vi, .int .i64 vt, .string vs, .slice Ai ni ci] 33))
  case first =>
    go_wp2_with fail
    all_goals
      go_meet
      exact ⟨by simp_all, rfl⟩
  case rest =>
  obtain ⟨rfl, rfl⟩ := hcut
  obtain ⟨pl, epl⟩ : ∃ q, (k1 || k2) = q := ⟨_, rfl⟩
  rw [epl] at HF
  rw [epl]
  clear epl
  clear h1 h2
  go_upto_region 4 with fail
  go_cut [15] (fun s15 wc => s15 = .bool (!pl && (q1 || q2)) ∧ wc = w.alloc (.cells #[.int .i64 t0, .int .i64 t1, .int .i64 k, .int .i64 id, .int .i64 pa, .int .i64 le, .int .i64 a0, .int .i64 a1, .int .i64 a2, .string oc, .slice As ns cs, .string nm, .int .i64 vk, .int .i64 vi, .int .i64 vt, .string vs, .slice Ai ni ci] 33))
  case first =>
    cases pl
    all_goals
      go_wp2_with fail
      all_goals
        go_meet
        exact ⟨by simp_all, rfl⟩
  case rest =>
  obtain ⟨rfl, rfl⟩ := hcut
  obtain ⟨b4, eb4⟩ : ∃ q, (!pl && (q1 || q2)) = q := ⟨_, rfl⟩
  rw [eb4] at HF
  rw [eb4]
  clear eb4 g1 g2
  cases b4
  case true =>
    have HV := Lib.hid (W1.out (HF.out.trans (by simp)))
    go_wp2_with fail
    go_ret
    exact ⟨by rw [HV.out]; rfl, (Below.refl _ _).alloc (Nat.le_refl _) _⟩
  have HF := Lib.hid (HF.out.trans (Bool.false_or _))
  go_upto_region 5 with fail
  go_cut [15] (fun s15 wc => s15 = .bool (n4 && !(z0 && z1 && z2)) ∧ wc = w.alloc (.cells #[.int .i64 t0, .int .i64 t1, .int .i64 k, .int .i64 id, .int .i64 pa, .int .i64 le, .int .i64 a0, .int .i64 a1, .int .i64 a2, .string oc, .slice As ns cs, .string nm, .int .i64 vk, .int .i64 vi, .int .i64 vt, .string vs, .slice Ai ni ci] 33))
  case first =>
    go_wp2_with fail
    all_goals
      go_meet
      exact ⟨by simp_all, rfl⟩
  case rest =>
  obtain ⟨rfl, rfl⟩ := hcut
  obtain ⟨b5, eb5⟩ : ∃ q, (n4 && !(z0 && z1 && z2)) = q := ⟨_, rfl⟩
  rw [eb5] at HF
  rw [eb5]
  clear eb5
  cases b5
  case true =>
    have HV := Lib.hid (W1.out (HF.out.trans (by simp)))
    go_wp2_with fail
    go_ret
    exact ⟨by rw [HV.out]; rfl, (Below.refl _ _).alloc (Nat.le_refl _) _⟩
  have HF := Lib.hid (HF.out.trans (Bool.false_or _))
  go_upto_region 6 with fail
  go_cut [15] (fun s15 wc => s15 = .bool ((n1 && n4) && !q4) ∧ wc = w.alloc (.cells #[.int .i64 t0, .int .i64 t1, .int .i64 k, .int .i64 id, .int .i64 pa, .int .i64 le, .int .i64 a0, .int .i64 a1, .int .i64 a2, .string oc, .slice As ns cs, .string nm, .int .i64 vk, .int .i64 vi, .int .i64 vt, .string vs, .slice Ai ni ci] 33))
  case first =>
    go_wp2_with fail
    all_goals
      go_meet
      exact ⟨by simp_all, rfl⟩
  case rest =>
  obtain ⟨rfl, rfl⟩ := hcut
  obtain ⟨b6, eb6⟩ : ∃ q, ((n1 && n4) && !q4) = q := ⟨_, rfl⟩
  rw [eb6] at HF
  rw [eb6]
  clear eb6
  cases b6
  case true =>
    have HV := Lib.hid (W1.out (HF.out.trans (by simp)))
    go_wp2_with fail
    go_ret
    exact ⟨by rw [HV.out]; rfl, (Below.refl _ _).alloc (Nat.le_refl _) _⟩
  have HF := Lib.hid (HF.out.trans (Bool.false_or _))
  go_upto_region 7 with fail
  go_cut [15] (fun s15 wc => s15 = .bool (n5 && q5) ∧ wc = w.alloc (.cells #[.int .i64 t0, .int .i64 t1, .int .i64 k, .int .i64 id, .int .i64 pa, .int .i64 le, .int .i64 a0, .int .i64 a1, .int .i64 a2, .string oc, .slice As ns cs, .string nm, .int .i64 vk, .int .i64 vi, .int .i64 vt, .string vs, .slice Ai ni ci] 33))
  case first =>
    go_wp2_with fail
    all_goals
      go_meet
      exact ⟨by simp_all, rfl⟩
  case rest =>
  obtain ⟨rfl, rfl⟩ := hcut
  obtain ⟨b7, eb7⟩ : ∃ q, (n5 && q5) = q := ⟨_, rfl⟩
  rw [eb7] at HF
  rw [eb7]
  clear eb7
  cases b7
  case true =>
    have HV := Lib.hid (W1.out (HF.out.trans (by simp)))
    go_wp2_with fail
    go_ret
    exact ⟨by rw [HV.out]; rfl, (Below.refl _ _).alloc (Nat.le_refl _) _⟩
  have HF := Lib.hid (HF.out.trans (Bool.false_or _))
  cases n6
  case false =>
    have HV := Lib.hid (W2.out (HF.out.trans (by simp)))
    go_wp2_with fail
    go_ret
    exact ⟨by rw [HV.out]; rfl, (Below.refl _ _).alloc (Nat.le_refl _) _⟩
  cases q6
  case false =>
    have HV := Lib.hid (W1.out (HF.out.trans (by simp)))
    go_wp2_with fail
    go_ret
    exact ⟨by rw [HV.out]; rfl, (Below.refl _ _).alloc (Nat.le_refl _) _⟩
  cases nv
  case true =>
    have HV := Lib.hid (W2.out (HF.out.trans (by simp)))
    go_wp2_with fail
    refine (HNV.out _).mono ?_
    rintro e w2 ⟨rfl, hb⟩
    go_wp2_with fail
    go_ret
    exact ⟨by rw [HV.out]; rfl, ((Below.refl _ _).alloc (Nat.le_refl _) _).trans (hb.mono (by simp))⟩
  case false =>
    have HV := Lib.hid (W1.out (HF.out.trans (by simp)))
    go_wp2_with fail
    refine (HNV.out _).mono ?_
    rintro e w2 ⟨rfl, hb⟩
    go_wp2_with fail
    go_ret
    exact ⟨by rw [HV.out]; rfl, ((Below.refl _ _).alloc (Nat.le_refl _) _).trans (hb.mono (by simp))⟩
end Go.Proofs.YtinllchioeldbaaGreatDoor
namespace Go.Proofs.YtinllchioeldbaaGreatDoor
open Go.RowKit

set_option maxHeartbeats 4000000 in
theorem sameR_walk (x y : Vl × Value) (L M : List (Vl × Value)) (A A' : Option Addr) (n c n' c' : Nat) (w : World) (B : Nat) (hB : B ≤ w.heap.size) (hx : x.2 = .slice A n c) (hy : y.2 = .slice A' n' c') (hxl : L.map Prod.fst = x.1.items) (hyl : M.map Prod.fst = y.1.items) (h1 : Reads w B 5 A n (L.flatMap vlV)) (h2 : Reads w B 5 A' n' (M.flatMap vlV)) (hn : n = L.length) (hn' : n' = M.length) (hbig : n ≤ 140737488351232) (hbig' : n' ≤ 140737488351232)
    (hs1 : ∀ x ∈ L, ∃ A n c, x.2 = .slice A n c) (hs2 : ∀ x ∈ M, ∃ A n c, x.2 = .slice A n c)
    (hcl : ∀ x ∈ L, ∀ y ∈ M, ∀ W, Below w.heap.size w W → Calls Tryz.prog 46 #[AV x, AV y] W fun e w' => e = .returned (.bool (sameV x.1 y.1)) ∧ Below W.heap.size W w') :
    Calls Tryz.prog 46 #[AV x, AV y] w fun e w' => e = .returned (.bool (sameV x.1 y.1)) ∧ Below w.heap.size w w' := by
  obtain ⟨⟨kx, ix, tx, sx, lx⟩, vx⟩ := x
  obtain ⟨⟨ky, iy, ty, sy, ly⟩, vy⟩ := y
  obtain rfl : vx = _ := hx
  obtain rfl : vy = _ := hy
  obtain rfl : _ = lx := hxl
  obtain rfl : _ = ly := hyl
  have H1 := Lib.hid h1
  have H2 := Lib.hid h2
  have HN := Lib.hid hn
  have HN' := Lib.hid hn'
  have HC := Lib.hid hcl
  have S1 := Lib.hid hs1
  have S2 := Lib.hid hs2
  clear h1 h2 hn hn' hcl hs1 hs2
  dsimp only [AV, Vl.kind, Vl.int_, Vl.to_, Vl.text]
  rw [sameV]
  rw [dec_toList sx sy]
  obtain ⟨q1, h1⟩ : ∃ q, (kx == ky) = q := ⟨_, rfl⟩
  obtain ⟨q2, h2⟩ : ∃ q, (ix == iy) = q := ⟨_, rfl⟩
  obtain ⟨q3, h3⟩ : ∃ q, (tx == ty) = q := ⟨_, rfl⟩
  obtain ⟨q4, h4⟩ : ∃ q, (sx.toList == sy.toList) = q := ⟨_, rfl⟩
  rw [h1, h2, h3, h4]
  cases q1
  · have b1 : (kx != ky) = true := congrArg (!·) h1
    go_enter Tryz.func46, Tryz.ntmps46
    go_wp2_with fail
    go_ret
    exact ⟨rfl, ((Below.refl _ _).alloc (Nat.le_refl _) _).alloc (by simp) _⟩
  have b1 : (kx != ky) = false := congrArg (!·) h1
  cases q2
  · have b2 : (ix != iy) = true := congrArg (!·) h2
    go_enter Tryz.func46, Tryz.ntmps46
    go_wp2_with fail
    go_ret
    exact ⟨rfl, ((Below.refl _ _).alloc (Nat.le_refl _) _).alloc (by simp) _⟩
  have b2 : (ix != iy) = false := congrArg (!·) h2
  cases q3
  · have b3 : (tx != ty) = true := congrArg (!·) h3
    go_enter Tryz.func46, Tryz.ntmps46
    go_wp2_with fail
    go_ret
    exact ⟨rfl, ((Below.refl _ _).alloc (Nat.le_refl _) _).alloc (by simp) _⟩
  have b3 : (tx != ty) = false := congrArg (!·) h3
  cases q4
  · have b4 : (sx.toList != sy.toList) = true := congrArg (!·) h4
    go_enter Tryz.func46, Tryz.ntmps46
    go_wp2_with fail
    go_ret
    exact ⟨rfl, ((Below.refl _ _).alloc (Nat.le_refl _) _).alloc (by simp) _⟩
  have b4 : (sx.toList != sy.toList) = false := congrArg (!·) h4
  by_cases hl : n = n'
  · subst hl
    obtain ⟨q, hq⟩ : ∃ q, q = sameL (L.map Prod.fst) (M.map Prod.fst) := ⟨_, rfl⟩
    rw [← hq]
    have HQ := Lib.hid hq
    clear hq
    go_enter Tryz.func46, Tryz.ntmps46
    go_wp2_with fail
    obtain ⟨X, hX⟩ : ∃ X, X = ((w.alloc (.cells #[.int .i64 kx, .int .i64 ix, .int .i64 tx, .string sx, .slice A n c] 31)).alloc (.cells #[.int .i64 ky, .int .i64 iy, .int .i64 ty, .string sy, .slice A' n c'] 31)) := ⟨_, rfl⟩
    have p0 : Blk X w.heap.size 31 #[.int .i64 kx, .int .i64 ix, .int .i64 tx, .string sx, .slice A n c] := by rw [hX]; exact (Blk.new w _ _).alloc _
    have p1 : Blk X (w.heap.size + 1) 31 #[.int .i64 ky, .int .i64 iy, .int .i64 ty, .string sy, .slice A' n c'] := by
      rw [hX]
      have h := Blk.new (w.alloc (.cells #[.int .i64 kx, .int .i64 ix, .int .i64 tx, .string sx, .slice A n c] 31)) 31 #[.int .i64 ky, .int .i64 iy, .int .i64 ty, .string sy, .slice A' n c']
      simpa only [World.size_alloc] using h
    have hbX : Below w.heap.size w X := by rw [hX]; exact ((Below.refl _ _).alloc (Nat.le_refl _) _).alloc (by simp) _
    have hzX : w.heap.size + 1 < X.heap.size := p1.lt
    rw [← hX]
    clear hX
    go_loopg [44] n (fun gg s44 wr => ∃ k : Nat, k + gg = n ∧ s44 = .int .i64 (k : Int) ∧ Hid (∀ i x y, i < k → L[i]? = some x → M[i]? = some y → sameV x.1 y.1 = true) ∧ Hid (Below X.heap.size X wr))
    case atStart => exact ⟨0, by omega, rfl, (fun i x y hi => absurd hi (by omega)), Below.refl _ _⟩
    case round =>
      obtain ⟨k, hkg, rfl, hno, hbel⟩ := hrel
      have hwr : Below w.heap.size w wr := hbX.trans (hbel.out.mono (by omega))
      have hzr := hbel.out.size
      by_cases hk : k < n
      · obtain ⟨x, hx⟩ : ∃ x, L[k]? = some x := ⟨_, List.getElem?_eq_getElem (by have := HN.out; omega)⟩
        obtain ⟨y, hy⟩ : ∃ x, M[k]? = some x := ⟨_, List.getElem?_eq_getElem (by have := HN'.out; omega)⟩
        obtain ⟨b, off, rfl, hbb, hc⟩ := H1.out.plain_at (by omega) vlV_len HN.out hx
        obtain ⟨b', off', rfl, hbb', hc'⟩ := H2.out.plain_at (by omega) vlV_len HN'.out hy
        have HX : Hid (∀ W, Below w.heap.size w W → Calls _ _ #[AV x, AV y] W _) := fun W hW => HC.out x (List.mem_of_getElem? hx) y (List.mem_of_getElem? hy) W hW
        obtain ⟨⟨kx', ix', tx', sx', lx'⟩, vx⟩ := x
        obtain ⟨⟨ky', iy', ty', sy', ly'⟩, vy⟩ := y
        obtain ⟨Ax, nx, cx, rfl⟩ := S1.out _ (List.mem_of_getElem? hx)
        obtain ⟨Ay, ny, cy, rfl⟩ := S2.out _ (List.mem_of_getElem? hy)
        have g0 := (hwr.cell (p := ⟨b, off + k * 5, none⟩) (by show b < _; omega)).trans (hc 0 _ rfl)
        have g1 := (hwr.cell (p := ⟨b, off + k * 5 + 1, none⟩) (by show b < _; omega)).trans (hc 1 _ rfl)
        have g2 := (hwr.cell (p := ⟨b, off + k * 5 + 2, none⟩) (by show b < _; omega)).trans (hc 2 _ rfl)
        have g3 := (hwr.cell (p := ⟨b, off + k * 5 + 3, none⟩) (by show b < _; omega)).trans (hc 3 _ rfl)
        have g4 := (hwr.cell (p := ⟨b, off + k * 5 + 4, none⟩) (by show b < _; omega)).trans (hc 4 _ rfl)
        have k0 := (hwr.cell (p := ⟨b', off' + k * 5, none⟩) (by show b' < _; omega)).trans (hc' 0 _ rfl)
        have k1 := (hwr.cell (p := ⟨b', off' + k * 5 + 1, none⟩) (by show b' < _; omega)).trans (hc' 1 _ rfl)
        have k2 := (hwr.cell (p := ⟨b', off' + k * 5 + 2, none⟩) (by show b' < _; omega)).trans (hc' 2 _ rfl)
        have k3 := (hwr.cell (p := ⟨b', off' + k * 5 + 3, none⟩) (by show b' < _; omega)).trans (hc' 3 _ rfl)
        have k4 := (hwr.cell (p := ⟨b', off' + k * 5 + 4, none⟩) (by show b' < _; omega)).trans (hc' 4 _ rfl)
        have m4 := (hbel.out.cell (p := ⟨w.heap.size, 4, none⟩) (by show w.heap.size < _; omega)).trans (p0.cell 4)
        have o4 := (hbel.out.cell (p := ⟨w.heap.size + 1, 4, none⟩) (by show w.heap.size + 1 < _; omega)).trans (p1.cell 4)
        have j0 : (0 : Int) ≤ (k : Int) := by omega
        have j1 : (k : Int) < (n : Int) := by omega
        have HXK := Lib.hid hx
        have HYK := Lib.hid hy
        clear hx hy hc hc'
        obtain ⟨r, hr⟩ : ∃ r, sameV (Vl.mk kx' ix' tx' sx' lx') (Vl.mk ky' iy' ty' sy' ly') = r := ⟨_, rfl⟩
        simp only [hr] at HX
        have HR := Lib.hid hr
        clear hr
        go_wp2_with fail
        go_region_held3 (fun w' => w'.cell? ⟨w.heap.size, 4, none⟩ = some (.slice (some ⟨b, off, none⟩) n c) ∧ w'.cell? ⟨w.heap.size + 1, 4, none⟩ = some (.slice (some ⟨b', off', none⟩) n c') ∧ w'.cell? ⟨b, off + k * 5, none⟩ = some (.int .i64 kx') ∧ w'.cell? ⟨b, off + k * 5 + 1, none⟩ = some (.int .i64 ix') ∧ w'.cell? ⟨b, off + k * 5 + 2, none⟩ = some (.int .i64 tx') ∧ w'.cell? ⟨b, off + k * 5 + 3, none⟩ = some (.string sx') ∧ w'.cell? ⟨b, off + k * 5 + 4, none⟩ = some (.slice Ax nx cx) ∧ w'.cell? ⟨b', off' + k * 5, none⟩ = some (.int .i64 ky') ∧ w'.cell? ⟨b', off' + k * 5 + 1, none⟩ = some (.int .i64 iy') ∧ w'.cell? ⟨b', off' + k * 5 + 2, none⟩ = some (.int .i64 ty') ∧ w'.cell? ⟨b', off' + k * 5 + 3, none⟩ = some (.string sy') ∧ w'.cell? ⟨b', off' + k * 5 + 4, none⟩ = some (.slice Ay ny cy))
          (first | exact ⟨m4, o4, g0, g1, g2, g3, g4, k0, k1, k2, k3, k4⟩ | (obtain ⟨a0, a1, a2, a3, a4, a5, a6, a7, a8, a9, a10, a11⟩ := ‹_ ∧ _ ∧ _ ∧ _ ∧ _ ∧ _ ∧ _ ∧ _ ∧ _ ∧ _ ∧ _ ∧ _›; exact ⟨(hb2.cell (by show w.heap.size < wr.drew.heap.size; show w.heap.size < wr.heap.size; omega)).trans a0, (hb2.cell (by show w.heap.size + 1 < wr.drew.heap.size; show w.heap.size + 1 < wr.heap.size; omega)).trans a1, (hb2.cell (by show b < wr.heap.size; omega)).trans a2, (hb2.cell (by show b < wr.heap.size; omega)).trans a3, (hb2.cell (by show b < wr.heap.size; omega)).trans a4, (hb2.cell (by show b < wr.heap.size; omega)).trans a5, (hb2.cell (by show b < wr.heap.size; omega)).trans a6, (hb2.cell (by show b' < wr.heap.size; omega)).trans a7, (hb2.cell (by show b' < wr.heap.size; omega)).trans a8, (hb2.cell (by show b' < wr.heap.size; omega)).trans a9, (hb2.cell (by show b' < wr.heap.size; omega)).trans a10, (hb2.cell (by show b' < wr.heap.size; omega)).trans a11⟩))
          (first | (go_at_call 46; refine (HX.out _ hwr.drew).mono ?_; rintro e w2 ⟨rfl, hb2⟩; have HB2 : Hid (Below X.heap.size X w2) := (bdrew hbel.out _).trans (hb2.mono hzr)))
        clear hb2
        cases r
        · go_wp2_with fail
          go_ret
          refine ⟨?_, hbX.trans (HB2.out.mono (by omega))⟩
          rw [HQ.out]
          refine congrArg (fun b => Ending.returned (.bool b)) (Eq.symm (Bool.eq_false_iff.2 fun h => ?_))
          exact Bool.false_ne_true (HR.out.symm.trans (sameL_at h (by rw [List.getElem?_map, HXK.out]; rfl) (by rw [List.getElem?_map, HYK.out]; rfl)))
        · go_wp2_with fail
          go_roundg (n - (k + 1))
          case measure => omega
          case rel =>
            refine ⟨k + 1, by omega, by go_num, ?_, HB2⟩
            intro i x y hi h1 h2
            by_cases e : i = k
            · subst e
              obtain rfl := Option.some.inj (HXK.out.symm.trans h1)
              obtain rfl := Option.some.inj (HYK.out.symm.trans h2)
              exact HR.out
            · exact hno.out i x y (by omega) h1 h2
      · obtain rfl : k = n := by omega
        go_wp2_with fail
        go_ret
        refine ⟨?_, hwr⟩
        rw [HQ.out]
        refine congrArg (fun b => Ending.returned (.bool b)) (Eq.symm (sameL_of (by rw [List.length_map, List.length_map, ← HN.out, HN'.out]) ?_))
        intro i x y h1 h2
        rw [List.getElem?_map, Option.map_eq_some_iff] at h1 h2
        obtain ⟨x', h1, rfl⟩ := h1
        obtain ⟨y', h2, rfl⟩ := h2
        exact hno.out i x' y' (by rw [HN.out]; exact (List.getElem?_eq_some_iff.1 h1).1) h1 h2
  · have hq : sameL (L.map Prod.fst) (M.map Prod.fst) = false := by
      refine Bool.eq_false_iff.2 fun h => hl ?_
      have := sameL_len h
      rw [List.length_map, List.length_map] at this
      rw [HN.out, HN'.out]; exact this
    rw [hq]
    have hl' : ((n : Int) != (n' : Int)) = true := by
      rw [bne_iff_ne]; omega
    clear hq
    go_enter Tryz.func46, Tryz.ntmps46
    go_wp2_with fail
    go_ret
    exact ⟨rfl, ((Below.refl _ _).alloc (Nat.le_refl _) _).alloc (by simp) _⟩
/-- the reference's SameValue -/
theorem sameRef_any : ∀ (d : Nat) (x y : Vl × Value) (w : World) (B : Nat), B ≤ w.heap.size → RVd w B d x.2 x.1.items → RVd w B d y.2 y.1.items →
    Calls Tryz.prog 46 #[AV x, AV y] w fun e w' => e = .returned (.bool (sameV x.1 y.1)) ∧ Below w.heap.size w w'
  | 0, x, y, w, B, hB, hx, hy => by
    obtain ⟨A, n, c, M, h1, h2, h3, h4, h5, h6⟩ := hx.deeper
    obtain ⟨A', n', c', M', k1, k2, k3, k4, k5, k6⟩ := hy.deeper
    have e : M = [] := by rw [← List.map_eq_nil_iff, h1]; exact hx.1
    exact sameR_walk x y M M' A A' n c n' c' w B hB h2 k2 h1 k1 h5 k5 h3 k3 (by omega) (by omega) (fun z hz => (RV.slice ⟨_, h6 z hz⟩)) (fun z hz => (RV.slice ⟨_, k6 z hz⟩)) (fun z hz => by rw [e] at hz; cases hz)
  | d + 1, x, y, w, B, hB, ⟨A, n, c, M, h1, h2, h3, h4, h5, h6⟩, ⟨A', n', c', M', k1, k2, k3, k4, k5, k6⟩ =>
    sameR_walk x y M M' A A' n c n' c' w B hB h2 k2 h1 k1 h5 k5 h3 k3 (by omega) (by omega) (fun z hz => (RV.slice ⟨_, h6 z hz⟩)) (fun z hz => (RV.slice ⟨_, k6 z hz⟩)) (fun z hz u hu W hW => sameRef_any d z u W B (Nat.le_trans hB hW.size) ((h6 z hz).below (hW.mono hB)) ((k6 u hu).below (hW.mono hB)))
end Go.Proofs.YtinllchioeldbaaGreatDoor
