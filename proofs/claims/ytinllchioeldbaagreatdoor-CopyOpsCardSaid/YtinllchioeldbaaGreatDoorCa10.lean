/-
  DERIVED. The walks of prop.written and prop.Text, to the byte. Conditions: the value is right; the table of powers of ten is laid.
  Operations of a copy: what is right, in plain words; how they lie in memory. Conditions: none.
  By an AI agent.
-/
import Derived.Test.YtinllchioeldbaaGreatDoorCa08
import Derived.Test.YtinllchioeldbaaGreatDoorCa05
import Derived.Test.YtinllchioeldbaaGreatDoorCa09
import Derived.Deep.RegionHeld3
namespace Go.Proofs.YtinllchioeldbaaGreatDoor
open Go.RowKit

mutual
/-- a value as a text -/
noncomputable def wrV : Vl → ByteArray
  | .mk k i t s l => if k = 1 then (if i = 0 then ⟨#[110, 111]⟩ else ⟨#[121, 101, 115]⟩) else if k = 2 then wd i else if k = 3 then quoS s else if k = 4 then dtS i else if k = 5 then dtS i ++ ⟨#[46, 46]⟩ ++ dtS t else if k = 6 then ⟨#[91, 91]⟩ ++ s ++ ⟨#[93, 93]⟩ else if k = 7 then ⟨#[91]⟩ ++ joinB (wrL l) ⟨#[44, 32]⟩ ++ ⟨#[93]⟩ else ⟨#[45]⟩
noncomputable def wrL : List Vl → List ByteArray
  | [] => []
  | x :: l => wrV x :: wrL l
end
theorem wrL_map : ∀ l : List Vl, wrL l = l.map wrV
  | [] => by rw [wrL]; rfl
  | x :: l => by rw [wrL, wrL_map l]; rfl
theorem wrV_eq (x : Vl) : wrV x = if x.kind = 1 then (if x.int_ = 0 then ⟨#[110, 111]⟩ else ⟨#[121, 101, 115]⟩) else if x.kind = 2 then wd x.int_ else if x.kind = 3 then quoS x.text else if x.kind = 4 then dtS x.int_ else if x.kind = 5 then dtS x.int_ ++ ⟨#[46, 46]⟩ ++ dtS x.to_ else if x.kind = 6 then ⟨#[91, 91]⟩ ++ x.text ++ ⟨#[93, 93]⟩ else if x.kind = 7 then ⟨#[91]⟩ ++ joinB (x.items.map wrV) ⟨#[44, 32]⟩ ++ ⟨#[93]⟩ else ⟨#[45]⟩ := by
  cases x; rw [wrV, wrL_map]; rfl

/-- what a right value is -/
theorem vErr_zero {x : Vl} (h : vErr x = 0) : (0 ≤ x.kind ∧ x.kind ≤ 7) ∧ nuErr x.kind x.int_ x.to_ = 0 ∧ x.text.size ≤ 2000 ∧ x.items.length ≤ 20 ∧ itErr x.items = 0 := by
  rw [vErr_eq] at h
  cases h0 : outI x.kind 0 7
  case true => rw [h0, if_pos rfl] at h; cases h
  rw [h0, if_neg (by decide)] at h
  cases h1 : ufB x
  case false => rw [h1, if_pos rfl] at h; cases h
  rw [h1, if_neg (by decide)] at h
  by_cases h2 : nuErr x.kind x.int_ x.to_ = 0
  case neg => rw [if_pos h2] at h; exact absurd h h2
  rw [if_neg (fun e => e h2)] at h
  by_cases h3 : ttErr (x.kind == 6) x.text = 0
  case neg => rw [if_pos h3] at h; exact absurd h h3
  rw [if_neg (fun e => e h3)] at h
  by_cases h4 : 20 < x.items.length
  case pos => rw [if_pos h4] at h; cases h
  rw [if_neg h4] at h
  refine ⟨?_, h2, ?_, by omega, h⟩
  · unfold outI at h0
    have := of_decide_eq_false h0
    omega
  · unfold ttErr at h3
    by_cases h5 : 2000 < x.text.size
    · rw [if_pos h5] at h3; cases h3
    · omega
theorem itErr_mem : ∀ {l : List Vl}, itErr l = 0 → ∀ x ∈ l, vErr x = 0 ∧ x.kind ≠ 7 ∧ x.kind ≠ 0
  | [], _, x, hx => by cases hx
  | y :: l, h, x, hx => by
    rw [itErr] at h
    cases h0 : (y.kind == 0)
    case true => rw [h0, if_pos rfl] at h; cases h
    rw [h0, if_neg (by decide)] at h
    cases h7 : (y.kind == 7)
    case true => rw [h7, if_pos rfl] at h; cases h
    rw [h7, if_neg (by decide)] at h
    by_cases hv : vErr y = 0
    case neg => rw [if_pos hv] at h; exact absurd h hv
    rw [if_neg (fun e => e hv)] at h
    rcases List.mem_cons.1 hx with rfl | hx
    · exact ⟨hv, by simpa using h7, by simpa using h0⟩
    · exact itErr_mem h x hx
theorem wd_size21 {n : Int} (h : n.natAbs ≤ 1000000000) : (wd n).size ≤ 21 := by
  have := dd_len 9 n.natAbs (by omega)
  rw [wd_len]
  unfold Lib.itoa
  split
  · rw [List.length_cons]; omega
  · rw [show n.toNat = n.natAbs by omega]; omega
set_option maxHeartbeats 4000000 in
set_option maxRecDepth 100000 in
theorem written_str (i t : Int) (s : ByteArray) (A : Option Addr) (n c : Nat) (w : World) (hs : s.size ≤ 2000) :
    Calls Tryz.prog 53 #[.agg #[.int .i64 3, .int .i64 i, .int .i64 t, .string s, .slice A n c]] w fun e w' => e = .returned (.string (quoS s)) ∧ Below w.heap.size w w' := by
  have hq := quoS_eq s
  have hes := escS_size s
  have HRP := Lib.hid fun w b g cap h1 h2 h3 h4 => replace_any w b g cap s (by omega) h1 h2 h3 h4
  obtain ⟨S, hS⟩ : ∃ S, S = escS s := ⟨_, rfl⟩
  rw [← hS] at hq hes HRP
  have hes2 : S.size ≤ 4000 := by omega
  rw [← hq]
  clear hq hS hes
  go_enter Tryz.func53, Tryz.ntmps53
  go_upto_region 7 with fail
  have hbX : Below w.heap.size w (w.alloc (.cells #[.int .i64 3, .int .i64 i, .int .i64 t, .string s, .slice A n c] 31)) := (Below.refl _ _).alloc (Nat.le_refl _) _
  have KX := Blk.new w 31 #[.int .i64 3, .int .i64 i, .int .i64 t, .string s, .slice A n c]
  generalize (w.alloc (.cells #[.int .i64 3, .int .i64 i, .int .i64 t, .string s, .slice A n c] 31)) = X at hbX KX ⊢
  have d0 : X.cell? ⟨w.heap.size, 3, none⟩ = some (.string s) := KX.cell 3
  have hzX := KX.lt
  have z0 : ∀ o, (X.alloc o).cell? ⟨w.heap.size, 3, none⟩ = some (.string s) := fun o => (World.cell?_alloc_lt _ _ _ hzX).trans d0
  have hcY : ∀ j u, rpO[j]? = some u → (X.alloc (.cells #[.string ⟨#[34]⟩, .string ⟨#[92, 34]⟩, .string ⟨#[92]⟩, .string ⟨#[92, 92]⟩] 9)).drew.cell? ((⟨X.heap.size, 0, none⟩ : Addr).add j) = some u := fun j u h => by
    rw [World.cell?_drew, Addr.add_lit, Nat.zero_add, World.cell?_alloc_mark]
    show (rpO.toArray)[j]? = some u
    rw [List.getElem?_toArray]
    exact h
  have ha1 : ∀ W, (Op.stringOp .add ⟨#[34]⟩ S).run Tryz.prog W = .ok (.string (⟨#[34]⟩ ++ S)) W := fun W => run_string_add_sum W _ _ (by show 1 + S.size ≤ _; omega)
  have ha2 : ∀ W, (Op.stringOp .add (⟨#[34]⟩ ++ S) ⟨#[34]⟩).run Tryz.prog W = .ok (.string (⟨#[34]⟩ ++ S ++ ⟨#[34]⟩)) W := fun W => run_string_add_sum W _ _ (by rw [ByteArray.size_append]; show 1 + S.size + 1 ≤ _; omega)
  have d0' : X.drew.cell? ⟨w.heap.size, 3, none⟩ = some (.string s) := d0
  have z0' : ∀ o, (X.alloc o).drew.cell? ⟨w.heap.size, 3, none⟩ = some (.string s) := z0
  go_region_held3 (fun w' => w'.cell? ⟨w.heap.size, 3, none⟩ = some (.string s))
    (first | with_reducible exact d0 | with_reducible exact d0' | with_reducible exact z0 _ | with_reducible exact z0' _ | with_reducible exact t0 | with_reducible exact r0)
    (first
      | (go_at_call 61; refine (newReplacer_any ⟨X.heap.size, 0, none⟩ 4 _ hcY).mono ?_; rintro e w2 ⟨b, g, cap, rfl, hb1, hg1, hblk, hcl, hgb, hbel⟩; have hgl : g < w2.heap.size := (World.block_lt_of_cell? w2 _ (hcl 0 _ rfl)); have hbY : Below X.heap.size X w2 := ((Below.refl _ _).alloc (Nat.le_refl _) _).drew.trans (hbel.mono (by simp)); have t0 : w2.cell? ⟨w.heap.size, 3, none⟩ = some (.string s) := (hbY.cell (p := ⟨w.heap.size, 3, none⟩) hzX).trans d0; have hbb : X.heap.size ≤ b := Nat.le_trans (by simp) hb1; have HC2 := Lib.hid (And.intro hblk hcl); clear hblk hcl hbel hb1 hg1)
      | (go_at_call 62; refine (HRP.out w2 b g cap hgl HC2.out.1 HC2.out.2 (Nat.ne_of_lt hgb)).mono ?_; rintro e w3 ⟨rfl, hb3⟩; have r0 : w3.cell? ⟨w.heap.size, 3, none⟩ = some (.string s) := (hb3.cell (p := ⟨w.heap.size, 3, none⟩) (by show w.heap.size < b; omega)).trans t0; have HB3 : Hid (Below w.heap.size w w3) := (hbX.trans (hbY.mono (by omega))).trans (hb3.mono (by omega)); clear hb3))
  all_goals
    go_wp2_with fail
    go_ret
    exact ⟨rfl, HB3.out⟩
set_option maxHeartbeats 4000000 in
set_option maxRecDepth 100000 in
theorem written_none (i t : Int) (s : ByteArray) (A : Option Addr) (n c : Nat) (w : World) :
    Calls Tryz.prog 53 #[.agg #[.int .i64 0, .int .i64 i, .int .i64 t, .string s, .slice A n c]] w fun e w' => e = .returned (.string ⟨#[45]⟩) ∧ Below w.heap.size w w' := by
  go_enter Tryz.func53, Tryz.ntmps53
  go_wp2_with fail
  go_ret
  exact ⟨rfl, (Below.refl _ _).alloc (Nat.le_refl _) _⟩

set_option maxHeartbeats 4000000 in
set_option maxRecDepth 100000 in
theorem written_flag (i t : Int) (s : ByteArray) (A : Option Addr) (n c : Nat) (w : World) (h0 : 0 ≤ i) (h1 : i ≤ 1) :
    Calls Tryz.prog 53 #[.agg #[.int .i64 1, .int .i64 i, .int .i64 t, .string s, .slice A n c]] w fun e w' => e = .returned (.string (if i = 0 then ⟨#[110, 111]⟩ else ⟨#[121, 101, 115]⟩)) ∧ Below w.heap.size w w' := by
  rcases (show i = 0 ∨ i = 1 by omega) with rfl | rfl
  all_goals
    clear h0 h1
    go_enter Tryz.func53, Tryz.ntmps53
    go_wp2_with fail
    go_ret
    exact ⟨rfl, ((Below.refl _ _).alloc (Nat.le_refl _) _).alloc (by simp) _⟩

set_option maxHeartbeats 4000000 in
set_option maxRecDepth 100000 in
theorem written_num (i t : Int) (s : ByteArray) (A : Option Addr) (n c : Nat) (w : World) (h : i.natAbs ≤ 1000000000) (hP : Pow w) :
    Calls Tryz.prog 53 #[.agg #[.int .i64 2, .int .i64 i, .int .i64 t, .string s, .slice A n c]] w fun e w' => e = .returned (.string (wd i)) ∧ Below w.heap.size w w' := by
  have HI := Lib.hid (itoaN_any i (by omega) (by omega) _ (hP.below (w' := w.alloc (.cells #[.int .i64 2, .int .i64 i, .int .i64 t, .string s, .slice A n c] 31)) ((Below.refl _ _).alloc (Nat.le_refl _) _)))
  clear hP
  go_enter Tryz.func53, Tryz.ntmps53
  go_wp2_with fail
  refine HI.out.mono ?_
  rintro e w1 ⟨rfl, hb⟩
  go_wp2_with fail
  go_ret
  exact ⟨rfl, ((Below.refl _ _).alloc (Nat.le_refl _) _).trans (hb.mono (by simp))⟩

set_option maxHeartbeats 4000000 in
set_option maxRecDepth 100000 in
theorem written_date (i t : Int) (s : ByteArray) (A : Option Addr) (n c : Nat) (w : World) (h0 : 0 ≤ i) (h1 : i ≤ 100000) (hP : Pow w) :
    Calls Tryz.prog 53 #[.agg #[.int .i64 4, .int .i64 i, .int .i64 t, .string s, .slice A n c]] w fun e w' => e = .returned (.string (dtS i)) ∧ (dtS i).size ≤ 100 ∧ Below w.heap.size w w' := by
  have HI := Lib.hid (dateText_any i _ h0 h1 (hP.below (w' := w.alloc (.cells #[.int .i64 4, .int .i64 i, .int .i64 t, .string s, .slice A n c] 31)) ((Below.refl _ _).alloc (Nat.le_refl _) _)))
  clear hP
  go_enter Tryz.func53, Tryz.ntmps53
  go_wp2_with fail
  refine HI.out.mono ?_
  rintro e w1 ⟨rfl, hsz, hb⟩
  go_wp2_with fail
  go_ret
  exact ⟨rfl, hsz, ((Below.refl _ _).alloc (Nat.le_refl _) _).trans (hb.mono (by simp))⟩

set_option maxHeartbeats 4000000 in
set_option maxRecDepth 100000 in
theorem written_span (i t : Int) (s : ByteArray) (A : Option Addr) (n c : Nat) (w : World) (h0 : 0 ≤ i) (h1 : i ≤ 100000) (h2 : 0 ≤ t) (h3 : t ≤ 100000) (hP : Pow w) :
    Calls Tryz.prog 53 #[.agg #[.int .i64 5, .int .i64 i, .int .i64 t, .string s, .slice A n c]] w fun e w' => e = .returned (.string (dtS i ++ ⟨#[46, 46]⟩ ++ dtS t)) ∧ (dtS i ++ ⟨#[46, 46]⟩ ++ dtS t).size ≤ 300 ∧ Below w.heap.size w w' := by
  have HI := Lib.hid fun W hP => dateText_any i W h0 h1 hP
  have HJ := Lib.hid fun W hP => dateText_any t W h2 h3 hP
  have HP0 : Hid (Pow (w.alloc (.cells #[.int .i64 5, .int .i64 i, .int .i64 t, .string s, .slice A n c] 31))) := hP.below ((Below.refl _ _).alloc (Nat.le_refl _) _)
  obtain ⟨S1, hS1⟩ : ∃ S, S = dtS i := ⟨_, rfl⟩
  obtain ⟨S2, hS2⟩ : ∃ S, S = dtS t := ⟨_, rfl⟩
  rw [← hS1, ← hS2]
  rw [← hS1] at HI
  rw [← hS2] at HJ
  clear hP hS1 hS2
  go_enter Tryz.func53, Tryz.ntmps53
  go_wp2_with fail
  refine (HI.out _ HP0.out).mono ?_
  rintro e w1 ⟨rfl, hs1, hb⟩
  have HB1 : Hid (Below w.heap.size w w1) := ((Below.refl _ _).alloc (Nat.le_refl _) _).trans (hb.mono (by simp))
  have HP1 := Lib.hid (HP0.out.below hb)
  have hc : w1.cell? ⟨w.heap.size, 2, none⟩ = some (.int .i64 t) := (hb.cell (p := ⟨w.heap.size, 2, none⟩) (by simp)).trans ((Blk.new w _ _).cell 2)
  clear hb
  go_wp2_with fail
  refine (HJ.out _ HP1.out).mono ?_
  rintro e w2 ⟨rfl, hs2, hb⟩
  have HB2 : Hid (Below w.heap.size w w2) := HB1.out.trans (hb.mono HB1.out.size)
  clear hb
  go_wp2_with fail
  go_ret
  refine ⟨rfl, ?_, HB2.out⟩
  simp only [ByteArray.size_append]
  show _ + 2 + _ ≤ 300
  omega

set_option maxHeartbeats 4000000 in
set_option maxRecDepth 100000 in
theorem written_link (i t : Int) (s : ByteArray) (A : Option Addr) (n c : Nat) (w : World) (hs : s.size ≤ 2000) :
    Calls Tryz.prog 53 #[.agg #[.int .i64 6, .int .i64 i, .int .i64 t, .string s, .slice A n c]] w fun e w' => e = .returned (.string (⟨#[91, 91]⟩ ++ s ++ ⟨#[93, 93]⟩)) ∧ Below w.heap.size w w' := by
  go_enter Tryz.func53, Tryz.ntmps53
  go_wp2_with fail
  go_ret
  exact ⟨rfl, (Below.refl _ _).alloc (Nat.le_refl _) _⟩

end Go.Proofs.YtinllchioeldbaaGreatDoor
namespace Go.Proofs.YtinllchioeldbaaGreatDoor
open Go.RowKit

/-- a stamp -/
structure Stp where
  time : Int
  cp : Int
/-- a spot -/
structure Spt where
  st : Stp
  at_ : Int
/-- an operation of a copy -/
structure COp where
  st : Stp
  kind : Int
  id : Int
  parent : Int
  left : Int
  aft : Spt
  oct : ByteArray
  spots : List Spt
  name : ByteArray
  val : Vl

/-- nothing of a value is used -/
def noV (v : Vl) : Bool := (v.kind == 0) && (v.int_ == 0) && (v.to_ == 0) && v.text.toList.isEmpty && ((v.items.length : Int) == 0)
def stOk (s : Stp) : Bool := !(outI s.time 1 1000000000) && !(outI s.cp 0 15)
def befS (a b : Stp) : Bool := decide (a.time < b.time) || ((a.time == b.time) && decide (a.cp < b.cp))
def sptOk (x : Spt) (now : Stp) : Bool := stOk x.st && befS x.st now && !(outI x.at_ 0 2000)
def sptLt (a b : Spt) : Bool := befS a.st b.st || ((a.st.time == b.st.time) && (a.st.cp == b.st.cp) && decide (a.at_ < b.at_))
def aftZ (x : Spt) : Bool := (x.st.time == 0) && (x.st.cp == 0) && (x.at_ == 0)
/-- a field is used that the kind does not use -/
def cFormB (o : COp) : Bool :=
  (!((o.kind == 1) || (o.kind == 2)) && ((o.parent != 0) || (o.left != 0))) || (((o.kind != 4) && !aftZ o.aft) || ((((o.kind != 1) && (o.kind != 4)) && !o.oct.toList.isEmpty) || (((o.kind != 5) && decide (0 < (o.spots.length : Int))) || ((o.kind != 6) && (!o.name.toList.isEmpty || !noV o.val)))))
def cPlE (o : COp) : Int :=
  if ((o.kind == 1) && (Int.tmod o.id 16 != o.st.cp)) = true then 1 else if (outI o.parent 0 1000000 || outI o.left 0 1000000) = true then 2 else if ((o.parent == o.id) || (o.left == o.id)) = true then 12 else txErr o.oct
def cTyE (o : COp) : Int :=
  if (o.oct.toList.isEmpty || decide ((500 : Int) < o.oct.size)) = true then 4 else if ctl o.oct = true then 9 else if (!aftZ o.aft && !sptOk o.aft o.st) = true then 15 else 0
/-- spots that do not rise -/
def sptUp : List Spt → Bool
  | a :: b :: l => sptLt a b && sptUp (b :: l)
  | _ => true
def cErE (o : COp) : Int :=
  if (o.spots.any fun x => !sptOk x o.st) = true then 15 else if (((o.spots.length : Int) == 0) || decide ((500 : Int) < (o.spots.length : Int))) = true then 4 else if sptUp o.spots = false then 5 else 0
def cSpE (o : COp) : Int := if nmErr o.name ≠ 0 then nmErr o.name else vErr o.val
/-- the error of an operation -/
def cE (o : COp) : Int :=
  if stOk o.st = false then 2 else if outI o.kind 1 6 = true then 10 else if cFormB o = true then 1 else if outI o.id 1 1000000 = true then 2
  else if ((o.kind == 1) || (o.kind == 2)) = true then cPlE o else if (o.kind == 4) = true then cTyE o else if (o.kind == 5) = true then cErE o else if (o.kind == 6) = true then cSpE o else 0

/-! ### memory -/
def spV (x : Spt) : List Value := [.int .i64 x.st.time, .int .i64 x.st.cp, .int .i64 x.at_]
theorem spV_len (x : Spt) : (spV x).length = 3 := rfl
def STI (x : Stp) : Prop := I64 x.time ∧ I64 x.cp
def SPI (x : Spt) : Prop := STI x.st ∧ I64 x.at_
/-- spots in memory -/
def RSp (W : World) (B : Nat) (v : Value) (l : List Spt) : Prop := ∃ A n c, v = .slice A n c ∧ n = l.length ∧ (n ≤ c ∧ n * 24 ≤ 140737488351232) ∧ Reads W B 3 A n (l.flatMap spV) ∧ ∀ x ∈ l, SPI x
/-- an operation, its spots and its value's items told apart -/
structure COm where
  op : COp
  sp : Value
  it : Value
def coV (x : COm) : List Value := [.int .i64 x.op.st.time, .int .i64 x.op.st.cp, .int .i64 x.op.kind, .int .i64 x.op.id, .int .i64 x.op.parent, .int .i64 x.op.left, .int .i64 x.op.aft.st.time, .int .i64 x.op.aft.st.cp, .int .i64 x.op.aft.at_, .string x.op.oct, x.sp, .string x.op.name, .int .i64 x.op.val.kind, .int .i64 x.op.val.int_, .int .i64 x.op.val.to_, .string x.op.val.text, x.it]
theorem coV_len (x : COm) : (coV x).length = 17 := rfl
def CA (x : COm) : Value := .agg #[.int .i64 x.op.st.time, .int .i64 x.op.st.cp, .int .i64 x.op.kind, .int .i64 x.op.id, .int .i64 x.op.parent, .int .i64 x.op.left, .int .i64 x.op.aft.st.time, .int .i64 x.op.aft.st.cp, .int .i64 x.op.aft.at_, .string x.op.oct, x.sp, .string x.op.name, .int .i64 x.op.val.kind, .int .i64 x.op.val.int_, .int .i64 x.op.val.to_, .string x.op.val.text, x.it]
/-- numbers that an int holds, a text of a size -/
def CI (o : COp) : Prop := STI o.st ∧ I64 o.kind ∧ I64 o.id ∧ I64 o.parent ∧ I64 o.left ∧ SPI o.aft ∧ o.oct.size ≤ 140737488351232
def RC1 (W : World) (B : Nat) (x : COm) : Prop := RSp W B x.sp x.op.spots ∧ RV W B x.it x.op.val.items ∧ CI x.op
def RCs (W : World) (B : Nat) (v : Value) (l : List COp) : Prop := ∃ A n c, ∃ M : List COm, M.map COm.op = l ∧ v = .slice A n c ∧ n = M.length ∧ (n ≤ c ∧ n * 192 ≤ 140737488351232) ∧ Reads W B 17 A n (M.flatMap coV) ∧ ∀ x ∈ M, RC1 W B x
section
variable {W W' : World} {B B' : Nat} {v : Value}
theorem RSp.below {l : List Spt} (h : RSp W B v l) (hb : Below B W W') : RSp W' B v l := by
  obtain ⟨A, n, c, h1, h2, h3, h4, h5⟩ := h
  exact ⟨A, n, c, h1, h2, h3, h4.below hb, h5⟩
theorem RSp.more {l : List Spt} (h : RSp W B v l) (hB : B ≤ B') : RSp W B' v l := by
  obtain ⟨A, n, c, h1, h2, h3, h4, h5⟩ := h
  exact ⟨A, n, c, h1, h2, h3, h4.more hB, h5⟩
theorem RSp.slice {l : List Spt} (h : RSp W B v l) : ∃ A n c, v = .slice A n c := by
  obtain ⟨A, n, c, h1, _⟩ := h
  exact ⟨A, n, c, h1⟩
theorem RSp.len {A : Option Addr} {n c : Nat} {l : List Spt} (h : RSp W B (.slice A n c) l) : n = l.length ∧ n ≤ c ∧ n * 24 ≤ 140737488351232 := by
  obtain ⟨A', n', c', e, h1, h2, _⟩ := h
  injection e with e1 e2 e3
  subst e2 e3
  exact ⟨h1, h2⟩
/-- a spot in a row -/
theorem RSp.at_ {A : Option Addr} {n c : Nat} {l : List Spt} (h : RSp W B (.slice A n c) l) {k : Nat} {x : Spt} (hk : l[k]? = some x) :
    ∃ b off, A = some ⟨b, off, none⟩ ∧ b < B ∧ W.cell? ⟨b, off + k * 3, none⟩ = some (.int .i64 x.st.time) ∧ W.cell? ⟨b, off + k * 3 + 1, none⟩ = some (.int .i64 x.st.cp) ∧ W.cell? ⟨b, off + k * 3 + 2, none⟩ = some (.int .i64 x.at_) := by
  obtain ⟨A', n', c', e, h1, h2, h3, _⟩ := h
  injection e with e1 e2 e3
  subst e1 e2 e3
  obtain ⟨b, off, e, hb, hc⟩ := h3.plain_at (by omega) spV_len h1 hk
  exact ⟨b, off, e, hb, hc 0 _ rfl, hc 1 _ rfl, hc 2 _ rfl⟩
theorem RC1.below {x : COm} (h : RC1 W B x) (hb : Below B W W') : RC1 W' B x := ⟨h.1.below hb, h.2.1.below hb, h.2.2⟩
theorem RC1.more {x : COm} (h : RC1 W B x) (hB : B ≤ B') : RC1 W B' x := ⟨h.1.more hB, h.2.1.more hB, h.2.2⟩
theorem RC1.slices {x : COm} (h : RC1 W B x) : ∃ A n c A' n' c', x = ⟨x.op, .slice A n c, .slice A' n' c'⟩ := by
  obtain ⟨o, s, i⟩ := x
  obtain ⟨A, n, c, h1⟩ := h.1.slice
  obtain ⟨A', n', c', h2⟩ := RV.slice h.2.1
  dsimp only at h1 h2
  subst h1 h2
  exact ⟨A, n, c, A', n', c', rfl⟩
theorem RCs.below {l : List COp} (h : RCs W B v l) (hb : Below B W W') : RCs W' B v l := by
  obtain ⟨A, n, c, M, h1, h2, h3, h4, h5, h6⟩ := h
  exact ⟨A, n, c, M, h1, h2, h3, h4, h5.below hb, fun x hx => (h6 x hx).below hb⟩
theorem RCs.more {l : List COp} (h : RCs W B v l) (hB : B ≤ B') : RCs W B' v l := by
  obtain ⟨A, n, c, M, h1, h2, h3, h4, h5, h6⟩ := h
  exact ⟨A, n, c, M, h1, h2, h3, h4, h5.more hB, fun x hx => (h6 x hx).more hB⟩
theorem RCs.slice {l : List COp} (h : RCs W B v l) : ∃ A n c, v = .slice A n c := by
  obtain ⟨A, n, c, M, _, h1, _⟩ := h
  exact ⟨A, n, c, h1⟩
theorem RCs.len {A : Option Addr} {n c : Nat} {l : List COp} (h : RCs W B (.slice A n c) l) : n = l.length ∧ n ≤ c ∧ n * 192 ≤ 140737488351232 := by
  obtain ⟨A', n', c', M, h1, e, h2, h3, _⟩ := h
  injection e with e1 e2 e3
  subst e2 e3
  exact ⟨by rw [h2, ← h1, List.length_map], h3⟩
/-- an operation in a row -/
theorem RCs.at_ {A : Option Addr} {n c : Nat} {l : List COp} (h : RCs W B (.slice A n c) l) {k : Nat} {o : COp} (hk : l[k]? = some o) :
    ∃ b off As ns cs Ai ni ci, A = some ⟨b, off, none⟩ ∧ b < B ∧ (∀ i u, (coV ⟨o, .slice As ns cs, .slice Ai ni ci⟩)[i]? = some u → W.cell? ⟨b, off + k * 17 + i, none⟩ = some u) ∧ RC1 W B ⟨o, .slice As ns cs, .slice Ai ni ci⟩ := by
  obtain ⟨A', n', c', M, h1, e, h2, h3, h4, h5⟩ := h
  injection e with e1 e2 e3
  subst e1 e2 e3
  obtain ⟨y, hy, rfl⟩ : ∃ y, M[k]? = some y ∧ y.op = o := by
    rw [← h1, List.getElem?_map, Option.map_eq_some_iff] at hk
    exact hk
  obtain ⟨b, off, e, hb, hc⟩ := h4.plain_at (by omega) coV_len h2 hy
  have k1 := h5 y (List.mem_of_getElem? hy)
  obtain ⟨As, ns, cs, Ai, ni, ci, hye⟩ := k1.slices
  rw [hye] at hc k1
  exact ⟨b, off, As, ns, cs, Ai, ni, ci, e, hb, hc, k1⟩
end
end Go.Proofs.YtinllchioeldbaaGreatDoor
