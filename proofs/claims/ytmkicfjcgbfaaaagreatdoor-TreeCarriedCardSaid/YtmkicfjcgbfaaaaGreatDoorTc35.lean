/-
  DERIVED. The outline of a block, as text: plain facts.
  The walks of tree.OutlineText and the reference's OutlineOf. Conditions: sizes.
  The outline of a block, read: plain law. Conditions: texts without control characters, depths that step down by one at most.
  By an AI agent.
-/
import Derived.Test.YtmkicfjcgbfaaaaGreatDoorTc24
import Derived.Test.YtmkicfjcgbfaaaaGreatDoorTc29
import Derived.Test.YtmkicfjcgbfaaaaGreatDoorTc17
import Derived.Test.YtmkicfjcgbfaaaaGreatDoorTc06
import Derived.Test.YtmkicfjcgbfaaaaGreatDoorTc04
import Derived.Test.YtmkicfjcgbfaaaaGreatDoorTc19
import Derived.Test.YtmkicfjcgbfaaaaGreatDoorTc33
import Derived.Test.YtmkicfjcgbfaaaaGreatDoorTc15
namespace Go.Proofs.YtmkicfjcgbfaaaaGreatDoor
open Go.RowKit

/-- two spaces a level -/
def indB (k : Nat) : ByteArray := ⟨(Lib.repeatL (⟨#[32, 32]⟩ : ByteArray).data.toList k).toArray⟩
/-- the line of a block -/
def olB (k : Nat) (t : ByteArray) : ByteArray := indB k ++ ⟨#[45, 32]⟩ ++ t ++ ⟨#[10]⟩
/-- the lines of the blocks of a list, below one at depth d -/
def olS (l : List Bl) (f : Int → Option Int) (d : Nat) (L : List Int) : List ByteArray := L.map fun k => olB (dOf f k - (d + 1)) (blkAt l k).text
/-- one behind the other -/
def catA (xs : List ByteArray) : ByteArray := ⟨(Lib.join (xs.map (·.data.toList)) ((⟨#[]⟩ : ByteArray).data.toList)).toArray⟩
theorem join_flat : ∀ xs : List (List UInt8), Lib.join xs [] = xs.flatten
  | [] => rfl
  | [x] => by rw [Lib.join_one]; simp
  | x :: y :: r => by
    have := join_flat (y :: r)
    rw [List.flatten_cons, ← this]
    simp [Lib.join]
theorem catA_nil : catA [] = ⟨#[]⟩ := rfl
theorem catA_snoc (xs : List ByteArray) (x : ByteArray) : catA (xs ++ [x]) = catA xs ++ x := by
  apply ByteArray.ext
  unfold catA
  rw [show ((⟨#[]⟩ : ByteArray).data.toList) = [] from rfl, join_flat, join_flat, List.map_append, List.flatten_append]
  simp [ByteArray.data_append]
theorem strCells_app (a b : ByteArray) : Lib.strCells (a ++ b) = Lib.strCells a ++ Lib.strCells b := by
  rw [strCells_byte, strCells_byte, strCells_byte, ByteArray.data_append]
  simp [Lib.byteCells]
theorem repeatL_len (a b : UInt8) : ∀ k, (Lib.repeatL [a, b] k).length = 2 * k
  | 0 => rfl
  | k + 1 => by
    have := repeatL_len a b k
    simp [Lib.repeatL] at this ⊢
    omega
theorem indB_size (k : Nat) : (indB k).size = 2 * k := by
  show (Lib.repeatL [32, 32] k).toArray.size = _
  rw [List.size_toArray, repeatL_len]
theorem olB_size (k : Nat) (t : ByteArray) : (olB k t).size = 2 * k + t.size + 3 := by
  unfold olB
  rw [ByteArray.size_append, ByteArray.size_append, ByteArray.size_append, indB_size]
  show 2 * k + 2 + t.size + 1 = _
  omega
theorem catA_size (xs : List ByteArray) (m : Nat) (h : ∀ x ∈ xs, x.size ≤ m) : (catA xs).size ≤ xs.length * m := by
  have key : ∀ ys : List ByteArray, (∀ x ∈ ys, x.size ≤ m) → ((ys.map (·.data.toList)).flatten).length ≤ ys.length * m := by
    intro ys
    induction ys with
    | nil => intro _; simp
    | cons y ys ih =>
      intro hy
      rw [List.map_cons, List.flatten_cons, List.length_append, List.length_cons, Nat.succ_mul]
      have h1 : y.data.toList.length = y.size := Array.length_toList
      have h2 := hy y (by simp)
      have h3 := ih fun x hx => hy x (by simp [hx])
      omega
  show (Lib.join (xs.map (·.data.toList)) []).toArray.size ≤ _
  rw [join_flat, List.size_toArray]
  exact key xs h
/-- what is known of a block below another one -/
structure Under (l : List Bl) (f : Int → Option Int) (d : Nat) (k : Int) (p : Nat) (x : Bl) : Prop where
  pos : posOf l k = (p : Int)
  at_ : l[p]? = some x
  id : x.id = k
  blk : blkAt l k = x
  dp : Dp l k (dOf f k)
  gt : d + 1 ≤ dOf f k
  le : dOf f k ≤ 40
  txt : x.text.size ≤ 65536
theorem Good.under {l : List Bl} {f : Int → Option Int} (G : Good l f) {id : Int} {d : Nat} (hd : Dp l id d) {k : Int} (hk : k ∈ ord l (41 - d) id) : ∃ p x, Under l f d k p x := by
  obtain ⟨j, hj, _⟩ := ord_mem G.kids _ hd hk
  have h40 := G.low' k _ hj
  obtain ⟨y, hy, hyi⟩ := hj.mem G.kids
  have hf : f k = some ((d + (j + 1) : Nat) : Int) := (G.dep _ _).2 ⟨_, rfl, hj⟩
  have hdo : dOf f k = d + (j + 1) := by
    unfold dOf
    rw [hf]
    show ((d + (j + 1) : Nat) : Int).toNat = _
    exact Int.toNat_natCast _
  obtain ⟨p, hp⟩ := List.mem_iff_getElem?.1 hy
  have hpos := posOf_of G.kids.rise hp
  rw [hyi] at hpos
  refine ⟨p, y, hpos, hp, hyi, ?_, by rw [hdo]; exact hj, by omega, by omega, txt_size (G.tree.loc y hy).1⟩
  exact blkAt_of hpos hp
end Go.Proofs.YtmkicfjcgbfaaaaGreatDoor
namespace Go.Proofs.YtmkicfjcgbfaaaaGreatDoor
open Go.RowKit

set_option maxRecDepth 100000 in
set_option maxHeartbeats 2000000 in
/-- tree.OutlineText at a base with an error, or of a block that is none -/
theorem outlineText_bad (l : List Bl) (f : Int → Option Int) (hf : DepOk l f) (A : Option Addr) (n c : Nat) (id : Int) (hid : I64 id) (w : World) (h : RB w w.heap.size (.slice A n c) l) (hne : ciE l f id ≠ 0) :
    Calls Tryz.prog 5 #[.slice A n c, .int .i64 id] w fun e w' => e = .returned (.tuple #[.string ⟨#[]⟩, .int .i64 (ciE l f id)]) ∧ Below w.heap.size w w' := by
  have HC := Lib.hid (checkId_any l f A n c id hid w w.heap.size (Nat.le_refl _) h hf)
  obtain ⟨er, her⟩ : ∃ er, er = ciE l f id := ⟨_, rfl⟩
  rw [← her] at HC hne ⊢
  have h0' : (er != 0) = true := by simpa using hne
  clear her hne h hid
  go_enter Tryz.func5, Tryz.ntmps5
  go_wp2_with fail
  refine HC.out.mono ?_
  rintro e w1 ⟨rfl, hb1⟩
  have HB1 := Lib.hid hb1
  clear hb1
  go_wp2_with fail
  go_ret2
  exact ⟨rfl, HB1.out⟩
set_option maxRecDepth 100000 in
set_option maxHeartbeats 8000000 in
/-- tree.OutlineText -/
theorem outlineText_any (l : List Bl) (f : Int → Option Int) (G : Good l f) (A : Option Addr) (n c : Nat) (id : Int) (hid : I64 id) (d : Nat) (hD : Dp l id d) (hc0 : ciE l f id = 0) (w : World) (h : RB w w.heap.size (.slice A n c) l) :
    Calls Tryz.prog 5 #[.slice A n c, .int .i64 id] w fun e w' => e = .returned (.tuple #[.string (catA (olS l f d (ord l (41 - d) id))), .int .i64 0]) ∧ Below w.heap.size w w' := by
  have h40 := G.low' id d hD
  have HC := Lib.hid (checkId_any l f A n c id hid w w.heap.size (Nat.le_refl _) h fun _ => G.dep)
  rw [hc0] at HC
  have HPA := Lib.hid fun W (hW : Below w.heap.size w W) => path_any l G.kids A n c id d hD h40 W w.heap.size hW.size (h.below hW)
  have HBE := Lib.hid fun W (hW : Below w.heap.size w W) => treeBelow_any l G.kids G.low' A n c w.heap.size (41 - d) id d W hD (by omega) hW.size (h.below hW)
  have HPK := Lib.hid fun (k : Int) (j : Nat) (hk : Dp l k j) W (hW : Below w.heap.size w W) => path_any l G.kids A n c k j hk (G.low' k j hk) W w.heap.size hW.size (h.below hW)
  have HIX := Lib.hid fun (k : Int) (hk : I64 k) W (hW : Below w.heap.size w W) => index_any l A n c k W w.heap.size hW.size (h.below hW) G.kids.rise G.kids.ids hk
  have HU := Lib.hid fun k hk => G.under (f := f) hD (k := k) hk
  obtain ⟨L, hL⟩ : ∃ L, L = ord l (41 - d) id := ⟨_, rfl⟩
  have hLs : L.length ≤ 2000 := by have := ord_short G.kids (41 - d) hD; have := G.kids.short; rw [hL]; omega
  have hn8 : n ≤ 2000 := by have := G.kids.short; have := h.len.1; omega
  rw [← hL] at HBE HU ⊢
  unfold IntsR at HBE
  have HH := Lib.hid h
  have HIDS := Lib.hid fun (p : Nat) (x : Bl) (hx : l[p]? = some x) => G.i64 hx
  have hsz : ∀ k, (catA ((olS l f d L).take k)).size ≤ 2000 * 70000 := fun k => by
    refine Nat.le_trans (catA_size _ 70000 fun x hx => ?_) ?_
    · have hx := List.mem_of_mem_take hx
      unfold olS at hx
      obtain ⟨y, hy, rfl⟩ := List.mem_map.1 hx
      obtain ⟨p, b, hu⟩ := HU.out y hy
      rw [olB_size, hu.blk]
      have := hu.txt; have := hu.le
      omega
    · have h1 : ((olS l f d L).take k).length ≤ 2000 := by rw [List.length_take]; unfold olS; rw [List.length_map]; omega
      exact Nat.mul_le_mul_right _ h1
  have HSZ := Lib.hid hsz
  have h40' : d ≤ 40 := h40
  have ww1 : IntKind.i64.wrap ((d : Int) + 1) = (d : Int) + 1 := IntWalk.i64_in _ (by omega)
  have HPL := Lib.hid (pth_len (l := l) d id)
  have HDD := Lib.hid hD
  clear hsz hL hc0 hD h G h40
  go_enter Tryz.func5, Tryz.ntmps5
  go_wp2_with fail
  refine HC.out.mono ?_
  rintro e w1 ⟨rfl, hb1⟩
  obtain ⟨wb, hwb⟩ : ∃ wb, wb = w1.alloc (.cells #[.pointer none, .slice none 0 0] 42) := ⟨_, rfl⟩
  have HB1 : Hid (Below w.heap.size w wb) := by rw [hwb]; exact hb1.alloc hb1.size _
  have P1 : Hid (Blk wb w1.heap.size 42 #[.pointer none, .slice none 0 0]) := by rw [hwb]; exact Blk.new _ _ _
  have hzb : w.heap.size ≤ w1.heap.size := hb1.size
  have HWB := Lib.hid hwb
  clear hb1 hwb
  go_upto_region 5 with fail
  rw [← HWB.out]
  obtain ⟨b, hbq⟩ : ∃ b, b = w1.heap.size := ⟨_, rfl⟩
  rw [← hbq] at P1 hzb ⊢
  clear hbq
  go_wp2_with fail
  refine (HPA.out wb HB1.out).mono ?_
  rintro e w2 ⟨⟨A2, n2, rfl, hr2⟩, hb2⟩
  have HB2 : Hid (Below w.heap.size w w2) := HB1.out.trans (hb2.mono HB1.out.size)
  have P2 := Lib.hid (P1.out.below hb2 P1.out.lt)
  obtain rfl : n2 = d := by
    have := (hr2.reads (B := w2.heap.size) fun b hb => hb.2).len.1
    rw [HPL.out] at this
    exact this
  clear hb2 hr2
  go_wp2_with fail
  refine (HBE.out w2 HB2.out).mono ?_
  rintro e w3 ⟨⟨A3, n3, c3, rfl, _, hr3, _, _⟩, hb3⟩
  have HB3 : Hid (Below w.heap.size w w3) := HB2.out.trans (hb3.mono HB2.out.size)
  have P3 := Lib.hid (P2.out.below hb3 P2.out.lt)
  have hb2lt : b < w2.heap.size := P2.out.lt
  have HR3 : Hid (RInX w3 (fun q => w2.heap.size ≤ q ∧ q < w3.heap.size) (.slice A3 n3 c3) L) := hr3
  have HN3 : Hid (n3 = L.length) := (hr3.reads (B := w3.heap.size) fun b hb => hb.2).len.1
  have hn3 : n3 ≤ 2000 := by have := HN3.out; omega
  have HBL0 : Hid (Bld b w3.heap.size (Lib.strCells (catA ((olS l f n2 L).take 0))) w3) := Bld.fresh P3.out.lt P3.out
  clear hb3 hr3
  go_wp2_with fail
  go_loopg [26] n3 (fun gg s26 wr => ∃ k : Nat, k + gg = n3 ∧ s26 = .int .i64 (k : Int) ∧ Hid (Bld b w3.heap.size (Lib.strCells (catA ((olS l f n2 L).take k))) wr) ∧ Hid (Keep b w3.heap.size w3 wr))
  case atStart => exact ⟨0, by omega, rfl, HBL0, Keep.refl _ _ _⟩
  case round =>
    obtain ⟨k, hkg, rfl, hbld, hkeep⟩ := hrel
    obtain ⟨W1, rfl⟩ : ∃ W1, W1 = wr := ⟨_, rfl⟩
    have hz1 : w3.heap.size ≤ W1.heap.size := hkeep.out.1.size
    have HBW : Hid (Below w.heap.size w W1) := HB3.out.trans (hkeep.out.1.mono hzb)
    by_cases hk : k < n3
    · obtain ⟨x, hx⟩ : ∃ x, L[k]? = some x := ⟨_, List.getElem?_eq_getElem (by have := HN3.out; omega)⟩
      obtain ⟨p, y, hu⟩ := HU.out x (List.mem_of_getElem? hx)
      have HTK : Hid ((olS l f n2 L).take (k + 1) = (olS l f n2 L).take k ++ [olB (dOf f x - (n2 + 1)) y.text]) := by
        show _ = _
        unfold olS
        rw [List.take_add_one, List.getElem?_map, hx, ← hu.blk]; rfl
      obtain ⟨cb, co, rfl, hcb, hcc⟩ : ∃ cb co, A3 = some ⟨cb, co, none⟩ ∧ (w2.heap.size ≤ cb ∧ cb < w3.heap.size) ∧ w3.cell? ⟨cb, co + k, none⟩ = some (.int .i64 x) := by
        obtain ⟨cb, co, e1, e2, e3⟩ := (HR3.out.reads (B := w3.heap.size) fun b hb => hb.2).at_ hx
        obtain ⟨A', n', c', e4, _, _, hrd, _⟩ := HR3.out
        injection e4 with e5 e6 e7
        obtain ⟨ad, e8, e9, _⟩ := hrd.2 (by omega)
        rw [← e5, e1] at e8
        have e8 : (⟨cb, co, none⟩ : Addr) = ad := Option.some.inj e8
        exact ⟨cb, co, e1, by rw [← e8] at e9; exact e9, e3⟩
      have c0 : W1.cell? ⟨cb, co + k, none⟩ = some (.int .i64 x) := (Keep.cell hkeep.out (p := ⟨cb, co + k, none⟩) hcb.2 (by show cb ≠ b; omega)).trans hcc
      have k0 : (0 : Int) ≤ (k : Int) := by omega
      have k1 : (k : Int) < (n3 : Int) := by omega
      have HXI : I64 x := by have := HIDS.out p y hu.at_; rw [hu.id] at this; exact this
      have HPX := Lib.hid (HPK.out x (dOf f x) hu.dp)
      have HPLX := Lib.hid (pth_len (l := l) (dOf f x) x)
      have HIXX := Lib.hid (HIX.out x HXI)
      rw [hu.pos] at HIXX
      obtain ⟨j, hj⟩ : ∃ j, j = dOf f x := ⟨_, rfl⟩
      have hj1 : n2 + 1 ≤ j := by rw [hj]; exact hu.gt
      have hj2 : j ≤ 40 := by rw [hj]; exact hu.le
      rw [← hj] at HPX HPLX HTK
      have hpn : p < n := by have := (List.getElem?_eq_some_iff.1 hu.at_).1; have := HH.out.len.1; omega
      obtain ⟨yb, yo, _, _, _, _, _, _, rfl, hyb, _, _, _, g3, _⟩ := HH.out.at_ hu.at_
      have HT : Hid (y.text.size ≤ 65536) := hu.txt
      have G3 := Lib.hid g3
      have p0 : (0 : Int) ≤ (p : Int) := by omega
      have p1 : (p : Int) < (n : Int) := by omega
      obtain ⟨ty, hty⟩ : ∃ ty, ty = y.text := ⟨_, rfl⟩
      rw [← hty] at HTK HT G3
      have hty8 : ty.size ≤ 65536 := HT.out
      obtain ⟨m, hm⟩ : ∃ m : Nat, m = j - (n2 + 1) := ⟨_, rfl⟩
      have hwm : IntKind.i64.wrap ((j : Int) - ((n2 : Int) + 1)) = (m : Int) := by rw [IntWalk.i64_in _ (by omega)]; omega
      have hm40 : m ≤ 40 := by omega
      rw [← hm] at HTK
      have HRP := Lib.hid fun W => Tryz.strings_Repeat ⟨#[32, 32]⟩ m W (by omega) (by show 2 * m ≤ _; omega)
      have hind : (⟨(Lib.repeatL (⟨#[32, 32]⟩ : ByteArray).data.toList m).toArray⟩ : ByteArray) = indB m := rfl
      rw [hind] at HRP
      have his : (indB m).size ≤ 80 := by rw [indB_size]; omega
      obtain ⟨I, hI⟩ : ∃ I, I = indB m := ⟨_, rfl⟩
      have HSN : Hid (catA ((olS l f n2 L).take (k + 1)) = catA ((olS l f n2 L).take k) ++ (I ++ ⟨#[45, 32]⟩ ++ ty ++ ⟨#[10]⟩)) := by
        show _ = _
        rw [HTK.out, catA_snoc, hI]; rfl
      have hcs := HSZ.out k
      rw [← hI] at HRP his
      have hs1 : (I ++ ⟨#[45, 32]⟩).size ≤ 82 := by rw [ByteArray.size_append]; show _ + 2 ≤ _; omega
      have hs2 : (I ++ ⟨#[45, 32]⟩ ++ ty).size ≤ 66000 := by rw [ByteArray.size_append]; omega
      have hs3 : (I ++ ⟨#[45, 32]⟩ ++ ty ++ ⟨#[10]⟩).size ≤ 66001 := by rw [ByteArray.size_append]; show _ + 1 ≤ _; omega
      obtain ⟨C, hC⟩ : ∃ C, C = catA ((olS l f n2 L).take k) := ⟨_, rfl⟩
      rw [← hC] at hbld HSN hcs
      have hcl : (Lib.strCells C).length ≤ 140000000 := by rw [Lib.strCells_length]; omega
      clear hx hu hcc hj g3 hty hm hind hI hC
      go_wp2_with fail
      refine (HPX.out W1 HBW.out).mono ?_
      rintro e w4 ⟨⟨A4, n4, rfl, hr4⟩, hb4⟩
      have HB4 : Hid (Below w.heap.size w w4) := HBW.out.trans (hb4.mono HBW.out.size)
      have HL4 := Lib.hid (Bld.below hbld.out hb4)
      have HK4 : Hid (Keep b w3.heap.size w3 w4) := Keep.trans hkeep.out (Keep.below hb4 (by omega) hz1)
      have hz4 : w3.heap.size ≤ w4.heap.size := Nat.le_trans hz1 hb4.size
      obtain rfl : n4 = j := by
        have := (hr4.reads (B := w4.heap.size) fun b hb => hb.2).len.1
        rw [HPLX.out] at this
        exact this
      clear hb4 hr4 c0
      go_wp2_with fail
      refine (HRP.out w4).mono ?_
      rintro e w5 ⟨rfl, hb5⟩
      have HB5 : Hid (Below w.heap.size w w5) := HB4.out.trans (hb5.mono HB4.out.size)
      have HL5 := Lib.hid (Bld.below HL4.out hb5)
      have HK5 : Hid (Keep b w3.heap.size w3 w5) := Keep.trans HK4.out (Keep.below hb5 (by omega) hz4)
      have hz5 : w3.heap.size ≤ w5.heap.size := Nat.le_trans hz4 hb5.size
      clear hb5
      go_wp2_with fail
      refine (HIXX.out w5 HB5.out).mono ?_
      rintro e w6 ⟨rfl, hb6⟩
      have HB6 : Hid (Below w.heap.size w w6) := HB5.out.trans (hb6.mono HB5.out.size)
      have HL6 := Lib.hid (Bld.below HL5.out hb6)
      have HK6 : Hid (Keep b w3.heap.size w3 w6) := Keep.trans HK5.out (Keep.below hb6 (by omega) hz5)
      have hz6 : w3.heap.size ≤ w6.heap.size := Nat.le_trans hz5 hb6.size
      have c3 : w6.cell? ⟨yb, yo + p * 5 + 3, none⟩ = some (.string ty) := (HB6.out.cell (p := ⟨yb, yo + p * 5 + 3, none⟩) (by show yb < _; omega)).trans G3.out
      have HWS := Lib.hid (writeString_any b w3.heap.size (Lib.strCells C) (I ++ ⟨#[45, 32]⟩ ++ ty ++ ⟨#[10]⟩) w6 HL6.out (by omega) hz6)
      clear hb6
      go_wp2_with fail
      refine HWS.out.mono ?_
      rintro e w7 ⟨rfl, hl7, hk7⟩
      have HL7 : Hid (Bld b w3.heap.size (Lib.strCells (catA ((olS l f n2 L).take (k + 1)))) w7) := by
        show Bld _ _ _ _
        rw [HSN.out, strCells_app]; exact hl7
      have HK7 : Hid (Keep b w3.heap.size w3 w7) := Keep.trans HK6.out hk7
      clear hl7 hk7 c3
      go_wp2_with fail
      go_roundg (n3 - (k + 1))
      case measure => omega
      case rel => exact ⟨k + 1, by omega, by go_num, HL7, HK7⟩
    · obtain rfl : k = n3 := by omega
      have hfin : (olS l f n2 L).take k = olS l f n2 L := List.take_of_length_le (by unfold olS; rw [List.length_map, HN3.out]; exact Nat.le_refl _)
      have hbf := hbld.out
      rw [hfin] at hbf
      have HST := Lib.hid (string_any b w3.heap.size _ W1 hbf)
      clear hfin hbf
      go_wp2_with fail
      refine HST.out.mono ?_
      rintro e w4 ⟨rfl, hb4⟩
      have HB4 : Hid (Below w.heap.size w w4) := HBW.out.trans (hb4.mono hzb)
      clear hb4
      go_wp2_with fail
      go_ret2
      exact ⟨rfl, HB4.out⟩
end Go.Proofs.YtmkicfjcgbfaaaaGreatDoor
namespace Go.Proofs.YtmkicfjcgbfaaaaGreatDoor
open Go.RowKit

theorem nl_not : ∀ {m : List UInt8}, (∀ b ∈ m, b ≠ 10) → nl m = -1
  | [], _ => nl_nil
  | b :: m, h => by
    rw [nl_cons, if_neg (h b (by simp)), nl_not fun x hx => h x (by simp [hx]), if_pos rfl]
theorem rep_mem : ∀ (k : Nat) (b : UInt8), b ∈ Lib.repeatL [32, 32] k → b = 32
  | 0, b, h => by simp [Lib.repeatL] at h
  | k + 1, b, h => by
    rw [show Lib.repeatL [32, 32] (k + 1) = [32, 32] ++ Lib.repeatL [32, 32] k from by simp [Lib.repeatL]] at h
    rcases List.mem_append.1 h with h | h
    · simpa using h
    · exact rep_mem k b h
theorem drop_rep (r : List UInt8) : ∀ k, Lib.trimLeftB (Lib.repeatL [32, 32] k ++ 45 :: r) 32 = 45 :: r
  | 0 => rfl
  | k + 1 => by
    have ih := drop_rep r k
    rw [show Lib.repeatL [32, 32] (k + 1) = [32, 32] ++ Lib.repeatL [32, 32] k from by simp [Lib.repeatL]]
    unfold Lib.trimLeftB at ih ⊢
    simpa using ih
theorem olB_list (k : Nat) (t : ByteArray) : (olB k t).data.toList = Lib.repeatL [32, 32] k ++ 45 :: 32 :: t.data.toList ++ [10] := by
  unfold olB indB
  simp [ByteArray.data_append]
theorem line_ok (k : Nat) (t : List UInt8) : lineOk (Lib.repeatL [32, 32] k ++ 45 :: 32 :: t) = some (k, t) := by
  have h1 := drop_rep (32 :: t) k
  have h2 : (Lib.repeatL [32, 32] k ++ 45 :: 32 :: t).length - (Lib.trimLeftB (Lib.repeatL [32, 32] k ++ 45 :: 32 :: t) 32).length = 2 * k := by
    rw [h1, List.length_append, repeatL_len]
    omega
  rw [lineOk_yes (by rw [h1]; rfl) (by rw [h2]; omega), h2, h1]
  congr 1
  simp
/-- depths that step down by one at most -/
def Steps : Int → List (Nat × ByteArray) → Prop
  | _, [] => True
  | last, x :: r => (x.1 : Int) ≤ last + 1 ∧ Steps x.1 r
theorem rd_lines : ∀ (ls : List (Nat × ByteArray)) (last : Int), Steps last ls → (∀ x ∈ ls, ∀ b ∈ x.2.data.toList, b ≠ 10) → outl ((ls.map fun x => (olB x.1 x.2).data.toList).flatten) last = some (ls.map fun x => (x.1, x.2.data.toList))
  | [], last, _, _ => by unfold outl; rw [List.map_nil, List.flatten_nil, rd_nil]; rfl
  | x :: ls, last, ⟨h1, h2⟩, h => by
    have ih := rd_lines ls x.1 h2 fun y hy => h y (by simp [hy])
    obtain ⟨m, hm⟩ : ∃ m, m = Lib.repeatL [32, 32] x.1 ++ 45 :: 32 :: x.2.data.toList := ⟨_, rfl⟩
    have hb : ∀ b ∈ m, b ≠ 10 := fun b hb e => by
      rw [hm] at hb
      rcases List.mem_append.1 hb with hb | hb
      · rw [rep_mem _ _ hb] at e; cases e
      · rcases List.mem_cons.1 hb with hb | hb
        · rw [hb] at e; cases e
        · rcases List.mem_cons.1 hb with hb | hb
          · rw [hb] at e; cases e
          · exact h x (by simp) b hb e
    obtain ⟨R, hR⟩ : ∃ R, R = (ls.map fun x => (olB x.1 x.2).data.toList).flatten := ⟨_, rfl⟩
    rw [← hR] at ih
    rw [List.map_cons, List.flatten_cons, olB_list, ← hm, ← hR, List.append_assoc]
    have hn : nl (m ++ ([10] ++ R)) = (m.length : Int) := by
      rw [nl_app, nl_not hb, if_pos rfl, show ([10] ++ R : List UInt8) = 10 :: R from rfl, nl_cons, if_pos rfl, if_neg (by decide)]
      omega
    rw [outl_step _ (by simp), hn, if_neg (by omega), Int.toNat_natCast, List.take_left, show m.length + 1 = (m ++ [10]).length by simp, ← List.append_assoc, List.drop_left, hm, line_ok]
    dsimp only
    rw [if_neg (by omega), ih]
    rfl
end Go.Proofs.YtmkicfjcgbfaaaaGreatDoor
