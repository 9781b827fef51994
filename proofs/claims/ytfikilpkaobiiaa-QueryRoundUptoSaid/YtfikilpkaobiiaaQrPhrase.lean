/-
  DERIVED. The walk of find's reader.phrase along a written phrase. Conditions: sizes. By an AI agent.
-/
import Derived.Test.YtfikilpkaobiiaaQrRdPart
namespace Go.Proofs.Ytfikilpkaobiiaa
open Go.RowKit Go.Shelf

attribute [local go_sem] Oper.semAt_some

theorem join_no34 : ∀ (ws : List ByteArray), (∀ x ∈ ws, isW x) → ∀ k, bt (joinB ws bSp) k ≠ 34
  | [], _, k => by rw [bt_out (by show (0 : Nat) ≤ k; omega)]; decide
  | [x], h, k => by
    rw [joinB_one]
    intro e
    have hk := bt_in (s := x) (i := k) (by omega)
    have := (h x (List.mem_singleton.2 rfl)).2.2.1 k hk
    rw [e] at this
    exact absurd this (by decide)
  | x :: y :: r, h, k => by
    rw [joinB_cons, bt_app]
    have ih := join_no34 (y :: r) (fun z hz => h z (List.mem_cons_of_mem _ hz))
    split
    · rw [bt_app]
      split
      · rename_i _ hk
        intro e
        have := (h x List.mem_cons_self).2.2.1 k hk
        rw [e] at this
        exact absurd this (by decide)
      · rename_i h1 h2
        rw [ByteArray.size_append] at h1
        have h3 : bSp.size = 1 := rfl
        rw [show k - x.size = 0 by omega]
        decide
    · exact ih _
theorem ext_is {s J : ByteArray} {i : Nat} (hi : i + J.size ≤ s.size) (hat : ∀ k, k < J.size → bt s (i + k) = bt J k) : s.extract i (i + J.size) = J := by
  apply ByteArray.ext_getElem
  · rw [ByteArray.size_extract]; omega
  · intro k h5 h6
    have := hat k h6
    rw [bt_at h6, bt_at (by omega)] at this
    rw [ByteArray.getElem_extract]
    exact UInt8.toNat_inj.1 (by omega)
theorem index34 {s J : ByteArray} {i : Nat} (hi : i + J.size < s.size) (hat : ∀ k, k < J.size → bt s (i + k) = bt J k) (hJ : ∀ k, bt J k ≠ 34) (hq : bt s (i + J.size) = 34) (W : World) :
    Calls Try.prog 36 #[.string (s.extract i s.size), .int .u8 34] W fun e w' => e = .returned (.int .i64 (J.size : Int)) ∧ w' = W := by
  refine (Try.strings_IndexByte (s.extract i s.size) 34 W).mono ?_
  rintro e w' ⟨rfl, rfl⟩
  refine ⟨?_, rfl⟩
  have hu : upto (isC 34) s i = i + J.size := upto_eq (by omega) (by omega) (fun j h1 h2 => by
    obtain ⟨k, rfl⟩ : ∃ k, j = i + k := ⟨j - i, by omega⟩
    rw [hat k (by omega)]
    exact beq_eq_false_iff_ne.2 (hJ k)) (.inr (by rw [hq]; rfl))
  have h1 := indexByte_upto s 34 _ i rfl
  rw [show ((34 : UInt8).toNat : Int) = 34 from rfl, hu, if_pos hi] at h1
  rw [ext_list, show ((34 : Int).toNat.toUInt8) = 34 from rfl, h1]
  congr 2
  omega

def txV (L : List Wd) : List Value := L.map fun x => .string x.text
theorem holdsP_own (n₁ B : Nat) : Own (fun (pre : List Wd) W => ∃ v, Blk W B 40 #[.int .i64 3, v] ∧ W.ownsRow n₁ 9 1 v pre.length (txV pre)) := by
  rintro s X Y row ⟨v, hv, hr⟩ hg hrow
  refine ⟨v, hv.grown hg (fun e' => ?_), hr.kept hg ?_⟩
  · obtain ⟨o, ho, hc⟩ := hrow B e'.symm
    rw [show X.heap[B]? = _ from hv] at ho; cases ho; cases hc
  · rcases hr.2 with ⟨rfl, _⟩ | ⟨g, cap, cur, rfl, _, hgb, _⟩
    · exact .inl rfl
    · refine .inr fun e' => ?_
      obtain ⟨o, ho, hc⟩ := hrow g (by simpa [Value.ownBlock] using e'.symm)
      rw [hgb] at ho; cases ho; cases hc
theorem grownBy_setCell1 (W : World) (b i : Nat) (v : Value) : W.grownBy (W.setCell ⟨b, i, none⟩ v) (some b) :=
  ⟨rfl, rfl, rfl, (KeepsWalks.setCell W _ v).size, fun k _ hk => Below.heap_setCell _ _ _ k (fun e => hk (by rw [e]))⟩
theorem part_appended {W w1 : World} {n₀ n₁ B Bs k m : Nat} {v v' : Value} {xs ys : List Value} {tmp : Obj}
    (hv : Blk W B 40 #[.int .i64 3, v]) (hrow : W.ownsRow n₁ 9 1 v k xs) (hn₁ : n₁ ≤ W.heap.size) (hB : n₀ ≤ B) (h01 : n₀ ≤ n₁) (hBs : Bs < n₁) (hne : Bs ≠ B)
    (hown' : w1.ownsRow n₁ 9 1 v' m ys) (hgrow : (W.alloc tmp).grownBy w1 v.ownBlock) :
    Blk w1 B 40 #[.int .i64 3, v] ∧ Blk (w1.setCell ⟨B, 1, none⟩ v') B 40 #[.int .i64 3, v'] ∧ (w1.setCell ⟨B, 1, none⟩ v').ownsRow n₁ 9 1 v' m ys ∧ KeepsOthers W (w1.setCell ⟨B, 1, none⟩ v') ∧ Below n₀ W (w1.setCell ⟨B, 1, none⟩ v') ∧ KB Bs W (w1.setCell ⟨B, 1, none⟩ v') := by
  have hnb := own_blk_ne hrow hv (by decide)
  have hv1 : Blk w1 B 40 #[.int .i64 3, v] := (hv.alloc tmp).grown hgrow (fun e => hnb e.symm)
  have hb : Below n₀ W (w1.setCell ⟨B, 1, none⟩ v') := by
    refine (((Below.refl n₀ W).alloc (by omega) tmp).grown hgrow (by simp; omega) fun j ej => ?_).setCell (p := ⟨B, 1, none⟩) hB v'
    rcases hrow.2 with ⟨rfl, _⟩ | ⟨g, cap, cur, rfl, hb, _, _⟩
    · simp [Value.ownBlock] at ej
    · obtain rfl : g = j := by simpa [Value.ownBlock] using ej
      omega
  refine ⟨hv1, hv1.set_ 1 v', hown'.kept (grownBy_setCell1 w1 B 1 v') (.inr (own_blk_ne hown' hv1 (by decide))), ?_, hb, hb.size, ?_⟩
  · refine ((KeepsOthers.alloc W tmp).trans (KeepsOthers.of_grownBy hgrow fun j o ej hj => ?_)).trans (KeepsOthers.setCell _ _ _)
    rcases (hrow.alloc tmp).2 with ⟨rfl, _⟩ | ⟨g, cap, cur, rfl, _, hgb, _⟩
    · simp [Value.ownBlock] at ej
    · obtain rfl : g = j := by simpa [Value.ownBlock] using ej
      rw [hgb] at hj; cases hj; rfl
  · refine (Below.heap_setCell _ _ _ Bs hne).trans ((hgrow.block Bs (by simp; omega) (fun e => ?_)).trans (Below.heap_alloc W tmp Bs (by omega)))
    rcases hrow.2 with ⟨rfl, _⟩ | ⟨g, cap, cur, rfl, hb, _, _⟩
    · simp [Value.ownBlock] at e
    · obtain rfl : Bs = g := by simpa [Value.ownBlock] using e
      omega

theorem ph_fin {W W0 w : World} {g D n c j : Nat} {s : ByteArray} {A : Option Addr} {ws : List ByteArray} {i : Nat} (hR : Rd W g s i (-1)) (hP : Blk W w.heap.size 40 #[.int .i64 0, .slice none 0 0]) (hr : Reads W W.heap.size 1 A n (ws.map .string))
    (had : ∀ ad, A = some ad → W0.heap.size ≤ ad.block) (h0 : w.heap.size < W0.heap.size) (hD : W0.heap.size ≤ D) (hK : W.heap[D]? = some (Obj.deferred (some []))) (hB : Below w.heap.size w W) (hg : g < w.heap.size) (hn : n = ws.length) (hnc : n ≤ c) (WF : World)
    (hWF : WF = ((W.setCell ⟨g, 1, none⟩ (.int .i64 (j : Int))).setCell ⟨w.heap.size, 0, none⟩ (.int .i64 3)).setCell ⟨w.heap.size, 1, none⟩ (.slice A n c)) :
    WF.heap[D]? = some (Obj.deferred (some [])) ∧ (WF.putObj D (.deferred none)).cell? ⟨w.heap.size, 0, none⟩ = some (.int .i64 3) ∧ (WF.putObj D (.deferred none)).cell? ⟨w.heap.size, 1, none⟩ = some (.slice A n c) ∧
      RWn g (WF.putObj D (.deferred none)) (WF.putObj D (.deferred none)).heap.size (.slice A n c) ws ∧ Rd (WF.putObj D (.deferred none)) g s j (-1) ∧ Kp g w.heap.size w (WF.putObj D (.deferred none)) := by
  have hF : WF.heap[D]? = some (Obj.deferred (some [])) := by
    rw [hWF, Below.heap_setCell _ _ _ D (by show D ≠ w.heap.size; omega), Below.heap_setCell _ _ _ D (by show D ≠ w.heap.size; omega), Below.heap_setCell _ _ _ D (by show D ≠ g; omega)]
    exact hK
  have hput : ∀ {b : Nat} {t : TypeId} {cs : Array Value}, Blk WF b t cs → b ≠ D → Blk (WF.putObj D (.deferred none)) b t cs := fun hb hne => (World.putObj_heap_other hne).trans hb
  have hPF : Blk WF w.heap.size 40 #[.int .i64 3, .slice A n c] := by
    rw [hWF]
    exact Blk.set_ (Blk.set_ (hP.far (by show w.heap.size ≠ g; omega) _) 0 (.int .i64 3)) 1 (.slice A n c)
  have hRF : Rd WF g s j (-1) := by
    rw [hWF]
    exact ((Blk.set_ hR 1 (.int .i64 (j : Int))).far (by show g ≠ w.heap.size; omega) _).far (by show g ≠ w.heap.size; omega) _
  have hsz : (WF.putObj D (.deferred none)).heap.size = W.heap.size := by rw [hWF]; simp [World.setCell]
  have hp := hput hPF (by omega)
  refine ⟨hF, hp.cell 0, hp.cell 1, ⟨A, n, c, rfl, hn, hnc, ⟨hr.1, fun hpos => ?_⟩, fun ad e => by have := had ad e; omega⟩, hput hRF (by omega), ?_⟩
  · obtain ⟨ad, e, hlt, hc⟩ := hr.2 hpos
    have hb := had ad e
    refine ⟨ad, e, by rw [hsz]; exact hlt, fun k u hu => ?_⟩
    have hcu := hc k u hu
    have hne : ad.block ≠ D := by
      intro e'
      unfold World.cell? at hcu
      rw [block_of_add, e', hK] at hcu
      cases hcu
    refine (World.cell?_of_block (a := ad.add k) ?_).trans hcu
    rw [block_of_add, World.putObj_heap_other hne, hWF, Below.heap_setCell _ _ _ _ (by show ad.block ≠ w.heap.size; omega), Below.heap_setCell _ _ _ _ (by show ad.block ≠ w.heap.size; omega), Below.heap_setCell _ _ _ _ (by show ad.block ≠ g; omega)]
  · refine Kp.trans ?_ (Kp.of_below (belowK_b (n₀ := w.heap.size) (w := w) (Nat.le_refl _) WF D _ _ (by omega) hF rfl rfl) (by omega))
    rw [hWF]
    exact ((Kp.of_below hB (by omega)).trans (Kp.set_ _ _ _)).trans (Kp.of_below (((Below.refl _ _).setCell (p := ⟨w.heap.size, 0, none⟩) (Nat.le_refl _) _).setCell (p := ⟨w.heap.size, 1, none⟩) (Nat.le_refl _) _) (by omega))

set_option maxRecDepth 100000 in
set_option maxHeartbeats 4000000 in
theorem rdPhrase (g : Nat) (s : ByteArray) (i : Nat) (ws : List ByteArray) (w : World) (h : Rd w g s i (-1)) (hw : ∀ x ∈ ws, isW x) (hne : 0 < ws.length) (hsz : s.size ≤ 4294967280)
    (hat : ∀ k, k < (joinB ws bSp).size → bt s (i + k) = bt (joinB ws bSp) k) (hq : bt s (i + (joinB ws bSp).size) = 34) :
    Calls Try.prog 33 #[.pointer (some ⟨g, 0, none⟩)] w fun e w' => ∃ v, e = .returned (.agg #[.int .i64 3, v]) ∧ RWn g w' w'.heap.size v ws ∧ Rd w' g s (i + (joinB ws bSp).size + 1) (-1) ∧ Kp g w.heap.size w w' ∧ Fr w.heap.size v := by
  obtain ⟨i0, hi0, hz0', hz1, hz2⟩ := info_parts str_info
  have hin : i + (joinB ws bSp).size < s.size := bt_in (by omega)
  have HI := Lib.hid (index34 hin hat (join_no34 ws hw) hq)
  have hext := ext_is (by omega) hat
  have hwj := words_join ws (joinB ws bSp) 0 hw (by omega) (fun k _ => by rw [Nat.zero_add])
  obtain ⟨J, hJ⟩ : ∃ J, J = joinB ws bSp := ⟨_, rfl⟩
  rw [← hJ] at hin HI hext hwj ⊢
  obtain ⟨m, hm⟩ : ∃ m, m = J.size := ⟨_, rfl⟩
  rw [← hm] at hin HI hext ⊢
  have hJz : J.size ≤ 4294967280 := by omega
  have HWJ := Lib.hid hwj
  have HNE := Lib.hid hne
  have H := Lib.hid h
  have hgw : g < w.heap.size := Blk.lt h
  have e1 : ∀ o, (w.alloc o).cell? ⟨g, 1, none⟩ = some (.int .i64 i) := fun o => (Blk.alloc h o).cell 1
  have e0 : ∀ o, (w.alloc o).cell? ⟨g, 0, none⟩ = some (.string s) := fun o => (Blk.alloc h o).cell 0
  have e2 : ∀ o o', ((w.alloc o).alloc o').cell? ⟨g, 0, none⟩ = some (.string s) := fun o o' => (Blk.alloc (Blk.alloc h o) o').cell 0
  have l0 : (0 : Int) ≤ (i : Int) := by omega
  have l1 : (i : Int) ≤ (s.size : Int) := by omega
  have l2 : (0 : Int) ≤ (m : Int) := by omega
  have l3 : (i : Int) + (m : Int) ≤ (s.size : Int) := by omega
  have l4 : (i : Int) ≤ (i : Int) + (m : Int) := by omega
  have l5 : ((i : Int) + (m : Int)).toNat = i + m := by omega
  have HT := Lib.hid hm
  have HEX := Lib.hid hext
  clear hJ hm hwj hne h hext hw hat hq
  refine (callsIn_wide (n := 6)).1 ?_
  refine callsIn_of_wp_marks Try.func33 rfl trivial ?_ rfl
  simp only [Try.ntmps33, List.size_toArray, List.length_cons, List.length_nil, Nat.reduceAdd, Nat.reduceSub, Array.replicate_succ, Array.replicate_zero, List.push_toArray, List.append_toArray, List.nil_append, List.cons_append]
  gi_wp2
  refine ⟨trivial, (callsIn_wide.2 (HI.out _)).mono ?_⟩
  rintro e w' ⟨rfl, rfl⟩
  gi_wp2
  refine ⟨trivial, (callsIn_wide.2 (wordsOf_any _ _)).mono ?_⟩
  rintro e w' ⟨rfl, rfl⟩
  rw [HEX.out]
  gi_wp2
  have hlen := words_len J _ 0 (Nat.le_refl _)
  have HW0 : Hid (∃ W0, W0 = ((w.alloc (.cells #[.int .i64 0, .slice none 0 0] 40)).alloc (.cells #[.int .i64 3, .slice none 0 0] 40)).alloc (.cells #[.string J] 9)) := ⟨_, rfl⟩
  obtain ⟨W0, hW0⟩ := HW0.out
  rw [← hW0]
  have BS0 : Blk W0 (w.heap.size + 1 + 1) 9 #[.string J] := by
    rw [hW0]
    have := Blk.new ((w.alloc (.cells #[.int .i64 0, .slice none 0 0] 40)).alloc (.cells #[.int .i64 3, .slice none 0 0] 40)) 9 #[.string J]
    simpa using this
  have BP0 : Blk W0 (w.heap.size + 1) 40 #[.int .i64 3, .slice none 0 0] := by
    rw [hW0]
    have := (Blk.new (w.alloc (.cells #[.int .i64 0, .slice none 0 0] 40)) 40 #[.int .i64 3, .slice none 0 0]).alloc (.cells #[.string J] 9)
    simpa using this
  have BR0 : Blk W0 w.heap.size 40 #[.int .i64 0, .slice none 0 0] := by rw [hW0]; exact ((Blk.new _ _ _).alloc _).alloc _
  have RD0 : Rd W0 g s i (-1) := by rw [hW0]; exact ((Blk.alloc H.out _).alloc _).alloc _
  have KW0 : Below w.heap.size w W0 := by rw [hW0]; exact (((Below.refl _ _).alloc (Nat.le_refl _) _).alloc (by simp) _).alloc (by simp; omega) _
  have hz0 : w.heap.size + 1 + 1 < W0.heap.size := BS0.lt
  clear hW0 HW0 e0 e1 e2
  refine wpIn_rangeFunc_ownH rfl (by decide) (gf := 27) (lb := #[.pointer (some ⟨w.heap.size + 1 + 1, 0, none⟩)]) rfl trivial (enters_of Try.func27 (by kernel_rfl) rfl)
    (words_stops (6 - 1) (by decide) (w.heap.size + 1 + 1) W0.heap.size J hJz W0 hz0 (Nat.le_refl _) (BS0.cell 0)) KB.trans (KB.put hz0) (Below.refl _ _) (fun _ => rfl)
    (fun pre W => (∃ v, Blk W (w.heap.size + 1) 40 #[.int .i64 3, v] ∧ W.ownsRow W0.heap.size 9 1 v pre.length (txV pre)) ∧ Below (w.heap.size + 1) W0 W)
    (fun _ _ _ => False)
    (OwnFrom.and (Own.from (holdsP_own W0.heap.size (w.heap.size + 1)) _) (ownFrom_below (by omega) (by omega)))
    (fun _ _ _ _ _ hs _ _ => hs)
    ⟨⟨_, BP0, World.ownsRow_nil _ _ _ _⟩, Below.refl _ _⟩
    (fun x a' W => ∃ Bx, W0.heap.size ≤ Bx ∧ Blk W Bx 51 #[.string x.text, .int .i64 x.frm, .int .i64 x.to_] ∧ a' = { tmps := #[.pointer (some ⟨g, 0, none⟩), undef, .pointer (some ⟨w.heap.size, 0, none⟩), .int .i64 i, .int .i64 m, .pointer (some ⟨w.heap.size + 1, 0, none⟩), .pointer (some ⟨Bx, 0, none⟩), .pointer (some ⟨g, 0, none⟩), .pointer (some ⟨g, 0, none⟩), .pointer (some ⟨g, 1, none⟩), .int .i64 i, .pointer (some ⟨g, 0, none⟩), .pointer (some ⟨g, 0, none⟩), .pointer (some ⟨g, 0, none⟩), .string s, .int .i64 i, .string (s.extract i s.size), .int .i64 m, .agg #[.int .i64 3, .slice none 0 0], .int .i64 m, .bool true, .pointer (some ⟨g, 0, none⟩), .pointer (some ⟨g, 0, none⟩), .pointer (some ⟨g, 0, none⟩), .string s, .int .i64 i, .int .i64 i, .int .i64 m, .int .i64 ((i : Int) + (m : Int)), .string J, .func (.func 27) #[] #[.pointer (some ⟨w.heap.size + 1 + 1, 0, none⟩)], .agg #[.string x.text, .int .i64 x.frm, .int .i64 x.to_], undef, undef, undef, undef, undef, undef, undef, undef, undef, undef, undef, undef, undef, undef, undef, undef, undef, undef, undef, undef, undef, undef, undef], defers := [] })
    (fun x a' _ X Y row hs hg hr => by obtain ⟨Bx, h1, h2, h3⟩ := hs; exact ⟨Bx, h1, blk_own Bx 51 (fun (_ : Unit) => #[Value.string x.text, .int .i64 x.frm, .int .i64 x.to_]) () X Y row h2 hg (fun r e => (hr r e).2), h3⟩)
    ?assign ?body ?done ?stop
  case assign =>
    rintro l pre x W K ⟨⟨v, hv, hrow⟩, hB1⟩ hK
    simp only [encW]
    gi_wp2
    have hz1' := hB1.size
    exact hK _ _ ((KeepsOthers.alloc _ _).from _) (KB.of_below ((Below.refl _ W).alloc (Nat.le_refl _) _) (by omega)) ⟨⟨v, hv.alloc _, hrow.alloc _⟩, hB1.alloc (by omega) _⟩ ⟨W.heap.size, hz1', Blk.new W 51 _, rfl⟩
  case body =>
    rintro l pre x a' W hl ⟨r, hr⟩ ⟨⟨v, hv, hrow⟩, hB1⟩ ⟨Bx, hBx, bX, rfl⟩ hlt
    have hc := hv.cell 1
    have x0 := bX.cell 0
    have hlt2 : pre.length < J.size := by omega
    have hz1' := hB1.size
    gi_wp2_with (gi_at_builtin; refine wpListIn_append_own _ rfl _ _ 35 rfl W0.heap.size 9 i0 (.string ⟨#[]⟩) 1 16 Try.underlying35 hi0 hz0' hz1 hz2 rfl (by decide) _ _ _ rfl (hrow.alloc _) ⟨W.heap.size, 0, none⟩ 1 1 [.string x.text] rfl rfl (new_cells _ _ [.string x.text] _ rfl) (str_one _) (by unfold maxLen; omega) (by omega) (by simp; omega) ?_; intro v' w1 hown' hgrow _; obtain ⟨g', cap', rfl⟩ := ownsRow_succ hown'; obtain ⟨hv1, hv2, hr2, hk2, hb2, hkb2⟩ := part_appended (n₀ := w.heap.size + 1) (Bs := w.heap.size + 1 + 1) hv hrow hz1' (Nat.le_refl _) (by omega) hz0 (by omega) hown' hgrow; have hc1 := hv1.cell 1; have hf1 := hv1.frozen 1)
    exact ⟨hk2.from _, hkb2, ⟨⟨_, hv2, by rw [show txV (pre ++ [x]) = txV pre ++ [.string x.text] by simp [txV], List.length_append]; exact hr2⟩, hB1.trans hb2⟩⟩
  case done =>
    rintro D ys W hD rfl ⟨⟨v, hv, hrow⟩, hB1⟩ hK
    obtain ⟨A, c, rfl, hr⟩ := own_reads hrow
    have hnc : (wordsF J 0).length ≤ c := by
      rcases hrow.2 with ⟨h1, h2⟩ | ⟨g, cap, cur, h1, _, _, h2, _⟩
      · injection h1 with _ _ h3; omega
      · injection h1 with _ _ h3; omega
    have hadn : ∀ ad, A = some ad → W0.heap.size ≤ ad.block := by
      intro ad e
      subst e
      rcases hrow.2 with ⟨h1, h2⟩ | ⟨g', cap, cur, h1, h3, _⟩
      · cases h1
      · injection h1 with h1; injection h1 with h1; rw [h1]; exact h3
    have htx : txV (wordsF J 0) = ws.map .string := by rw [← HWJ.out, List.map_map]; rfl
    have hnl : (wordsF J 0).length = ws.length := by rw [← HWJ.out, List.length_map]
    rw [htx] at hr
    have hnpos : 0 < (wordsF J 0).length := by rw [hnl]; exact HNE.out
    clear htx hrow
    obtain ⟨n, hn⟩ : ∃ n, n = (wordsF J 0).length := ⟨_, rfl⟩
    rw [← hn] at hr hnc hnl hnpos hv
    have HNL := Lib.hid hnl
    have HR := Lib.hid hr
    have HAD := Lib.hid hadn
    have HKD := Lib.hid hK
    have n0 : ((n : Int) == 0) = false := beq_eq_false_iff_ne.2 (by omega)
    have RDW := RD0.below hB1 (by omega)
    have d1 := Blk.cell RDW 1
    have f1 := Blk.frozen RDW 1
    have BRW := BR0.below hB1 (by omega)
    have q0 : ∀ u, (W.setCell ⟨g, 1, none⟩ u).cell? ⟨w.heap.size + 1, 0, none⟩ = some (.int .i64 3) := fun u => (hv.far (by show w.heap.size + 1 ≠ g; omega) u).cell 0
    have q1 : ∀ u, (W.setCell ⟨g, 1, none⟩ u).cell? ⟨w.heap.size + 1, 1, none⟩ = some (.slice A n c) := fun u => (hv.far (by show w.heap.size + 1 ≠ g; omega) u).cell 1
    have r0 : ∀ u, (W.setCell ⟨g, 1, none⟩ u).cell? ⟨w.heap.size, 0, none⟩ = some (.int .i64 0) := fun u => (BRW.far (by show w.heap.size ≠ g; omega) u).cell 0
    have r1 : ∀ u, (W.setCell ⟨g, 1, none⟩ u).cell? ⟨w.heap.size, 1, none⟩ = some (.slice none 0 0) := fun u => (BRW.far (by show w.heap.size ≠ g; omega) u).cell 1
    have r2 : ∀ u, (W.setCell ⟨g, 1, none⟩ u).frozen? ⟨w.heap.size, 0, none⟩ = false := fun u => (BRW.far (by show w.heap.size ≠ g; omega) u).frozen 0
    have r3 : ∀ u, (W.setCell ⟨g, 1, none⟩ u).frozen? ⟨w.heap.size, 1, none⟩ = false := fun u => (BRW.far (by show w.heap.size ≠ g; omega) u).frozen 1
    have hzW := hB1.size
    clear hr hnl hadn hK hn
    gi_wp2
    obtain ⟨g1, g2, g3, g4, g5, g6⟩ := ph_fin (w := w) (j := i + m + 1) RDW BRW HR.out HAD.out (by omega) hD HKD.out (KW0.trans (hB1.mono (by omega))) hgw HNL.out hnc _ rfl
    rw [show (((i + m + 1 : Nat) : Int)) = (i : Int) + (m : Int) + 1 by omega] at g1 g2 g3 g4 g5 g6
    refine ⟨by simp, .inl ⟨_, _, rfl, run_takeDeferred g1, ?_⟩⟩
    exact ⟨.agg #[.int .i64 3, .slice A n c], (by simp [results, Try.results33, go_sem, g2, g3]), _, rfl, g4, g5, g6, fun b e => by
      rcases A with _ | ad
      · simp [Value.ownBlock] at e
      · have := HAD.out ad rfl
        simp [Value.ownBlock] at e
        omega⟩
  case stop =>
    rintro D c pre W _ _ h _
    exact h.elim
end Go.Proofs.Ytfikilpkaobiiaa
