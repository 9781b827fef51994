/-
  DERIVED. An entry of a map of ints that is reached first and written later ('m[k], n[k] = a, b'). Conditions: none.
  What a column is: the walk of ask.isBy. Conditions: none.
  The walk of prop.Get. Conditions: sizes.
  A queue of ints that a call makes: popped at its front, pushed at its end. Conditions: none.
  The walk of the reference's SortError. Conditions: none.
  The walk of slices.ContainsFunc at blocks. Conditions: sizes.
  The walk of the closure of the law AskTables. Conditions: none.
  By an AI agent.
-/
import Derived.Test.YtemngidkfgcigaaGreatDoorKa08
import Derived.WideKeyEntry
import Derived.Test.YtemngidkfgcigaaGreatDoorKa10
import Derived.Test.YtemngidkfgcigaaGreatDoorKa07
import Derived.StillTailTactics
import Derived.Deep.RegionWith
import Derived.Deep.DeepCutAuto
import Derived.Test.YtemngidkfgcigaaGreatDoorKa11
import Derived.ArgAppend
import Derived.Test.YtemngidkfgcigaaGreatDoorChecked
import Derived.Test.YtemngidkfgcigaaGreatDoorKa12
namespace Go.Proofs.YtemngidkfgcigaaGreatDoor
open Go.ChangeShapes Go.WideShapes Go.MapKept Go.ChangeMaps
open Go.WideElems (Fit findIdx_born findIdx_arr modify_last set_self)
open Go.Maps (Keyed int_keyed keyOf_int_mk)

section
variable {P : Program} {w : World} {t k e : TypeId} {R : Value → Option (DU × List MemPlace)} {b : Nat} {es : Array MapEntry} {clock : Nat}
/-- the entry with a stamp, in its place -/
theorem born_at {es : Array MapEntry} (hn : (es.toList.map (·.born)).Nodup) {j : Nat} {m : MapEntry} (hj : es.toList[j]? = some m) : es.findIdx? (fun x => (x.born : Int) == ((m.born : Nat) : Int)) = some j := by
  rw [findIdx_arr]
  exact findIdx_born hn hj
/-- reached now, written later: as if it had been written at once -/
theorem reach_write (K : Keyed P k) (ht : P.underlying t = some (.map k e)) {z : Value} (hz : ∀ u : World, (zeroValue e).run P u = .ok z u) (hb : w.heap[b]? = some (.map es clock)) (F : Fit P k R es clock) {key : Value} {kl : Lit} (hkey : keyOf P k key = some kl) :
    ∃ (v0 : Value) (st : Nat) (es1 : Array MapEntry) (c1 : Nat), (Instr.mapEntry t (.map (some b)) key).run P w = .ok (.tuple #[v0, goInt st]) (setBlock w b (.map es1 c1)) ∧
      ∀ (w2 : World) (val : Value), w2.heap[b]? = some (.map es1 c1) → ∃ (es2 : Array MapEntry) (c2 : Nat), (Instr.entryStore t (.map (some b)) (goInt st) val).run P w2 = .ok () (setBlock w2 b (.map es2 c2)) ∧ (Instr.mapUpdate t (.map (some b)) key val).run P w = .ok () (setBlock w b (.map es2 c2)) := by
  have hst := F.stamped
  rcases K.find w hkey es.toList F.keys with hno | hyes
  case inl =>
    refine ⟨z, clock, es.push { key := key, val := z, born := clock }, clock + 1, ?_, ?_⟩
    · simp [Instr.mapEntry, run_underlying ht, Go.MapKept.run_getObj_map hb, K.check w false hkey, hno.1, hz, Go.MapKept.run_setObj_map _ hb, Result.andThen, setBlock]
    · intro w2 val h2
      have hnd : ((es.push { key := key, val := z, born := clock }).toList.map (·.born)).Nodup := by
        rw [Array.toList_push, List.map_append, List.nodup_append]
        refine ⟨hst.2.1, by simp, ?_⟩
        intro a ha c hc
        obtain ⟨y, hy, rfl⟩ := List.mem_map.1 ha
        have h3 := hst.1 y hy
        simp only [List.map_cons, List.map_nil, List.mem_singleton] at hc
        omega
      have hix := born_at hnd (j := es.size) (m := { key := key, val := z, born := clock }) (by rw [Array.toList_push, ← Array.length_toList, List.getElem?_append_right (Nat.le_refl _)]; simp)
      have hmo : (es.push { key := key, val := z, born := clock }).modify es.size (fun m => { m with val := val }) = es.push { key := key, val := val, born := clock } := by
        refine Array.ext' ?_
        rw [Array.toList_modify, Array.toList_push, Array.toList_push, ← Array.length_toList]
        exact modify_last _ _ _
      refine ⟨es.push { key := key, val := val, born := clock }, clock + 1, ?_, ?_⟩
      · simp only at hix
        simp [Instr.entryStore, Go.MapKept.run_getObj_map h2, asInt, asIntOf, goInt, hix, hmo, Go.MapKept.run_setObj_map _ h2, Result.andThen, setBlock]
      · simp [Instr.mapUpdate, run_underlying ht, Go.MapKept.run_getObj_map hb, K.check w false hkey, hno.1, Go.MapKept.run_setObj_map _ hb, Result.andThen, setBlock]
  case inr =>
    obtain ⟨j, m, hf, hj, hmk⟩ := hyes
    have hja : es[j]? = some m := by simpa using hj
    have hid : es.modify j (fun x => { x with key := key }) = es := by
      refine Array.ext' ?_
      rw [Array.toList_modify, modify_eq_set _ _ _ _ hj, show ({ m with key := key } : MapEntry) = m by rw [← hmk]]
      exact set_self _ _ _ hj
    refine ⟨m.val, m.born, es, clock, ?_, fun w2 val h2 => ⟨es.modify j fun x => { x with key := key, val := val }, clock, ?_, ?_⟩⟩
    · simp [Instr.mapEntry, run_underlying ht, Go.MapKept.run_getObj_map hb, K.check w false hkey, hf, hja, hmk, K.stays w hkey, hid, Go.MapKept.run_setObj_map _ hb, Result.andThen, setBlock]
    · have hix := born_at hst.2.1 hj
      have hmo : es.modify j (fun x => { x with val := val }) = es.modify j (fun x => { x with key := key, val := val }) := by
        refine Array.ext' ?_
        rw [Array.toList_modify, Array.toList_modify, modify_eq_set _ _ _ _ hj, modify_eq_set _ _ _ _ hj, ← hmk]
      simp [Instr.entryStore, Go.MapKept.run_getObj_map h2, asInt, asIntOf, goInt, hix, hmo, Go.MapKept.run_setObj_map _ h2, Result.andThen, setBlock]
    · simp [Instr.mapUpdate, run_underlying ht, Go.MapKept.run_getObj_map hb, K.check w false hkey, hf, hja, hmk, K.stays w hkey, Go.MapKept.run_setObj_map _ hb, Result.andThen, setBlock]
end
section
variable {P : Program} {k e t : TypeId} {α : Type} {en : α → Value} {lt : α → DU} {ok : α → Prop} {z0 : α} {w w' : World} {b n : Nat} {f : Int → Option α}
theorem MapIn.same (h : MapIn P k e lt w b n f) (hb : w'.heap[b]? = w.heap[b]?) : MapIn P k e lt w' b n f := by
  obtain ⟨D, ⟨es, clock, h1, h2⟩, h3⟩ := h
  exact ⟨D, ⟨es, clock, hb.trans h1, h2⟩, h3⟩
/-- an entry reached: it can be written later, whatever has turned elsewhere -/
theorem MapIn.entry (h : MapIn P k e lt w b n f) (E : ElemLaw P e en lt ok z0) (hk : P.underlying k = some (.int .i64)) (ht : P.underlying t = some (.map k e)) (hn : n < maxLen) {x : Int} (hx : I64 x) :
    ∃ (v0 : Value) (st : Nat) (w1 : World), (Instr.mapEntry t (.map (some b)) (.int .i64 x)).run P w = .ok (.tuple #[v0, goInt st]) w1 ∧ w.grownBy w1 (some b) ∧ (w1.heap.size = w.heap.size) ∧
      ∀ (w2 : World) (a : α), ok a → w2.heap[b]? = w1.heap[b]? → ∃ w3, (Instr.entryStore t (.map (some b)) (goInt st) (en a)).run P w2 = .ok () w3 ∧ MapIn P k e lt w3 b (n + 1) (putF f x a) ∧ w2.grownBy w3 (some b) := by
  have hcopy := h
  obtain ⟨D, ⟨es, clock, h1, F, _⟩, _⟩ := hcopy
  obtain ⟨v0, st, es1, c1, r1, r2⟩ := reach_write (int_keyed hk) ht E.zero h1 F (keyOf_int_mk hk (wf_i64 hx))
  have hgr : ∀ (W : World) (e1 : Array MapEntry) (k1 : Nat) (o' : Obj), W.heap[b]? = some (.map e1 k1) → W.grownBy (setBlock W b o') (some b) := fun W e1 k1 o' ho => ⟨rfl, rfl, rfl, by simp [setBlock], fun i _ hi => heap_setBlock_other ho _ (fun e => hi (by rw [e]))⟩
  refine ⟨v0, st, _, r1, hgr w _ _ _ h1, by simp [setBlock], fun w2 a ha h2 => ?_⟩
  have h2' : w2.heap[b]? = some (.map es1 c1) := h2.trans (heap_setBlock_same h1 _)
  obtain ⟨es2, c2, q1, q2⟩ := r2 w2 (en a) h2'
  obtain ⟨w', p1, p2, _⟩ := h.put E hk ht hn hx ha
  have e1 : w' = setBlock w b (.map es2 c2) := by
    rw [q2] at p1
    injection p1 with _ p1
    exact p1.symm
  refine ⟨_, q1, p2.same ?_, hgr w2 _ _ _ h2'⟩
  rw [e1, heap_setBlock_same h1 _, heap_setBlock_same h2' _]
end
end Go.Proofs.YtemngidkfgcigaaGreatDoor
namespace Go.Proofs.YtemngidkfgcigaaGreatDoor
open Go.RowKit

def idS : ByteArray := ⟨#[64, 105, 100]⟩
def textS : ByteArray := ⟨#[64, 116, 101, 120, 116]⟩
def depthS : ByteArray := ⟨#[64, 100, 101, 112, 116, 104]⟩
theorem idS_list : idS.toList = [64, 105, 100] := by rw [ByteArray.toList_eq]; rfl
theorem textS_list : textS.toList = [64, 116, 101, 120, 116] := by rw [ByteArray.toList_eq]; rfl
theorem depthS_list : depthS.toList = [64, 100, 101, 112, 116, 104] := by rw [ByteArray.toList_eq]; rfl
/-- whether a text names what is sorted by -/
def isByL (s : ByteArray) : Bool := decide (s = idS) || decide (s = textS) || decide (s = depthS) || decide (nmErr s = 0)
set_option maxHeartbeats 1000000 in
set_option maxRecDepth 100000 in
/-- ask.isBy -/
theorem isBy_any (s : ByteArray) (w : World) :
    Calls Tryz.prog 20 #[.string s] w fun e w' => e = .returned (.bool (isByL s)) ∧ w' = w := by
  obtain ⟨q1, h1⟩ : ∃ q, (s.toList == [64, 105, 100]) = q := ⟨_, rfl⟩
  obtain ⟨q2, h2⟩ : ∃ q, (s.toList == [64, 116, 101, 120, 116]) = q := ⟨_, rfl⟩
  obtain ⟨q3, h3⟩ : ∃ q, (s.toList == [64, 100, 101, 112, 116, 104]) = q := ⟨_, rfl⟩
  obtain ⟨er, her⟩ : ∃ er, nmErr s = er := ⟨_, rfl⟩
  have HE : Hid (isByL s = (q1 || q2 || q3 || decide (er = 0))) := by
    show isByL s = _
    rw [← h1, ← h2, ← h3, ← her, isByL, dec_toList, dec_toList, dec_toList, idS_list, textS_list, depthS_list]
  have HC := Lib.hid (checkName_any s w)
  rw [her] at HC
  have hq : (er == 0) = decide (er = 0) := rfl
  clear her
  go_enter Tryz.func20, Tryz.ntmps20
  cases q1
  · cases q2
    · cases q3
      · go_wp2_with fail
        refine HC.out.mono ?_
        rintro e w1 ⟨rfl, hb⟩
        have HB := Lib.hid hb
        clear hb
        go_wp2_with fail
        go_ret
        exact ⟨by rw [HE.out]; simp, HB.out⟩
      · go_wp2_with fail
        go_ret
        exact ⟨by rw [HE.out]; simp, rfl⟩
    · go_wp2_with fail
      go_ret
      exact ⟨by rw [HE.out]; simp, rfl⟩
  · go_wp2_with fail
    go_ret
    exact ⟨by rw [HE.out]; simp, rfl⟩
end Go.Proofs.YtemngidkfgcigaaGreatDoor
namespace Go.Proofs.YtemngidkfgcigaaGreatDoor
open Go.RowKit

/-- the value of no property -/
def zV : Vl := .mk 0 0 0 ⟨#[]⟩ []
/-- the value of the first property with a name, or an empty one -/
def getP (l : List Pr) (s : ByteArray) : Vl := if nmOf l s < 0 then zV else ((l[(nmOf l s).toNat]?).map Pr.val).getD zV
/-- what prop.Get leaves -/
def GetPR (l : List Pr) (s : ByteArray) (w : World) (e : Ending) (w' : World) : Prop := (∃ A n c, e = .returned (.tuple #[AV (getP l s, .slice A n c), .bool (decide (0 ≤ nmOf l s))]) ∧ RVX w' (fun b => w.heap.size ≤ b ∧ b < w'.heap.size) (.slice A n c) (getP l s).items) ∧ Below w.heap.size w w'
theorem RVX.nil (w : World) (S : Nat → Prop) : RVX w S (.slice none 0 0) [] := ⟨0, rfl, none, 0, rfl⟩

set_option maxRecDepth 100000 in
set_option maxHeartbeats 4000000 in
/-- prop.Get -/
theorem getP_any (l : List Pr) (A : Option Addr) (n c : Nat) (s : ByteArray) (w : World) (B : Nat) (hB : B ≤ w.heap.size) (h : RPr w B (.slice A n c) l) :
    Calls Tryz.prog 33 #[.slice A n c, .string s] w (GetPR l s w) := by
  obtain ⟨wb, hwb⟩ : ∃ wb, wb = w.alloc (.cells #[.int .i64 0, .int .i64 0, .int .i64 0, .string ⟨#[]⟩, .slice none 0 0] 41) := ⟨_, rfl⟩
  have hbb : Below w.heap.size w wb := by rw [hwb]; exact (Below.refl _ _).alloc (Nat.le_refl _) _
  have p1 : Blk wb w.heap.size 41 #[.int .i64 0, .int .i64 0, .int .i64 0, .string ⟨#[]⟩, .slice none 0 0] := by rw [hwb]; exact Blk.new w _ _
  have hzb : wb.heap.size = w.heap.size + 1 := by rw [hwb]; simp
  have HIX := find_any l A n c s wb B (Nat.le_trans hB hbb.size) (h.below (hbb.mono hB))
  have HBB := Lib.hid hbb
  have HWB := Lib.hid hwb
  have HZB := Lib.hid hzb
  have P1 := Lib.hid p1
  rcases nmOf_spec l s with ⟨hp, hq1⟩ | ⟨p, x, hp, hlp, hq1⟩
  · clear hq1
    have hg : getP l s = zV := if_pos (by omega)
    rw [hp] at HIX
    have HX := Lib.hid HIX
    have hfin : ∀ w', Below w.heap.size w w' → GetPR l s w (.returned (.tuple #[.agg #[.int .i64 0, .int .i64 0, .int .i64 0, .string ⟨#[]⟩, .slice none 0 0], .bool false])) w' := fun w' hb => by
      unfold GetPR
      rw [hg, hp]
      exact ⟨⟨none, 0, 0, rfl, RVX.nil _ _⟩, hb⟩
    have HF := Lib.hid hfin
    clear h hbb hwb hzb p1 HIX hp hg hfin
    go_enter Tryz.func33, Tryz.ntmps33
    go_upto_region 1 with fail
    rw [← HWB.out]
    go_wp2_with fail
    refine HX.out.mono ?_
    rintro e w1 ⟨rfl, hb1⟩
    have HB1 : Hid (Below w.heap.size w w1) := HBB.out.trans (hb1.mono HBB.out.size)
    have hp1 := P1.out.below hb1 (by have := HZB.out; omega)
    have e1 := fun i => hp1.cell i
    have f1 := fun i => hp1.frozen i
    have HP1 := Lib.hid hp1
    clear hb1 hp1
    go_wp2_with fail
    have PF := ((((HP1.out.set_ 0 (.int .i64 0)).set_ 1 (.int .i64 0)).set_ 2 (.int .i64 0)).set_ 3 (.string ⟨#[]⟩)).set_ 4 (.slice none 0 0)
    have HBF : Below w.heap.size w _ := (((((HB1.out.setCell (p := ⟨w.heap.size, 0, none⟩) (Nat.le_refl _) (.int .i64 0)).setCell (p := ⟨w.heap.size, 1, none⟩) (Nat.le_refl _) (.int .i64 0)).setCell (p := ⟨w.heap.size, 2, none⟩) (Nat.le_refl _) (.int .i64 0)).setCell (p := ⟨w.heap.size, 3, none⟩) (Nat.le_refl _) (.string ⟨#[]⟩)).setCell (p := ⟨w.heap.size, 4, none⟩) (Nat.le_refl _) (.slice none 0 0))
    have r0 := PF.cell 0
    have r1 := PF.cell 1
    have r2 := PF.cell 2
    have r3 := PF.cell 3
    have r4 := PF.cell 4
    exact bodyPost_ret (v := .tuple #[.agg #[.int .i64 0, .int .i64 0, .int .i64 0, .string ⟨#[]⟩, .slice none 0 0], .bool false]) (by simp [results, Tryz.results33, go_sem, r0, r1, r2, r3, r4]) rfl (HF.out _ HBF)
  · clear hq1
    have hg : getP l s = x.val := by unfold getP; rw [if_neg (by omega), hp, Int.toNat_natCast, hlp]; rfl
    have hpn : p < n := by have := (List.getElem?_eq_some_iff.1 hlp).1; have := h.len.1; omega
    obtain ⟨b, off, Av, nv, cv, rfl, hbb2, g0, g1, g2, g3, g4, g5, d, hV⟩ := h.at_ hlp
    rw [hp] at HIX
    have HX := Lib.hid HIX
    have HCB := Lib.hid fun W (hW : Below w.heap.size w W) => copyValue_any d (x.val, .slice Av nv cv) W B (Nat.le_trans hB hW.size) (hV.below (hW.mono hB))
    dsimp only [AV] at HCB
    have hfin : ∀ A' n' c' w', RVX w' (fun b => w.heap.size ≤ b ∧ b < w'.heap.size) (.slice A' n' c') x.val.items → Below w.heap.size w w' → GetPR l s w (.returned (.tuple #[AV (x.val, .slice A' n' c'), .bool true])) w' := fun A' n' c' w' h1 hb => by
      unfold GetPR
      rw [hg, hp, decide_eq_true (by omega : (0 : Int) ≤ (p : Int))]
      exact ⟨⟨A', n', c', rfl, h1⟩, hb⟩
    have HF := Lib.hid hfin
    have y0 : (0 : Int) ≤ (p : Int) := by omega
    have y1 : (p : Int) < (n : Int) := by omega
    clear h hbb hwb hzb p1 HIX hp hg hlp hV hfin
    go_enter Tryz.func33, Tryz.ntmps33
    go_upto_region 1 with fail
    rw [← HWB.out]
    go_wp2_with fail
    refine HX.out.mono ?_
    rintro e w1 ⟨rfl, hb1⟩
    have HB1 : Hid (Below w.heap.size w w1) := HBB.out.trans (hb1.mono HBB.out.size)
    have hz1 : w.heap.size + 1 ≤ w1.heap.size := by have := HZB.out; have := hb1.size; omega
    have HP1 := Lib.hid (P1.out.below hb1 (by have := HZB.out; omega))
    have c1 := (HB1.out.cell (p := ⟨b, off + p * 6 + 1, none⟩) (by show b < _; omega)).trans g1
    have c2 := (HB1.out.cell (p := ⟨b, off + p * 6 + 2, none⟩) (by show b < _; omega)).trans g2
    have c3 := (HB1.out.cell (p := ⟨b, off + p * 6 + 3, none⟩) (by show b < _; omega)).trans g3
    have c4 := (HB1.out.cell (p := ⟨b, off + p * 6 + 4, none⟩) (by show b < _; omega)).trans g4
    have c5 := (HB1.out.cell (p := ⟨b, off + p * 6 + 5, none⟩) (by show b < _; omega)).trans g5
    have HCX := Lib.hid (HCB.out w1 HB1.out)
    clear hb1 g0 g1 g2 g3 g4 g5
    go_wp2_with fail
    with_reducible refine HCX.out.mono ?_
    rintro e w2 ⟨⟨A', n', c', rfl, hr1⟩, hb2⟩
    dsimp only [AV]
    have HB2 : Hid (Below w.heap.size w w2) := HB1.out.trans (hb2.mono HB1.out.size)
    have hp2 := HP1.out.below hb2 (by omega)
    have e1 := fun i => hp2.cell i
    have f1 := fun i => hp2.frozen i
    have HP2 := Lib.hid hp2
    have HR1 := Lib.hid hr1
    clear hb2 hp2 hr1 c1 c2 c3 c4 c5
    go_wp2_with fail
    have PF := ((((HP2.out.set_ 0 (.int .i64 x.val.kind)).set_ 1 (.int .i64 x.val.int_)).set_ 2 (.int .i64 x.val.to_)).set_ 3 (.string x.val.text)).set_ 4 (.slice A' n' c')
    have HBF : Below w.heap.size w _ := (((((HB2.out.setCell (p := ⟨w.heap.size, 0, none⟩) (Nat.le_refl _) (.int .i64 x.val.kind)).setCell (p := ⟨w.heap.size, 1, none⟩) (Nat.le_refl _) (.int .i64 x.val.int_)).setCell (p := ⟨w.heap.size, 2, none⟩) (Nat.le_refl _) (.int .i64 x.val.to_)).setCell (p := ⟨w.heap.size, 3, none⟩) (Nat.le_refl _) (.string x.val.text)).setCell (p := ⟨w.heap.size, 4, none⟩) (Nat.le_refl _) (.slice A' n' c'))
    obtain ⟨F, hF⟩ : ∃ F, F = ((((w2.setCell ⟨w.heap.size, 0, none⟩ (.int .i64 x.val.kind)).setCell ⟨w.heap.size, 1, none⟩ (.int .i64 x.val.int_)).setCell ⟨w.heap.size, 2, none⟩ (.int .i64 x.val.to_)).setCell ⟨w.heap.size, 3, none⟩ (.string x.val.text)).setCell ⟨w.heap.size, 4, none⟩ (.slice A' n' c') := ⟨_, rfl⟩
    rw [← hF] at PF HBF ⊢
    have hFk : ∀ p : Addr, w.heap.size + 1 ≤ p.block → F.cell? p = w2.cell? p := fun p h1 => by
      rw [hF]
      repeat rw [World.cell?_setCell_other _ _ p _ (by intro e; subst e; dsimp only at h1; omega)]
    have hFs : F.heap.size = w2.heap.size := by rw [hF]; simp [World.setCell]
    have r0 := PF.cell 0
    have r1 := PF.cell 1
    have r2 := PF.cell 2
    have r3 := PF.cell 3
    have r4 := PF.cell 4
    refine bodyPost_ret (v := .tuple #[AV (x.val, .slice A' n' c'), .bool true]) (by simp [results, Tryz.results33, go_sem, r0, r1, r2, r3, r4, AV]) rfl (HF.out _ _ _ _ ?_ HBF)
    exact (HR1.out.keep (fun p hp => hFk p (by omega))).weak fun b hb => ⟨by omega, by rw [hFs]; exact hb.2⟩
end Go.Proofs.YtemngidkfgcigaaGreatDoor
namespace Go.Proofs.YtemngidkfgcigaaGreatDoor
open Go.RowKit

/-- a queue in a row of the call's own -/
def Qu (w : World) (base : Nat) (v : Value) (T : List Int) : Prop := ∃ ad cap, v = .slice (some ad) T.length cap ∧ T.length ≤ cap ∧ cap ≤ maxLen ∧ (0 < cap → ∃ g off cur, ad = ⟨g, off, none⟩ ∧ base ≤ g ∧ w.heap[g]? = some (.cells cur 3 (0, 0)) ∧ off + cap = cur.size ∧ ∀ (j : Nat) (x : Int), T[j]? = some x → cur[off + j]? = some (.int .i64 x))
/-- all blocks but rows of ints are as they were -/
def Kept3 (w w' : World) : Prop := ∀ (i : Nat) (o : Obj), w.heap[i]? = some o → (∀ cur, o ≠ Obj.cells cur 3 (0, 0)) → w'.heap[i]? = some o
section
variable {w w' : World} {base : Nat} {v : Value} {T : List Int}
theorem Qu.start (w : World) (hb : base ≤ w.heap.size) (x : Int) : Qu (w.alloc (.cells #[.int .i64 x] 3)) base (.slice (some ⟨w.heap.size, 0, none⟩) 1 1) [x] :=
  ⟨_, 1, rfl, Nat.le_refl _, by unfold maxLen; omega, fun _ => ⟨w.heap.size, 0, _, rfl, hb, heap_alloc_new w _, rfl, fun j y h => by
    rcases j with _ | j
    · obtain rfl : x = y := by simpa using h
      rfl
    · simp at h⟩⟩
theorem Qu.grown (h : Qu w base v T) {row : Option Nat} (hg : w.grownBy w' row) (hr : ∀ g cur, row = some g → w.heap[g]? ≠ some (.cells cur 3 (0, 0))) : Qu w' base v T := by
  obtain ⟨ad, cap, h1, h2, h3, h4⟩ := h
  refine ⟨ad, cap, h1, h2, h3, fun hc => ?_⟩
  obtain ⟨g, off, cur, e, hb, hh, r⟩ := h4 hc
  have hlt : g < w.heap.size := by
    rcases Nat.lt_or_ge g w.heap.size with g' | g'
    · exact g'
    · rw [Array.getElem?_eq_none g'] at hh; cases hh
  exact ⟨g, off, cur, e, hb, (hg.block g hlt (fun e => hr g cur e.symm hh)).trans hh, r⟩
theorem Qu.alloc (h : Qu w base v T) (o : Obj) : Qu (w.alloc o) base v T := h.grown (World.grownBy_alloc w o none) (fun _ _ e => by cases e)
theorem Qu.drewN (h : Qu w base v T) (q : Nat) : Qu (w.drewN q) base v T := h
theorem Qu.below (h : Qu w base v T) (hb : Below w.heap.size w w') : Qu w' base v T := by
  obtain ⟨ad, cap, h1, h2, h3, h4⟩ := h
  refine ⟨ad, cap, h1, h2, h3, fun hc => ?_⟩
  obtain ⟨g, off, cur, e, hb', hh, r⟩ := h4 hc
  have hlt : g < w.heap.size := by
    rcases Nat.lt_or_ge g w.heap.size with g' | g'
    · exact g'
    · rw [Array.getElem?_eq_none g'] at hh; cases hh
  exact ⟨g, off, cur, e, hb', (hb.block g hlt).trans hh, r⟩
theorem Qu.pop {A : Option Addr} {n c : Nat} {x : Int} (h : Qu w base (.slice A n c) (x :: T)) : ∃ g off, A = some ⟨g, off, none⟩ ∧ n = T.length + 1 ∧ n ≤ c ∧ g < w.heap.size ∧ w.cell? ⟨g, off, none⟩ = some (.int .i64 x) ∧ (c = 1 → Qu w base (.slice (some ⟨g, off, none⟩) (n - 1) (c - 1)) T) ∧ (c ≠ 1 → Qu w base (.slice (some ⟨g, off + 1, none⟩) (n - 1) (c - 1)) T) := by
  obtain ⟨ad, cap, h1, h2, h3, h4⟩ := h
  injection h1 with e1 e2 e3
  subst e1 e2 e3
  rw [List.length_cons] at h2
  obtain ⟨g, off, cur, rfl, hb, hh, hs, r⟩ := h4 (by omega)
  have hlt : g < w.heap.size := by
    rcases Nat.lt_or_ge g w.heap.size with g' | g'
    · exact g'
    · rw [Array.getElem?_eq_none g'] at hh; cases hh
  refine ⟨g, off, rfl, rfl, by rw [List.length_cons]; exact h2, hlt, (cell_of_row w g off cur _ _ hh).trans (r 0 x rfl), fun hc => ?_, fun hc => ?_⟩
  · exact ⟨_, c - 1, by rw [List.length_cons, Nat.add_sub_cancel], by omega, by omega, fun hc' => by omega⟩
  · refine ⟨_, c - 1, by rw [List.length_cons, Nat.add_sub_cancel], by omega, by omega, fun hc' => ⟨g, off + 1, cur, rfl, hb, hh, by omega, fun j y hj => ?_⟩⟩
    rw [show off + 1 + j = off + (j + 1) by omega]
    exact r (j + 1) y (by rw [List.getElem?_cons_succ]; exact hj)
theorem Qu.len {A : Option Addr} {n c : Nat} (h : Qu w base (.slice A n c) T) : n = T.length ∧ n ≤ c := by
  obtain ⟨ad, cap, h1, h2, h3, h4⟩ := h
  injection h1 with e1 e2 e3
  subst e1 e2 e3
  exact ⟨rfl, h2⟩
theorem Qu.slice (h : Qu w base v T) : ∃ A n c, v = .slice A n c := by
  obtain ⟨ad, cap, h1, _⟩ := h
  exact ⟨_, _, _, h1⟩
theorem int_row : (Tryz.prog.info? 3).map (fun i => (i.zero, i.size, i.bytes)) = some (some (.int .i64 0), 1, 8) := by kernel_rfl
set_option maxRecDepth 100000 in
theorem Qu.push (h : Qu w base v T) (hb : base ≤ w.heap.size) (hn : T.length ≤ 1000000) {ad : Addr} {c : Nat} {x : Int} (hx : w.cell? ad = some (.int .i64 x)) (ty : TypeId) :
    ∃ v' w', (Builtin.append_ #[23, 23] ty #[v, .slice (some ad) 1 c]).run Tryz.prog w = .ok v' w' ∧ Qu w' base v' (T ++ [x]) ∧ Below base w w' ∧ Kept3 w w' ∧ w.heap.size ≤ w'.heap.size := by
  obtain ⟨i, hi, hz, hs, hby⟩ := info_parts int_row
  obtain ⟨a0, cap, rfl, h2, h3, h4⟩ := h
  have hnews : ∀ j u, [Value.int .i64 x][j]? = some u → w.cell? (ad.add j) = some u := fun j u hu => by
    rcases j with _ | j
    · obtain rfl : Value.int .i64 x = u := by simpa using hu
      exact hx
    · simp at hu
  by_cases hroom : T.length + 1 ≤ cap
  · obtain ⟨g, off, cur, rfl, hbg, hh, hcs, r⟩ := h4 (by omega)
    have hcell : ∀ k, w.cell? ⟨g, k, none⟩ = cur[k]? := fun k => cell_of_row w g k cur _ _ hh
    have hin : off + T.length < cur.size := by omega
    have hrun := run_append_room_cells (P := Tryz.prog) w 23 ty 3 i Tryz.underlying23 hi g off T.length cap ad 1 c [.int .i64 x] (by rw [hs]; rfl) hnews (fun u hu => by
      obtain rfl : u = .int .i64 x := by simpa using hu
      rfl) hroom (fun j hj => by
        obtain rfl : j = 0 := by simpa using hj
        rw [hs, hcell, Nat.mul_one, Nat.add_zero, Array.getElem?_eq_getElem hin]; rfl) (fun j hj => by
        simp [World.frozen?, hh])
    rw [hs, Nat.mul_one] at hrun
    refine ⟨_, _, hrun, ?_⟩
    rw [show w.setCells g (off + T.length) [.int .i64 x] = w.setCell ⟨g, off + T.length, none⟩ (.int .i64 x) from rfl]
    have hh' : (w.setCell ⟨g, off + T.length, none⟩ (.int .i64 x)).heap[g]? = some (.cells (cur.setIfInBounds (off + T.length) (.int .i64 x)) 3 (0, 0)) := by
      simp [World.setCell, Array.getElem?_modify, hh]
    refine ⟨⟨_, cap, by rw [List.length_append]; rfl, by rw [List.length_append]; exact hroom, h3, fun _ => ⟨g, off, _, rfl, hbg, hh', by rw [Array.size_setIfInBounds]; exact hcs, fun j y hj => ?_⟩⟩, (Below.refl _ _).setCell (p := ⟨g, off + T.length, none⟩) hbg _, fun k o hk ho => ?_, by simp [World.setCell]⟩
    · rcases Nat.lt_or_ge j T.length with hjl | hjl
      · rw [List.getElem?_append_left hjl] at hj
        rw [Array.getElem?_setIfInBounds_ne (by omega)]
        exact r j y hj
      · rw [List.getElem?_append_right hjl] at hj
        have h0 : j - T.length = 0 := by
          have := (List.getElem?_eq_some_iff.1 hj).1
          simp at this; omega
        rw [h0] at hj
        obtain rfl : x = y := by simpa using hj
        obtain rfl : j = T.length := by omega
        rw [Array.getElem?_setIfInBounds_self_of_lt hin]
    · by_cases e : k = g
      · subst e
        rw [hh] at hk
        injection hk with hk
        exact absurd hk.symm (ho _)
      · rw [← hk]
        exact (Below.heap_setCell w ⟨g, off + T.length, none⟩ _ k e)
  · have holds : ∀ j u, (T.map (Value.int .i64))[j]? = some u → w.cell? (a0.add j) = some u := fun j u hu => by
      rw [List.getElem?_map, Option.map_eq_some_iff] at hu
      obtain ⟨y, hy, rfl⟩ := hu
      have := (List.getElem?_eq_some_iff.1 hy).1
      obtain ⟨g, off, cur, rfl, hbg, hh, hcs, r⟩ := h4 (by omega)
      rw [Addr.add_lit]
      exact (cell_of_row w g _ cur _ _ hh).trans (r j y hy)
    obtain ⟨v', w', hrun, hown, hg⟩ := run_append_arg_grows (P := Tryz.prog) w 23 ty 3 i (.int .i64 0) 1 8 Tryz.underlying23 hi hz hs hby rfl (by decide) a0 T.length cap (T.map (Value.int .i64)) (by rw [List.length_map, Nat.mul_one]) holds ad 1 c [.int .i64 x] rfl hnews (by omega) (by unfold maxLen; omega) (by omega)
    refine ⟨v', w', hrun, ?_, (Below.refl _ _).grown hg hb (fun _ e => by cases e), fun k o hk _ => ?_, hg.size⟩
    · obtain ⟨h5, h6⟩ := hown
      rcases h6 with ⟨_, h6⟩ | ⟨g, cap', cur, rfl, hbg, hh, hnc, hcm, hcs, htk⟩
      · omega
      · refine ⟨_, cap', by rw [List.length_append]; rfl, by rw [List.length_append]; exact hnc, hcm, fun _ => ⟨g, 0, cur, rfl, by omega, hh, by omega, fun j y hj => ?_⟩⟩
        have hjl := (List.getElem?_eq_some_iff.1 hj).1
        have e : (cur.toList.take ((T.length + 1) * 1))[j]? = some (.int .i64 y) := by
          rw [htk, show T.map (Value.int .i64) ++ [Value.int .i64 x] = (T ++ [x]).map (Value.int .i64) by simp, List.getElem?_map, hj]; rfl
        rw [List.getElem?_take] at e
        split at e
        · rw [Nat.zero_add]; simpa using e
        · cases e
    · have hlt : k < w.heap.size := by
        rcases Nat.lt_or_ge k w.heap.size with g' | g'
        · exact g'
        · rw [Array.getElem?_eq_none g'] at hk; cases hk
      exact (hg.block k hlt (by simp)).trans hk
theorem MapIn.kept3 {P : Program} {k e : TypeId} {α : Type} {lt : α → DU} {b n : Nat} {f : Int → Option α} (h : MapIn P k e lt w b n f) (hk : Kept3 w w') : MapIn P k e lt w' b n f := by
  obtain ⟨D, ⟨es, clock, h1, h2⟩, h3⟩ := h
  exact ⟨D, ⟨es, clock, hk _ _ h1 (fun _ e => by cases e), h2⟩, h3⟩
theorem Blk.kept3 {g : Nat} {t : TypeId} {cs : Array Value} (h : Blk w g t cs) (hk : Kept3 w w') (ht : t ≠ 3) : Blk w' g t cs :=
  hk _ _ h (fun _ e => by injection e with _ e; exact ht e)
end
end Go.Proofs.YtemngidkfgcigaaGreatDoor
namespace Go.Proofs.YtemngidkfgcigaaGreatDoor
open Go.RowKit

/-- the error of what is sorted by -/
def sortE (s : ByteArray) : Int := if isByL s then 0 else 3
set_option maxHeartbeats 1000000 in
set_option maxRecDepth 100000 in
/-- the reference's SortError -/
theorem sortError_any (s : ByteArray) (w : World) :
    Calls Tryz.prog 10 #[.string s] w fun e w' => e = .returned (.int .i64 (sortE s)) ∧ w' = w := by
  obtain ⟨q1, h1⟩ : ∃ q, (s.toList == [64, 105, 100]) = q := ⟨_, rfl⟩
  obtain ⟨q2, h2⟩ : ∃ q, (s.toList == [64, 116, 101, 120, 116]) = q := ⟨_, rfl⟩
  obtain ⟨q3, h3⟩ : ∃ q, (s.toList == [64, 100, 101, 112, 116, 104]) = q := ⟨_, rfl⟩
  obtain ⟨er, her⟩ : ∃ er, nmErr s = er := ⟨_, rfl⟩
  have HE : Hid (isByL s = (q1 || q2 || q3 || decide (er = 0))) := by
    show isByL s = _
    rw [← h1, ← h2, ← h3, ← her, isByL, dec_toList, dec_toList, dec_toList, idS_list, textS_list, depthS_list]
  have HC := Lib.hid (checkName_any s w)
  rw [her] at HC
  have HF : Hid (sortE s = if (q1 || q2 || q3 || decide (er = 0)) then 0 else 3) := by show sortE s = _; rw [sortE, HE.out]
  clear her
  go_enter Tryz.func10, Tryz.ntmps10
  cases q1
  · cases q2
    · cases q3
      · go_wp2_with fail
        refine HC.out.mono ?_
        rintro e w1 ⟨rfl, hb⟩
        have HB := Lib.hid hb
        clear hb
        by_cases h0 : er = 0
        · subst h0
          go_wp2_with fail
          go_ret
          exact ⟨by rw [HF.out]; rfl, HB.out⟩
        · have hq : (er == 0) = false := by simpa using h0
          have HZ : Hid (decide (er = 0) = false) := decide_eq_false h0
          clear h0
          go_wp2_with fail
          go_ret
          exact ⟨by rw [HF.out, HZ.out]; rfl, HB.out⟩
      · go_wp2_with fail
        go_ret
        exact ⟨by rw [HF.out]; rfl, rfl⟩
    · go_wp2_with fail
      go_ret
      exact ⟨by rw [HF.out]; rfl, rfl⟩
  · go_wp2_with fail
    go_ret
    exact ⟨by rw [HF.out]; rfl, rfl⟩
end Go.Proofs.YtemngidkfgcigaaGreatDoor
namespace Go.Proofs.YtemngidkfgcigaaGreatDoor
open Go.RowKit

set_option maxHeartbeats 1000000 in
/-- slices.ContainsFunc at blocks, with a closure that looks for an id -/
theorem containsF_any (g : Nat) (hg : IdCl g) (hent : ∀ args w, (callFunc g args).run Tryz.prog w = .ok (.enter g args) w) (l : List Bl) (A : Option Addr) (n c P : Nat) (id : Int) (w : World) (B : Nat) (hB : B ≤ w.heap.size) (hP : P < w.heap.size) (hPc : w.cell? ⟨P, 0, none⟩ = some (.int .i64 id)) (h : RB w B (.slice A n c) l) :
    Calls Tryz.prog 8 #[.slice A n c, .func (.func g) #[] #[.pointer (some ⟨P, 0, none⟩)]] w fun e w' => e = .returned (.bool (decide (0 ≤ posOf l id))) ∧ Below w.heap.size w w' := by
  have HIX := Lib.hid (indexF_any g hg hent l A n c P id w B hB hP hPc h)
  obtain ⟨q, hq⟩ : ∃ q, q = posOf l id := ⟨_, rfl⟩
  rw [← hq] at HIX ⊢
  clear hq h hPc hg hent
  go_enter Tryz.func8, Tryz.ntmps8
  go_wp2_with fail
  refine HIX.out.mono ?_
  rintro e w1 ⟨rfl, hb⟩
  have HB := Lib.hid hb
  clear hb
  go_wp2_with fail
  go_ret
  exact ⟨rfl, HB.out⟩
end Go.Proofs.YtemngidkfgcigaaGreatDoor
namespace Go.Proofs.YtemngidkfgcigaaGreatDoor
open Go.RowKit

set_option maxHeartbeats 400000 in
theorem tables1_any : IdCl 9 := fun x Kx Px nx cx mx ex P id w hP hc => by
  have hc' : ∀ o, (w.alloc o).cell? ⟨P, 0, none⟩ = some (.int .i64 id) := fun o => (World.cell?_alloc_lt _ _ _ hP).trans hc
  dsimp only [AB]
  go_enter Tryz.func9, Tryz.ntmps9
  go_wp2_with fail
  go_ret
  exact ⟨rfl, (Below.refl _ _).alloc (Nat.le_refl _) _⟩
end Go.Proofs.YtemngidkfgcigaaGreatDoor
