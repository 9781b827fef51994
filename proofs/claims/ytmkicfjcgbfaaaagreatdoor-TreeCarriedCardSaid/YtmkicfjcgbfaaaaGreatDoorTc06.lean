/-
  DERIVED. A queue of ints that a call makes: popped at its front, pushed at its end. Conditions: none.
  The walk of slices.BinarySearchFunc at blocks with done's own closure: the place for an id. Conditions: ids that rise within their bounds.
  DERIVED: THE SHELF's CONTRACTS AT THIS DUMP, IN PLAIN WORDS (tools/lay-plain.mjs out of 'TrydShelf.lean', which tools/lay-shelf.mjs wrote): THE SAME DECLARATIONS UNDER THE SAME NAMES: 'import', 'namespace', 'open', 'def', 'theorem' AND NOTHING ELSE: no command of the shelf's: FOR A HAND-IN. Each laying: the table of numbers ('.._ren') and one theorem, a field a fact of the dump's own or the kernel's comparison; each contract: ONE APPLICATION.
  By an AI agent.
-/
import Derived.Test.YtmkicfjcgbfaaaaGreatDoorTc04
import Derived.ArgAppend
import Derived.Test.YtmkicfjcgbfaaaaGreatDoorChecked
import Derived.Shelf.Strings.Builder2
import Derived.Shelf.Strings.BuilderF
import Derived.Shelf.LaysM
import Derived.Shelf.Strings.Prefix
import Derived.Shelf.Bits.Mul64
import Derived.Shelf.Strings.Repeat
import Derived.Shelf.Strings.BuilderCap
import Derived.Test.YtmkicfjcgbfaaaaGreatDoorProg
namespace Go.Proofs.YtmkicfjcgbfaaaaGreatDoor
open Go.RowKit

/-- a queue in a row of the call's own -/
def Qu (w : World) (base : Nat) (v : Value) (T : List Int) : Prop := ∃ ad cap, v = .slice (some ad) T.length cap ∧ T.length ≤ cap ∧ cap ≤ maxLen ∧ (0 < cap → ∃ g off cur, ad = ⟨g, off, none⟩ ∧ base ≤ g ∧ w.heap[g]? = some (.cells cur 3 (0, 0)) ∧ off + cap = cur.size ∧ ∀ (j : Nat) (x : Int), T[j]? = some x → cur[off + j]? = some (.int .i64 x))
/-- all blocks but rows of ints are as they were -/
def Kept3 (w w' : World) : Prop := ∀ (i : Nat) (o : Obj), w.heap[i]? = some o → (∀ cur, o ≠ Obj.cells cur 3 (0, 0)) → w'.heap[i]? = some o
section
variable {w w' : World} {base : Nat} {v : Value} {T : List Int}
theorem Qu.start (w : World) (hb : base ≤ w.heap.size) (x : Int) : Qu (w.alloc (.cells #[.int .i64 x] 3)) base (.slice (some ⟨w.heap.size, 0, none⟩) 1 1) [x] :=
  ⟨_, 1, rfl, Nat.le_refl _, by unfold maxLen; omega, fun _ => ⟨w.heap.size, 0, _, rfl, hb, heap_alloc_new w _, rfl, fun j y h => by
    rcases j with _ | j
    · obtain rfl : x = y := by simpa using h
      rfl
    · simp at h⟩⟩
theorem Qu.grown (h : Qu w base v T) {row : Option Nat} (hg : w.grownBy w' row) (hr : ∀ g cur, row = some g → w.heap[g]? ≠ some (.cells cur 3 (0, 0))) : Qu w' base v T := by
  obtain ⟨ad, cap, h1, h2, h3, h4⟩ := h
  refine ⟨ad, cap, h1, h2, h3, fun hc => ?_⟩
  obtain ⟨g, off, cur, e, hb, hh, r⟩ := h4 hc
  have hlt : g < w.heap.size := by
    rcases Nat.lt_or_ge g w.heap.size with g' | g'
    · exact g'
    · rw [Array.getElem?_eq_none g'] at hh; cases hh
  exact ⟨g, off, cur, e, hb, (hg.block g hlt (fun e => hr g cur e.symm hh)).trans hh, r⟩
theorem Qu.alloc (h : Qu w base v T) (o : Obj) : Qu (w.alloc o) base v T := h.grown (World.grownBy_alloc w o none) (fun _ _ e => by cases e)
theorem Qu.drewN (h : Qu w base v T) (q : Nat) : Qu (w.drewN q) base v T := h
theorem Qu.below (h : Qu w base v T) (hb : Below w.heap.size w w') : Qu w' base v T := by
  obtain ⟨ad, cap, h1, h2, h3, h4⟩ := h
  refine ⟨ad, cap, h1, h2, h3, fun hc => ?_⟩
  obtain ⟨g, off, cur, e, hb', hh, r⟩ := h4 hc
  have hlt : g < w.heap.size := by
    rcases Nat.lt_or_ge g w.heap.size with g' | g'
    · exact g'
    · rw [Array.getElem?_eq_none g'] at hh; cases hh
  exact ⟨g, off, cur, e, hb', (hb.block g hlt).trans hh, r⟩
theorem Qu.pop {A : Option Addr} {n c : Nat} {x : Int} (h : Qu w base (.slice A n c) (x :: T)) : ∃ g off, A = some ⟨g, off, none⟩ ∧ n = T.length + 1 ∧ n ≤ c ∧ g < w.heap.size ∧ w.cell? ⟨g, off, none⟩ = some (.int .i64 x) ∧ (c = 1 → Qu w base (.slice (some ⟨g, off, none⟩) (n - 1) (c - 1)) T) ∧ (c ≠ 1 → Qu w base (.slice (some ⟨g, off + 1, none⟩) (n - 1) (c - 1)) T) := by
  obtain ⟨ad, cap, h1, h2, h3, h4⟩ := h
  injection h1 with e1 e2 e3
  subst e1 e2 e3
  rw [List.length_cons] at h2
  obtain ⟨g, off, cur, rfl, hb, hh, hs, r⟩ := h4 (by omega)
  have hlt : g < w.heap.size := by
    rcases Nat.lt_or_ge g w.heap.size with g' | g'
    · exact g'
    · rw [Array.getElem?_eq_none g'] at hh; cases hh
  refine ⟨g, off, rfl, rfl, by rw [List.length_cons]; exact h2, hlt, (cell_of_row w g off cur _ _ hh).trans (r 0 x rfl), fun hc => ?_, fun hc => ?_⟩
  · exact ⟨_, c - 1, by rw [List.length_cons, Nat.add_sub_cancel], by omega, by omega, fun hc' => by omega⟩
  · refine ⟨_, c - 1, by rw [List.length_cons, Nat.add_sub_cancel], by omega, by omega, fun hc' => ⟨g, off + 1, cur, rfl, hb, hh, by omega, fun j y hj => ?_⟩⟩
    rw [show off + 1 + j = off + (j + 1) by omega]
    exact r (j + 1) y (by rw [List.getElem?_cons_succ]; exact hj)
theorem Qu.len {A : Option Addr} {n c : Nat} (h : Qu w base (.slice A n c) T) : n = T.length ∧ n ≤ c := by
  obtain ⟨ad, cap, h1, h2, h3, h4⟩ := h
  injection h1 with e1 e2 e3
  subst e1 e2 e3
  exact ⟨rfl, h2⟩
theorem Qu.slice (h : Qu w base v T) : ∃ A n c, v = .slice A n c := by
  obtain ⟨ad, cap, h1, _⟩ := h
  exact ⟨_, _, _, h1⟩
theorem int_row : (Tryz.prog.info? 3).map (fun i => (i.zero, i.size, i.bytes)) = some (some (.int .i64 0), 1, 8) := by kernel_rfl
set_option maxRecDepth 100000 in
theorem Qu.push (h : Qu w base v T) (hb : base ≤ w.heap.size) (hn : T.length ≤ 1000000) {ad : Addr} {c : Nat} {x : Int} (hx : w.cell? ad = some (.int .i64 x)) (ty : TypeId) :
    ∃ v' w', (Builtin.append_ #[43, 43] ty #[v, .slice (some ad) 1 c]).run Tryz.prog w = .ok v' w' ∧ Qu w' base v' (T ++ [x]) ∧ Below base w w' ∧ Kept3 w w' ∧ w.heap.size ≤ w'.heap.size := by
  obtain ⟨i, hi, hz, hs, hby⟩ := info_parts int_row
  obtain ⟨a0, cap, rfl, h2, h3, h4⟩ := h
  have hnews : ∀ j u, [Value.int .i64 x][j]? = some u → w.cell? (ad.add j) = some u := fun j u hu => by
    rcases j with _ | j
    · obtain rfl : Value.int .i64 x = u := by simpa using hu
      exact hx
    · simp at hu
  by_cases hroom : T.length + 1 ≤ cap
  · obtain ⟨g, off, cur, rfl, hbg, hh, hcs, r⟩ := h4 (by omega)
    have hcell : ∀ k, w.cell? ⟨g, k, none⟩ = cur[k]? := fun k => cell_of_row w g k cur _ _ hh
    have hin : off + T.length < cur.size := by omega
    have hrun := run_append_room_cells (P := Tryz.prog) w 43 ty 3 i Tryz.underlying43 hi g off T.length cap ad 1 c [.int .i64 x] (by rw [hs]; rfl) hnews (fun u hu => by
      obtain rfl : u = .int .i64 x := by simpa using hu
      rfl) hroom (fun j hj => by
        obtain rfl : j = 0 := by simpa using hj
        rw [hs, hcell, Nat.mul_one, Nat.add_zero, Array.getElem?_eq_getElem hin]; rfl) (fun j hj => by
        simp [World.frozen?, hh])
    rw [hs, Nat.mul_one] at hrun
    refine ⟨_, _, hrun, ?_⟩
    rw [show w.setCells g (off + T.length) [.int .i64 x] = w.setCell ⟨g, off + T.length, none⟩ (.int .i64 x) from rfl]
    have hh' : (w.setCell ⟨g, off + T.length, none⟩ (.int .i64 x)).heap[g]? = some (.cells (cur.setIfInBounds (off + T.length) (.int .i64 x)) 3 (0, 0)) := by
      simp [World.setCell, Array.getElem?_modify, hh]
    refine ⟨⟨_, cap, by rw [List.length_append]; rfl, by rw [List.length_append]; exact hroom, h3, fun _ => ⟨g, off, _, rfl, hbg, hh', by rw [Array.size_setIfInBounds]; exact hcs, fun j y hj => ?_⟩⟩, (Below.refl _ _).setCell (p := ⟨g, off + T.length, none⟩) hbg _, fun k o hk ho => ?_, by simp [World.setCell]⟩
    · rcases Nat.lt_or_ge j T.length with hjl | hjl
      · rw [List.getElem?_append_left hjl] at hj
        rw [Array.getElem?_setIfInBounds_ne (by omega)]
        exact r j y hj
      · rw [List.getElem?_append_right hjl] at hj
        have h0 : j - T.length = 0 := by
          have := (List.getElem?_eq_some_iff.1 hj).1
          simp at this; omega
        rw [h0] at hj
        obtain rfl : x = y := by simpa using hj
        obtain rfl : j = T.length := by omega
        rw [Array.getElem?_setIfInBounds_self_of_lt hin]
    · by_cases e : k = g
      · subst e
        rw [hh] at hk
        injection hk with hk
        exact absurd hk.symm (ho _)
      · rw [← hk]
        exact (Below.heap_setCell w ⟨g, off + T.length, none⟩ _ k e)
  · have holds : ∀ j u, (T.map (Value.int .i64))[j]? = some u → w.cell? (a0.add j) = some u := fun j u hu => by
      rw [List.getElem?_map, Option.map_eq_some_iff] at hu
      obtain ⟨y, hy, rfl⟩ := hu
      have := (List.getElem?_eq_some_iff.1 hy).1
      obtain ⟨g, off, cur, rfl, hbg, hh, hcs, r⟩ := h4 (by omega)
      rw [Addr.add_lit]
      exact (cell_of_row w g _ cur _ _ hh).trans (r j y hy)
    obtain ⟨v', w', hrun, hown, hg⟩ := run_append_arg_grows (P := Tryz.prog) w 43 ty 3 i (.int .i64 0) 1 8 Tryz.underlying43 hi hz hs hby rfl (by decide) a0 T.length cap (T.map (Value.int .i64)) (by rw [List.length_map, Nat.mul_one]) holds ad 1 c [.int .i64 x] rfl hnews (by omega) (by unfold maxLen; omega) (by omega)
    refine ⟨v', w', hrun, ?_, (Below.refl _ _).grown hg hb (fun _ e => by cases e), fun k o hk _ => ?_, hg.size⟩
    · obtain ⟨h5, h6⟩ := hown
      rcases h6 with ⟨_, h6⟩ | ⟨g, cap', cur, rfl, hbg, hh, hnc, hcm, hcs, htk⟩
      · omega
      · refine ⟨_, cap', by rw [List.length_append]; rfl, by rw [List.length_append]; exact hnc, hcm, fun _ => ⟨g, 0, cur, rfl, by omega, hh, by omega, fun j y hj => ?_⟩⟩
        have hjl := (List.getElem?_eq_some_iff.1 hj).1
        have e : (cur.toList.take ((T.length + 1) * 1))[j]? = some (.int .i64 y) := by
          rw [htk, show T.map (Value.int .i64) ++ [Value.int .i64 x] = (T ++ [x]).map (Value.int .i64) by simp, List.getElem?_map, hj]; rfl
        rw [List.getElem?_take] at e
        split at e
        · rw [Nat.zero_add]; simpa using e
        · cases e
    · have hlt : k < w.heap.size := by
        rcases Nat.lt_or_ge k w.heap.size with g' | g'
        · exact g'
        · rw [Array.getElem?_eq_none g'] at hk; cases hk
      exact (hg.block k hlt (by simp)).trans hk
theorem MapIn.kept3 {P : Program} {k e : TypeId} {α : Type} {lt : α → DU} {b n : Nat} {f : Int → Option α} (h : MapIn P k e lt w b n f) (hk : Kept3 w w') : MapIn P k e lt w' b n f := by
  obtain ⟨D, ⟨es, clock, h1, h2⟩, h3⟩ := h
  exact ⟨D, ⟨es, clock, hk _ _ h1 (fun _ e => by cases e), h2⟩, h3⟩
theorem Blk.kept3 {g : Nat} {t : TypeId} {cs : Array Value} (h : Blk w g t cs) (hk : Kept3 w w') (ht : t ≠ 3) : Blk w' g t cs :=
  hk _ _ h (fun _ e => by injection e with _ e; exact ht e)
end
end Go.Proofs.YtmkicfjcgbfaaaaGreatDoor
namespace Go.Proofs.YtmkicfjcgbfaaaaGreatDoor
open Go.RowKit

/-- the place for an id: all ahead of it are less, none from there on is -/
def LowB (l : List Bl) (id : Int) (i : Nat) : Prop := i ≤ l.length ∧ (∀ (k : Nat) (x : Bl), k < i → l[k]? = some x → x.id < id) ∧ ∀ (k : Nat) (x : Bl), i ≤ k → l[k]? = some x → id ≤ x.id
set_option maxHeartbeats 400000 in
theorem done1_any (i p t : Int) (s : ByteArray) (Ak Ap : Option Addr) (nk ck np cp : Nat) (w : World) :
    Calls Tryz.prog 65 #[.agg #[.int .i64 i, .int .i64 p, .slice Ak nk ck, .string s, .slice Ap np cp], .int .i64 t] w fun e w' => e = .returned (.int .i64 (cmpI i t)) ∧ Below w.heap.size w w' := by
  unfold cmpI
  go_enter Tryz.func65, Tryz.ntmps65
  go_wp2_with fail
  go_ret
  exact ⟨rfl, (Below.refl _ _).alloc (Nat.le_refl _) _⟩
theorem low_half {l : List Bl} (hr : Rise l) (hi : IdsIn l) {id : Int} (hid : 0 ≤ id ∧ id ≤ 1000000) {q : Nat} {x : Bl} (hx : l[q]? = some x) : (cmpI x.id id < 0 → ∀ (k : Nat) (y : Bl), k < q + 1 → l[k]? = some y → y.id < id) ∧ (¬ cmpI x.id id < 0 → ∀ (k : Nat) (y : Bl), q ≤ k → l[k]? = some y → id ≤ y.id) := by
  have ha := hi x (List.mem_of_getElem? hx)
  rw [cmpI_near ha hid]
  refine ⟨fun h k y hk hy => ?_, fun h k y hk hy => ?_⟩
  · rcases Nat.lt_or_ge k q with g | g
    · have := hr _ _ _ _ g hy hx; omega
    · obtain rfl : k = q := by omega
      rw [hx] at hy; obtain rfl := Option.some.inj hy; omega
  · rcases Nat.lt_or_ge q k with g | g
    · have := hr _ _ _ _ g hx hy; omega
    · obtain rfl : k = q := by omega
      rw [hx] at hy; obtain rfl := Option.some.inj hy; omega
/-- what the search returns -/
def LowR (l : List Bl) (id : Int) (e : Ending) : Prop := ∃ (i : Nat) (b : Bool), e = .returned (.tuple #[.int .i64 i, .bool b]) ∧ LowB l id i
set_option maxHeartbeats 1000000 in
theorem binD_any (l : List Bl) (A : Option Addr) (n c : Nat) (id : Int) (w : World) (B : Nat) (hB : B ≤ w.heap.size) (h : RB w B (.slice A n c) l) (hr : Rise l) (hi : IdsIn l) (hid : 0 ≤ id ∧ id ≤ 1000000) :
    Calls Tryz.prog 34 #[.slice A n c, .int .i64 id, .func (.func 65) #[] #[]] w fun e w' => LowR l id e ∧ Below w.heap.size w w' := by
  have HN := Lib.hid h.len
  have H := Lib.hid h
  clear h
  go_enter Tryz.func34, Tryz.ntmps34
  go_wp2_with fail
  go_loopg [9, 10] n (fun gg s9 s10 wr => ∃ i j : Nat, i ≤ j ∧ j ≤ n ∧ j - i ≤ gg ∧ s9 = .int .i64 (i : Int) ∧ s10 = .int .i64 (j : Int) ∧ Hid ((∀ (k : Nat) (x : Bl), k < i → l[k]? = some x → x.id < id) ∧ ∀ (k : Nat) (x : Bl), j ≤ k → l[k]? = some x → id ≤ x.id) ∧ Hid (Below w.heap.size w wr))
  case atStart => exact ⟨0, n, by omega, by omega, by omega, rfl, rfl, ⟨fun k x hk _ => absurd hk (by omega), fun k x hk hx => absurd (List.getElem?_eq_some_iff.1 hx).1 (by have := HN.out.1; omega)⟩, Below.refl _ _⟩
  case round =>
    obtain ⟨i, j, hij, hjn, hg, rfl, rfl, hno, hbel⟩ := hrel
    have hbg : n * 80 ≤ 140737488351232 := HN.out.2.2
    have HL : Hid (n = l.length) := HN.out.1
    by_cases hk : i < j
    · have j1 : (i : Int) < (j : Int) := by omega
      have j2 : (0 : Int) ≤ (i : Int) := by omega
      obtain ⟨q, hh, h1, h2⟩ : ∃ q : Nat, ((i : Int) + (j : Int)) / 2 = (q : Int) ∧ i ≤ q ∧ q < j := ⟨(i + j) / 2, by omega, by omega, by omega⟩
      obtain ⟨x, hx⟩ : ∃ x, l[q]? = some x := ⟨_, List.getElem?_eq_getElem (by have := HL.out; omega)⟩
      obtain ⟨b, off, Ak, nk, ck, Ap, np, cp, rfl, hbb, g0, g1, g2, g3, g4, _, _⟩ := (H.out.below (hbel.out.mono hB)).at_ hx
      have HF := Lib.hid (low_half hr hi hid hx)
      have HI := Lib.hid fun W => done1_any x.id x.parent id x.text Ak Ap nk ck np cp W
      have q0 : (0 : Int) ≤ (q : Int) := by omega
      have q1 : (q : Int) < (n : Int) := by omega
      clear hx
      obtain ⟨d, hd⟩ : ∃ d, d = cmpI x.id id := ⟨_, rfl⟩
      simp only [← hd] at HF HI
      clear hd
      by_cases hz : d < 0
      all_goals
        go_wp2_with fail
        refine (HI.out _).mono ?_
        rintro e w2 ⟨rfl, hb⟩
        have HB2 : Hid (Below w.heap.size w w2) := hbel.out.trans (hb.mono hbel.out.size)
        clear hb
        go_wp2_with fail
      · go_roundg (j - (q + 1))
        case measure => omega
        case rel => exact ⟨q + 1, j, by omega, by omega, by omega, by go_num, rfl, ⟨HF.out.1 hz, hno.out.2⟩, HB2⟩
      · go_roundg (q - i)
        case measure => omega
        case rel => exact ⟨i, q, by omega, by omega, by omega, rfl, rfl, ⟨hno.out.1, HF.out.2 hz⟩, HB2⟩
    · obtain rfl : i = j := by omega
      have HE : Hid (LowB l id i) := ⟨by have := HL.out; omega, hno.out.1, hno.out.2⟩
      clear hno
      by_cases hin : i < n
      · have q0 : (0 : Int) ≤ (i : Int) := by omega
        have q1 : (i : Int) < (n : Int) := by omega
        obtain ⟨x, hx⟩ : ∃ x, l[i]? = some x := ⟨_, List.getElem?_eq_getElem (by have := HL.out; omega)⟩
        obtain ⟨b, off, Ak, nk, ck, Ap, np, cp, rfl, hbb, g0, g1, g2, g3, g4, _, _⟩ := (H.out.below (hbel.out.mono hB)).at_ hx
        have HI := Lib.hid fun W => done1_any x.id x.parent id x.text Ak Ap nk ck np cp W
        obtain ⟨z, hz⟩ : ∃ z, z = (cmpI x.id id == 0) := ⟨_, rfl⟩
        obtain ⟨d, hd⟩ : ∃ d, d = cmpI x.id id := ⟨_, rfl⟩
        simp only [← hd] at hz HI
        have hz' := hz.symm
        clear hd hx hz
        go_wp2_with fail
        refine (HI.out _).mono ?_
        rintro e w2 ⟨rfl, hb⟩
        have HB2 : Hid (Below w.heap.size w w2) := hbel.out.trans (hb.mono hbel.out.size)
        clear hb
        go_wp2_with fail
        go_ret2
        exact ⟨⟨i, z, rfl, HE.out⟩, HB2.out⟩
      · have q1 : ¬ (i : Int) < (n : Int) := by omega
        go_wp2_with fail
        go_ret2
        exact ⟨⟨i, _, rfl, HE.out⟩, hbel.out⟩
end Go.Proofs.YtmkicfjcgbfaaaaGreatDoor
namespace Go.Proofs
open Go.Shelf

def Tryz.lays105_ren : Go.Shelf.Ren := ⟨fun | 105 => 15 | 212 => 31 | 99 => 20 | 165 => 32 | 166 => 14 | 170 => 33 | 169 => 17 | 263 => 51 | 264 => 52 | 206 => 41 | 240 => 30 | 241 => 53 | 276 => 50 | 277 => 74 | n => n, fun | 9 => 9 | 3 => 3 | 4 => 4 | 20 => 20 | 0 => 0 | 46 => 73 | 109 => 74 | 5 => 5 | 72 => 42 | 76 => 47 | 51 => 98 | 146 => 99 | 53 => 101 | 148 => 102 | 70 => 39 | 37 => 40 | 75 => 46 | 127 => 81 | 164 => 96 | 80 => 54 | n => n, fun | n => n⟩
theorem Tryz.lays105 : Go.Proofs.Lays.n105 Tryz.prog Tryz.lays105_ren := {
  mixed := by kernel_rfl
  f99 := Tryz.func20.trans (congrArg some (by kernel_rfl))
  f105 := Tryz.func15.trans (congrArg some (by kernel_rfl))
  f165 := Tryz.func32.trans (congrArg some (by kernel_rfl))
  f166 := Tryz.func14.trans (congrArg some (by kernel_rfl))
  f169 := Tryz.func17.trans (congrArg some (by kernel_rfl))
  f170 := Tryz.func33.trans (congrArg some (by kernel_rfl))
  f206 := Tryz.func41.trans (congrArg some (by kernel_rfl))
  f212 := Tryz.func31.trans (congrArg some (by kernel_rfl))
  f240 := Tryz.func30.trans (congrArg some (by kernel_rfl))
  f241 := Tryz.func53.trans (congrArg some (by kernel_rfl))
  f263 := Tryz.func51.trans (congrArg some (by kernel_rfl))
  f264 := Tryz.func52.trans (congrArg some (by kernel_rfl))
  f276 := Tryz.func50.trans (congrArg some (by kernel_rfl))
  f277 := Tryz.func74.trans (congrArg some (by kernel_rfl))
  t0 := Tryz.underlying0
  a0 := Tryz.isAgg0
  z0 := Tryz.sizeOf0
  v0 := Tryz.zeroValue0
  t3 := Tryz.underlying3
  a3 := Tryz.isAgg3
  z3 := Tryz.sizeOf3
  v3 := Tryz.zeroValue3
  t4 := Tryz.underlying4
  a4 := Tryz.isAgg4
  z4 := Tryz.sizeOf4
  v4 := Tryz.zeroValue4
  t5 := Tryz.underlying5
  a5 := Tryz.isAgg5
  z5 := Tryz.sizeOf5
  v5 := Tryz.zeroValue5
  t9 := Tryz.underlying9
  a9 := Tryz.isAgg9
  z9 := Tryz.sizeOf9
  v9 := Tryz.zeroValue9
  t20 := Tryz.underlying20
  a20 := Tryz.isAgg20
  z20 := Tryz.sizeOf20
  v20 := Tryz.zeroValue20
  t37 := Tryz.underlying40
  a37 := Tryz.isAgg40
  z37 := Tryz.sizeOf40
  v37 := Tryz.zeroValue40
  t46 := Tryz.underlying73
  a46 := Tryz.isAgg73
  z46 := Tryz.sizeOf73
  v46 := Tryz.zeroValue73
  t51 := Tryz.underlying98
  a51 := Tryz.isAgg98
  z51 := Tryz.sizeOf98
  v51 := Tryz.zeroValue98
  t53 := Tryz.underlying101
  a53 := Tryz.isAgg101
  z53 := Tryz.sizeOf101
  v53 := Tryz.zeroValue101
  t70 := Tryz.underlying39
  a70 := Tryz.isAgg39
  z70 := Tryz.sizeOf39
  v70 := Tryz.zeroValue39
  t72 := Tryz.underlying42
  a72 := Tryz.isAgg42
  z72 := Tryz.sizeOf42
  v72 := Tryz.zeroValue42
  t75 := Tryz.underlying46
  a75 := Tryz.isAgg46
  z75 := Tryz.sizeOf46
  v75 := Tryz.zeroValue46
  t76 := Tryz.underlying47
  a76 := Tryz.isAgg47
  z76 := Tryz.sizeOf47
  v76 := Tryz.zeroValue47
  t109 := Tryz.underlying74
  a109 := Tryz.isAgg74
  z109 := Tryz.sizeOf74
  v109 := Tryz.zeroValue74
  t127 := Tryz.underlying81
  a127 := Tryz.isAgg81
  z127 := Tryz.sizeOf81
  v127 := Tryz.zeroValue81
  t146 := Tryz.underlying99
  a146 := Tryz.isAgg99
  z146 := Tryz.sizeOf99
  v146 := Tryz.zeroValue99
  t148 := Tryz.underlying102
  a148 := Tryz.isAgg102
  z148 := Tryz.sizeOf102
  v148 := Tryz.zeroValue102
  t164 := Tryz.underlying96
  a164 := Tryz.isAgg96
  z164 := Tryz.sizeOf96
  v164 := Tryz.zeroValue96 }
theorem Tryz.Builder_Extra_105 : Builder.Extra Tryz.prog Tryz.lays105_ren := {
  sizeBuilder := by kernel_rfl
  liesBuilder := by kernel_rfl
  t5 := Tryz.underlying5
  a5 := Tryz.isAgg5
  z5 := Tryz.sizeOf5
  v5 := Tryz.zeroValue5
  infoByte := by kernel_rfl
  cellsByte := by kernel_rfl
  sizeByte := by kernel_rfl
  neB5 := by decide }
open Go.RowKit Go.Lib in
theorem Tryz.strings_Repeat (s : ByteArray) (c : Nat) (w : World) (hc : c ≤ 9223372036854775807) (hlen : s.size * c ≤ 140737488355328) :
    Calls Tryz.prog 15 #[.string s, .int .i64 c] w fun e w' => e = .returned (.string ⟨(Lib.repeatL s.data.toList c).toArray⟩) ∧ Below w.heap.size w w' := Any.strings_Repeat Tryz.lays105 Tryz.Builder_Extra_105 s c w hc hlen
end Go.Proofs
