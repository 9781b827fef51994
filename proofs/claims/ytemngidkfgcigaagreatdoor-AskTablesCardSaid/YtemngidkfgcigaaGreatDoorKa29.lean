/-
  DERIVED. The walk of ask.look. Conditions: sizes; a base without error.
  Values that came in, opened. Conditions: none.
  By an AI agent.
-/
import Derived.Test.YtemngidkfgcigaaGreatDoorKa26
import Derived.Test.YtemngidkfgcigaaGreatDoorKa13
import Derived.Test.YtemngidkfgcigaaGreatDoorKa05
namespace Go.Proofs.YtemngidkfgcigaaGreatDoor
open Go.RowKit

/-- the pages of all blocks below some -/
def pgF (l : List Bl) : List Int → (Int → Option Int) → Int → Option Int
  | [], f => f
  | k :: ks, f => pgF l ks (cnF k (k :: ord l 40 k) f)
theorem pgF_app (l : List Bl) : ∀ (A B : List Int) (f : Int → Option Int), pgF l (A ++ B) f = pgF l B (pgF l A f)
  | [], _, _ => rfl
  | k :: A, B, f => by rw [List.cons_append, pgF, pgF_app l A B, pgF]
theorem pgF_succ (l : List Bl) {ks : List Int} {j : Nat} {k : Int} (h : ks[j]? = some k) (f : Int → Option Int) : pgF l (ks.take (j + 1)) f = cnF k (k :: ord l 40 k) (pgF l (ks.take j) f) := by
  rw [List.take_add_one, h, pgF_app]
  rfl
/-- what is noted of no block -/
def noF : Int → Option Int := fun _ => none
/-- a view that is made -/
theorem VW.made (w : World) (bs : Value) : ∀ W : World, W = ((((w.alloc (.map #[] 0)).alloc (.map #[] 0)).alloc (.map #[] 0)).alloc (.map #[] 0)).alloc (.cells #[bs, .map (some w.heap.size), .slice none 0 0, .map (some (w.heap.size + 1)), .map (some (w.heap.size + 2)), .map (some (w.heap.size + 3))] 54) →
    VW w W (w.heap.size + 4) w.heap.size (w.heap.size + 1) (w.heap.size + 2) (w.heap.size + 3) bs 0 0 noF [] noF noF noF := by
  intro W hW
  obtain ⟨w1, h1⟩ : ∃ w1, w1 = w.alloc (.map #[] 0) := ⟨_, rfl⟩
  obtain ⟨w2, h2⟩ : ∃ w2, w2 = w1.alloc (.map #[] 0) := ⟨_, rfl⟩
  obtain ⟨w3, h3⟩ : ∃ w3, w3 = w2.alloc (.map #[] 0) := ⟨_, rfl⟩
  obtain ⟨w4, h4⟩ : ∃ w4, w4 = w3.alloc (.map #[] 0) := ⟨_, rfl⟩
  rw [← h1, ← h2, ← h3, ← h4] at hW
  have z1 : w1.heap.size = w.heap.size + 1 := by rw [h1]; simp
  have z2 : w2.heap.size = w.heap.size + 2 := by rw [h2]; simp [z1]
  have z3 : w3.heap.size = w.heap.size + 3 := by rw [h3]; simp [z2]
  have z4 : w4.heap.size = w.heap.size + 4 := by rw [h4]; simp [z3]
  have b1 : Below w.heap.size w w1 := by rw [h1]; exact (Below.refl _ _).alloc (Nat.le_refl _) _
  have b2 : Below w.heap.size w w2 := by rw [h2]; exact b1.alloc (by omega) _
  have b3 : Below w.heap.size w w3 := by rw [h3]; exact b2.alloc (by omega) _
  have b4 : Below w.heap.size w w4 := by rw [h4]; exact b3.alloc (by omega) _
  have m1 : VM w1 w.heap.size 0 noF := by rw [h1]; exact MapIn.made w
  have m2 : VM w2 (w.heap.size + 1) 0 noF := by rw [h2, ← z1]; exact MapIn.made w1
  have m3 : VM w3 (w.heap.size + 2) 0 noF := by rw [h3, ← z2]; exact MapIn.made w2
  have m4 : VM w4 (w.heap.size + 3) 0 noF := by rw [h4, ← z3]; exact MapIn.made w3
  have kb : Blk W (w.heap.size + 4) 54 #[bs, .map (some w.heap.size), .slice none 0 0, .map (some (w.heap.size + 1)), .map (some (w.heap.size + 2)), .map (some (w.heap.size + 3))] := by rw [hW, ← z4]; exact Blk.new _ _ _
  have hal : ∀ {v : World} (o : Obj), ∀ {g n : Nat} {f : Int → Option Int}, VM v g n f → VM (v.alloc o) g n f := fun o _ _ _ h => MapIn.alloc h o
  refine ⟨⟨_, kb, ⟨rfl, .inl ⟨rfl, rfl⟩⟩, by simp [Value.ownBlock]⟩, ?_, ⟨0, Nat.le_refl _, ?_⟩, ⟨0, Nat.le_refl _, ?_⟩, ⟨0, Nat.le_refl _, ?_⟩, by omega, by omega, ?_⟩
  · rw [hW, h4, h3, h2]; exact hal _ (hal _ (hal _ (hal _ m1)))
  · rw [hW, h4, h3]; exact hal _ (hal _ (hal _ m2))
  · rw [hW, h4]; exact hal _ (hal _ m3)
  · rw [hW]; exact hal _ m4
  · rw [hW]; exact b4.alloc (by omega) _

set_option maxHeartbeats 8000000 in
set_option maxRecDepth 100000 in
/-- ask.look -/
theorem look_any (l : List Bl) (f : Int → Option Int) (G : Good l f) (A : Option Addr) (n c : Nat) (w : World) (hb : RB w w.heap.size (.slice A n c) l) :
    Calls Tryz.prog 19 #[.slice A n c] w fun e w' => ∃ (vb g0 g1 g2 g3 na : Nat) (fa : Int → Option Int), e = .returned (.pointer (some ⟨vb, 0, none⟩)) ∧ VW w w' vb g0 g1 g2 g3 (.slice A n c) na 100000 fa (ord l 41 0) (plF (ord l 41 0) 0 noF) (gnF (dpI f) (ord l 41 0) noF) (pgF l ((l[0]?).elim [] Bl.kids) noF) ∧ ∀ (p : Nat) (b : Bl), l[p]? = some b → fa b.id = some (p : Int) := by
  have HN := Lib.hid hb.len
  have H := Lib.hid hb
  have HG := Lib.hid G
  have hmm := fun W => run_makeMap (P := Tryz.prog) 52 W
  clear hb
  go_enter Tryz.func19, Tryz.ntmps19
  go_upto_region 1 with fail
  go_cut [3] (fun s3 wc => ∃ vb g0 g1 g2 g3 : Nat, s3 = .pointer (some ⟨vb, 0, none⟩) ∧ Hid (VW w wc vb g0 g1 g2 g3 (.slice A n c) 0 0 noF [] noF noF noF))
  case first =>
    go_wp2_with fail
    go_meet
    exact ⟨_, _, _, _, _, rfl, VW.made w (.slice A n c) _ rfl⟩
  case rest =>
  obtain ⟨vb, g0, g1, g2, g3, rfl, hv0⟩ := hcut
  clear hmm
  go_wp2_with fail
  go_loopg [17] n (fun gg s17 wr => ∃ (i : Nat) (F : Int → Option Int), i + gg = n ∧ s17 = .int .i64 (i : Int) ∧ Hid (VW w wr vb g0 g1 g2 g3 (.slice A n c) i 0 F [] noF noF noF) ∧ Hid (∀ (p : Nat) (x : Bl), p < i → l[p]? = some x → F x.id = some (p : Int)))
  case atStart => exact ⟨0, _, by omega, rfl, hv0, fun p x hp => absurd hp (Nat.not_lt_zero _)⟩
  case round =>
    obtain ⟨i, F, hig, rfl, hv, hF⟩ := hrel
    obtain ⟨W1, rfl⟩ : ∃ W1, W1 = wr := ⟨_, rfl⟩
    have hbg : n * 80 ≤ 140737488351232 := HN.out.2.2
    by_cases hk : i < n
    · obtain ⟨x, hx⟩ : ∃ x, l[i]? = some x := ⟨_, List.getElem?_eq_getElem (by have := HN.out.1; omega)⟩
      obtain ⟨b, off, Ak, nk, ck, Ap, np, cp, rfl, hbb, e0, e1, e2, e3, e4, _, _⟩ := (H.out.below hv.out.below).at_ hx
      have hxi : I64 x.id := by
        have := HG.out.kids.ids x (List.mem_of_getElem? hx)
        unfold I64; omega
      have hii : I64 (i : Int) := by unfold I64; omega
      have j0 : (0 : Int) ≤ (i : Int) := by omega
      have j1 : (i : Int) < (n : Int) := by omega
      obtain ⟨wa, hwa⟩ : ∃ wa, wa = W1.alloc (.cells #[.int .i64 x.id, .int .i64 x.parent, .slice Ak nk ck, .string x.text, .slice Ap np cp] 35) := ⟨_, rfl⟩
      have hal : Below W1.heap.size W1 wa := by rw [hwa]; exact (Below.refl _ _).alloc (Nat.le_refl _) _
      have p0 : Blk wa W1.heap.size 35 #[.int .i64 x.id, .int .i64 x.parent, .slice Ak nk ck, .string x.text, .slice Ap np cp] := by rw [hwa]; exact Blk.new W1 _ _
      have hva : VW w wa.drew vb g0 g1 g2 g3 (.slice (some ⟨b, off, none⟩) n c) i 0 F [] noF noF noF := hv.out.step hal.drew
      obtain ⟨w3, hup, hm3, hg3⟩ := hva.ma.put vw_elem Tryz.underlying3 Tryz.underlying52 (by unfold maxLen; omega) hxi (a := (i : Int)) hii
      have HV3 := Lib.hid (hva.putA hg3 hm3)
      have HF3 : Hid (∀ (p : Nat) (y : Bl), p < i + 1 → l[p]? = some y → putF F x.id (i : Int) y.id = some (p : Int)) := fun p y hp hy => by
        by_cases e : p = i
        · subst e
          rw [hx] at hy
          obtain rfl := Option.some.inj hy
          exact putF_same _ _ _
        · have hlt := HG.out.kids.rise p i y x (by omega) hy hx
          rw [putF_other _ _ (by omega)]
          exact hF.out p y (by omega) hy
      have m0 : wa.drew.cell? ⟨W1.heap.size, 0, none⟩ = some (.int .i64 x.id) := p0.cell 0
      have m1 : wa.drew.cell? ⟨vb, 1, none⟩ = some (.map (some g0)) := by
        obtain ⟨v, k1, _, _⟩ := hva.ex
        exact k1.cell 1
      have HWA := Lib.hid hwa
      clear hm3 hg3 hx hwa hal p0 hva hv hF hv0
      go_upto_region 5 with fail
      rw [← HWA.out]
      clear e0 e1 e2 e3 e4
      go_region_with fail
      all_goals
        clear m0 m1 hup
        go_wp2_with fail
        go_roundg (n - (i + 1))
        case measure => omega
        case rel => exact ⟨i + 1, _, by omega, by go_num, HV3, HF3⟩
    · obtain rfl : n = i := by omega
      have HFF : Hid (∀ (p : Nat) (x : Bl), l[p]? = some x → F x.id = some (p : Int)) := fun p x hx => hF.out p x (by have := (List.getElem?_eq_some_iff.1 hx).1; have := HN.out.1; omega) hx
      obtain ⟨r, hr, hr0, _⟩ := HG.out.kids.root
      have hn0 : 0 < n := by have := (List.getElem?_eq_some_iff.1 hr).1; have := HN.out.1; omega
      obtain ⟨b, off, Ak, nk, ck, Ap, np, cp, rfl, hbb, e0, e1, e2, e3, e4, hks, _⟩ := H.out.at_ hr
      rw [Nat.zero_mul, Nat.add_zero] at e2
      have e2 := (hv.out.below.cell (p := ⟨b, off + 2, none⟩) hbb).trans e2
      obtain ⟨hkn, _, hk8⟩ := hks.len
      have hoe : ord l 41 0 = r.kids.flatMap fun k => k :: ord l 40 k := ord_at (p := 0) (by rw [← hr0]; exact posOf_of HG.out.kids.rise hr) hr 40
      have hrm := List.mem_of_getElem? hr
      have hdk : ∀ k ∈ r.kids, Dp l k 1 := fun k hk => .step r 0 k (hr0 ▸ .root) hrm hk
      have hidk : ∀ k ∈ r.kids, I64 k := fun k hk => by
        obtain ⟨y, hy, e⟩ := (hdk k hk).mem HG.out.kids
        have := HG.out.kids.ids y hy
        rw [e] at this
        unfold I64; omega
      have hsh := ord_short HG.out.kids 41 (Dp.root (l := l))
      have hs20 := HG.out.kids.short
      have hpg : (l[0]?).elim [] Bl.kids = r.kids := by rw [hr]; rfl
      have HPGE := Lib.hid hpg
      have HOE := Lib.hid hoe
      rw [hoe] at hsh
      have HKN := Lib.hid hkn
      have HKS := Lib.hid hks
      have HSH := Lib.hid hsh
      have HS20 := Lib.hid hs20
      have HDK := Lib.hid hdk
      have HIDK := Lib.hid hidk
      have HS0 : Hid (VW w W1 vb g0 g1 g2 g3 (.slice (some ⟨b, off, none⟩) n c) n (3 * ((r.kids.take 0).flatMap fun k => k :: ord l 40 k).length) F ((r.kids.take 0).flatMap fun k => k :: ord l 40 k) (plF ((r.kids.take 0).flatMap fun k => k :: ord l 40 k) 0 noF) (gnF (dpI f) ((r.kids.take 0).flatMap fun k => k :: ord l 40 k) noF) (pgF l (r.kids.take 0) noF)) := hv
      have jn : (0 : Int) < (n : Int) := by omega
      clear e0 e1 e3 e4 hkn hks hsh hs20 hdk hidk hoe hpg hr hr0 hrm hv hF hv0
      go_wp2_with fail
      clear e2
      go_loopg [35] nk (fun gg s35 wr => ∃ j : Nat, j + gg = nk ∧ s35 = .int .i64 (j : Int) ∧ Hid (VW w wr vb g0 g1 g2 g3 (.slice (some ⟨b, off, none⟩) n c) n (3 * ((r.kids.take j).flatMap fun k => k :: ord l 40 k).length) F ((r.kids.take j).flatMap fun k => k :: ord l 40 k) (plF ((r.kids.take j).flatMap fun k => k :: ord l 40 k) 0 noF) (gnF (dpI f) ((r.kids.take j).flatMap fun k => k :: ord l 40 k) noF) (pgF l (r.kids.take j) noF)))
      case atStart => exact ⟨0, by omega, rfl, HS0⟩
      case round =>
        obtain ⟨j, hjg, rfl, hs⟩ := hrel
        by_cases hj : j < nk
        · obtain ⟨k, hkj⟩ : ∃ k, r.kids[j]? = some k := ⟨_, List.getElem?_eq_getElem (by have := HKN.out; omega)⟩
          obtain ⟨bk, ok, rfl, hbk, hck⟩ := HKS.out.at_ hkj
          have g0' : wr.cell? ⟨bk, ok + j, none⟩ = some (.int .i64 k) := (hs.out.below.cell (p := ⟨bk, ok + j, none⟩) hbk).trans hck
          have hfl := flat_succ (fun k => k :: ord l 40 k) hkj
          have hle := flat_take_le (fun k => k :: ord l 40 k) r.kids (j + 1)
          rw [hfl, List.length_append] at hle
          have h1 := HSH.out
          have h2 := HS20.out
          have CM := mark_any l f HG.out H.out HFF.out 40 k k 1 wr _ _ _ _ _ (HDK.out k (List.mem_of_getElem? hkj)) (by omega) (HIDK.out k (List.mem_of_getElem? hkj)) (by omega) (by omega) hs.out
          rw [show ((1 : Nat) : Int) = 1 from rfl] at CM
          have HFL := Lib.hid hfl
          have HPG := Lib.hid (pgF_succ l hkj noF)
          have HCM := Lib.hid CM
          have j1 : (j : Int) < (nk : Int) := by omega
          clear hck hfl hle h1 h2 CM hkj HS0 hs
          go_wp2_with fail
          refine HCM.out.mono ?_
          rintro e w3 ⟨rfl, h3⟩
          have H3 : Hid (VW w w3 vb g0 g1 g2 g3 (.slice (some ⟨b, off, none⟩) n c) n (3 * ((r.kids.take (j + 1)).flatMap fun k => k :: ord l 40 k).length) F ((r.kids.take (j + 1)).flatMap fun k => k :: ord l 40 k) (plF ((r.kids.take (j + 1)).flatMap fun k => k :: ord l 40 k) 0 noF) (gnF (dpI f) ((r.kids.take (j + 1)).flatMap fun k => k :: ord l 40 k) noF) (pgF l (r.kids.take (j + 1)) noF)) := by
            show VW _ _ _ _ _ _ _ _ _ _ _ _ _ _ _
            rw [HFL.out, HPG.out, plF_app, gnF_app, Nat.zero_add, List.length_append]
            exact h3.mono (by omega)
          clear h3 HCM
          go_wp2_with fail
          go_roundg (nk - (j + 1))
          case measure => omega
          case rel => exact ⟨j + 1, by omega, by go_num, H3⟩
        · obtain rfl : nk = j := by omega
          have ht : r.kids.take nk = r.kids := List.take_of_length_le (by rw [← HKN.out]; exact Nat.le_refl _)
          rw [ht] at hs
          have h1 := HSH.out
          have h2 := HS20.out
          have hs2 := Lib.hid (hs.out.mono (K' := 100000) (by omega))
          clear hs HS0 h1 h2
          go_wp2_with fail
          go_ret
          rw [HPGE.out, HOE.out]
          exact ⟨_, _, _, _, _, _, F, rfl, hs2.out, HFF.out⟩
end Go.Proofs.YtemngidkfgcigaaGreatDoor
namespace Go.Proofs.YtemngidkfgcigaaGreatDoor
open Go.ChangeShapes Go.WideShapes Go.RowKit

theorem fm_len {α : Type} {en : α → List Value} {c : Nat} (h : ∀ x, (en x).length = c) : ∀ M : List α, (M.flatMap en).length = M.length * c
  | [] => by simp
  | x :: M => by rw [List.flatMap_cons, List.length_append, h, fm_len h M, List.length_cons, Nat.succ_mul]; omega
theorem choose_list {α : Type} {p : Nat → α → Prop} : ∀ (n : Nat), (∀ i, i < n → ∃ a, p i a) → ∃ l : List α, l.length = n ∧ ∀ i a, l[i]? = some a → p i a
  | 0, _ => ⟨[], rfl, by simp⟩
  | n + 1, h => by
    obtain ⟨l, hl, hp⟩ := choose_list n (fun i hi => h i (by omega))
    obtain ⟨a, ha⟩ := h n (by omega)
    refine ⟨l ++ [a], by simp [hl], fun i b hb => ?_⟩
    rcases Nat.lt_or_ge i n with hi | hi
    · rw [List.getElem?_append_left (by omega)] at hb
      exact hp i b hb
    · rw [List.getElem?_append_right (by omega)] at hb
      obtain rfl : i = n := by
        rcases Nat.lt_or_ge (i - l.length) 1 with h1 | h1
        · omega
        · rw [List.getElem?_eq_none (by simpa using h1)] at hb; cases hb
      rw [hl, Nat.sub_self] at hb
      simp at hb
      subst hb
      exact ha

section
variable {H : Type} {enc : TypeId × Value → H} {P : Program} {W : World}
/-- a slice that was read, row by row -/
theorem open_list {α : Type} {en : α → List Value} {C Y : Nat} {Q : Nat → α → Prop} {t e : TypeId} {fuel : Nat} {u : Value} {y : DataW H × List MemPlace} (ht : P.underlying t = some (.slice e)) (hC : P.cellsOf e = C) (hC0 : 0 < C) (hY : P.bytesOf e = Y) (hen : ∀ x, (en x).length = C)
    (hrow : ∀ (m : Nat) (cs : List Value) (z : DataW H × List MemPlace), m < fuel → DataW.trod enc P W 0 (fun _ => true) true m e cs = some z → (∀ x ∈ z.2, x.block < W.heap.size) → Fits P e z.1 → ∃ x, en x = cs ∧ Q m x)
    (h : DataW.trod enc P W 0 (fun _ => true) true fuel t [u] = some y) (hp : ∀ x ∈ y.2, x.block < W.heap.size) (hfit : Fits P t y.1) :
    ∃ A n c, ∃ M : List α, u = .slice A n c ∧ n = M.length ∧ (n ≤ c ∧ n * Y ≤ 140737488351232) ∧ Reads W W.heap.size C A n (M.flatMap en) ∧ ∀ x ∈ M, ∃ m, m < fuel ∧ Q m x := by
  rcases DataW.trod_slice ht h with ⟨hcs, hx⟩ | ⟨a, len, cap, elems, rest, m, rfl, hcs, rfl, _, hl, hcap, hel, hi, hsp, _⟩
  · obtain rfl : u = .slice none 0 0 := by simpa using hcs
    exact ⟨none, 0, 0, [], rfl, rfl, ⟨Nat.le_refl _, by omega⟩, ⟨by simp, fun h => absurd h (by omega)⟩, fun x hx => by cases hx⟩
  · obtain rfl : u = .slice (some a) len cap := by simpa using hcs
    rw [hC] at hi
    have hs := hfit.slice ht
    simp only [List.length_map] at hs
    rw [hel, hY] at hs
    have hs : len * Y ≤ 140737488351232 := Nat.le_trans (Nat.mul_le_mul_right _ (by omega)) hs
    obtain ⟨M, h1, h2⟩ := choose_list (p := fun i x => (∀ j w, (en x)[j]? = some w → W.cell? (a.add (i * C + j)) = some w) ∧ Q m x) len fun i hil => by
      have h1 := hi i hil
      rw [List.getElem?_eq_getElem (by omega)] at h1
      obtain ⟨cs, hc, htr⟩ := Option.bind_eq_some_iff.1 h1
      obtain ⟨_, hrl, hat⟩ := World.cells?_some hc
      obtain ⟨x, hx, hq⟩ := hrow m cs _ (Nat.lt_succ_self m) htr (fun z hz => hp z (List.mem_append_right _ (List.mem_flatMap.2 ⟨_, List.mem_append_left _ (List.getElem_mem _), hz⟩)))
        (hfit.elem ht (List.mem_map.2 ⟨_, List.getElem_mem _, rfl⟩))
      refine ⟨x, fun j w hj => ?_, hq⟩
      rw [hx] at hj
      have hjl : j < C := by rw [← hrl]; exact (List.getElem?_eq_some_iff.1 hj).1
      rw [← add_of_add, hat j hjl, hj]
    refine ⟨some a, len, cap, M, rfl, h1.symm, ⟨hl, hs⟩, ⟨by rw [fm_len hen, h1], fun hn => ⟨a, rfl, ?_, fun k w hk => ?_⟩⟩, fun x hx => ?_⟩
    · exact hp (.cell a.block a.off) (List.mem_append_left _ (MemPlace.mem_row.2 ⟨0, Nat.mul_pos (by omega) (by rw [hC]; exact hC0), by simp⟩))
    · have hkl := (List.getElem?_eq_some_iff.1 hk).1
      rw [fm_len hen] at hkl
      have hkk : k / C * C + k % C = k := by rw [Nat.mul_comm]; exact Nat.div_add_mod k C
      have hd : k / C < M.length := Nat.div_lt_of_lt_mul (by rw [Nat.mul_comm]; exact hkl)
      have hm := Nat.mod_lt k hC0
      obtain ⟨x, hx⟩ : ∃ x, M[k / C]? = some x := ⟨_, List.getElem?_eq_getElem hd⟩
      have h4 := fm_get en C hen M (k / C) (k % C) x hx hm
      rw [hkk, hk] at h4
      have h5 := (h2 _ x hx).1 (k % C) w h4.symm
      rw [hkk] at h5
      exact h5
    · obtain ⟨i, hi', rfl⟩ := List.mem_iff_getElem.1 hx
      exact ⟨m, Nat.lt_succ_self m, (h2 i _ (List.getElem?_eq_getElem hi')).2⟩
end

theorem cellsV : Tryz.prog.cellsOf 41 = 5 := by kernel_rfl
theorem cells_of_int : Tryz.prog.cellsOf 3 = 1 := by kernel_rfl
theorem cells_of_str : Tryz.prog.cellsOf 9 = 1 := by kernel_rfl
theorem cells_of_vals : Tryz.prog.cellsOf 38 = 1 := by kernel_rfl

section
variable {H : Type} {enc : TypeId × Value → H} {W : World}
set_option maxRecDepth 100000 in
theorem val_open : ∀ (fuel : Nat) (cs : List Value) (x : DataW H × List MemPlace),
    DataW.trod enc Tryz.prog W 0 (fun _ => true) true fuel 41 cs = some x → (∀ y ∈ x.2, y.block < W.heap.size) → Fits Tryz.prog 41 x.1 → ∃ v : Vl × Value, vlV v = cs ∧ RVd W W.heap.size fuel v.2 v.1.items := by
  intro fuel
  induction fuel using Nat.strongRecOn with
  | _ fuel ih =>
    intro cs x h hp hfit
    obtain ⟨xs, n, rfl, rfl, hlen, hxl, hf⟩ := DataW.trod_struct Tryz.underlying41 h
    rw [cellsV] at hlen
    match cs, hlen with
    | [u0, u1, u2, u3, u4], _ =>
      match xs, hxl with
      | [y0, y1, y2, y3, y4], _ =>
        have g0 : DataW.trod enc Tryz.prog W 0 (fun _ => true) true n 3 (([u0, u1, u2, u3, u4].drop 0).take (Tryz.prog.cellsOf 3)) = some y0 := hf 0 _ rfl
        have g1 : DataW.trod enc Tryz.prog W 0 (fun _ => true) true n 3 (([u0, u1, u2, u3, u4].drop 1).take (Tryz.prog.cellsOf 3)) = some y1 := hf 1 _ rfl
        have g2 : DataW.trod enc Tryz.prog W 0 (fun _ => true) true n 3 (([u0, u1, u2, u3, u4].drop 2).take (Tryz.prog.cellsOf 3)) = some y2 := hf 2 _ rfl
        have g3 : DataW.trod enc Tryz.prog W 0 (fun _ => true) true n 9 (([u0, u1, u2, u3, u4].drop 3).take (Tryz.prog.cellsOf 9)) = some y3 := hf 3 _ rfl
        have g4 : DataW.trod enc Tryz.prog W 0 (fun _ => true) true n 38 (([u0, u1, u2, u3, u4].drop 4).take (Tryz.prog.cellsOf 38)) = some y4 := hf 4 _ rfl
        rw [cells_of_int] at g0 g1 g2
        rw [cells_of_str] at g3
        rw [cells_of_vals] at g4
        change DataW.trod enc Tryz.prog W 0 (fun _ => true) true n 3 [u0] = some y0 at g0
        change DataW.trod enc Tryz.prog W 0 (fun _ => true) true n 3 [u1] = some y1 at g1
        change DataW.trod enc Tryz.prog W 0 (fun _ => true) true n 3 [u2] = some y2 at g2
        change DataW.trod enc Tryz.prog W 0 (fun _ => true) true n 9 [u3] = some y3 at g3
        change DataW.trod enc Tryz.prog W 0 (fun _ => true) true n 38 [u4] = some y4 at g4
        obtain ⟨k, e0, rfl, _⟩ := DataW.trod_int Tryz.underlying3 g0
        obtain ⟨i, e1, rfl, _⟩ := DataW.trod_int Tryz.underlying3 g1
        obtain ⟨t, e2, rfl, _⟩ := DataW.trod_int Tryz.underlying3 g2
        obtain ⟨s, e3, rfl, _⟩ := DataW.trod_string Tryz.underlying9 g3
        simp at e0 e1 e2 e3
        subst e0 e1 e2 e3
        have hfit4 : Fits Tryz.prog 38 y4.1 := hfit.part Tryz.underlying41 (j := 4) rfl rfl
        have hp4 : ∀ y ∈ y4.2, y.block < W.heap.size := fun y hy => hp y (by simp [hy])
        obtain ⟨A, len, cap, M, rfl, h1, h2, h3, h4⟩ := open_list (en := vlV) (Q := fun m x => RVd W W.heap.size m x.2 x.1.items) Tryz.underlying38 cellsV (by omega) (show _ = 64 by kernel_rfl) vlV_len
          (fun m cs z hm htr hz hft => ih m (by omega) cs z htr hz hft) g4 hp4 hfit4
        exact ⟨(.mk k i t s (M.map Prod.fst), .slice A len cap), rfl, A, len, cap, M, rfl, rfl, h1, h2, h3, fun x hx => by
          obtain ⟨m, hm, hq⟩ := h4 x hx
          exact hq.up (by omega)⟩

end
end Go.Proofs.YtemngidkfgcigaaGreatDoor
