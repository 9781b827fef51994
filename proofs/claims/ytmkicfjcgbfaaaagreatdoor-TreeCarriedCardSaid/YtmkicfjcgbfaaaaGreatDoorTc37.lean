/-
  DERIVED. The walk of tree.Graft, from its lines on. Conditions: sizes.
  By an AI agent.
-/
import Derived.Test.YtmkicfjcgbfaaaaGreatDoorTc36
import Derived.Test.YtmkicfjcgbfaaaaGreatDoorTc26
import Derived.Test.YtmkicfjcgbfaaaaGreatDoorTc24
import Derived.Deep.RegionHeld3
namespace Go.Proofs.YtmkicfjcgbfaaaaGreatDoor
open Go.RowKit

/-- the operations that graft lines -/
def grO (l : List Bl) (id pl : Int) (ls : List (Int × ByteArray)) : List Opn := (grS ls (lastId l) id pl ls.length).2.2
/-- what comes of lines that are grafted -/
def GrR (l : List Bl) (id pl : Int) (ls : List (Int × ByteArray)) (w : World) (e : Ending) (w' : World) : Prop := (¬ LnTo ls ls.length ∧ ManyR [] 1 w e w') ∨ (LnTo ls ls.length ∧ ∃ er, TryP l (grO l id pl ls) er ∧ ManyR (grO l id pl ls) er w e w')
set_option maxRecDepth 100000 in
set_option maxHeartbeats 16000000 in
theorem graft_any (l : List Bl) (f : Int → Option Int) (G : Good l f) (A : Option Addr) (n c : Nat) (id pl : Int) (hid : I64 id) (ls : List (Int × ByteArray)) (AL : Option Addr) (nL cL : Nat) (w : World) (h : RB w w.heap.size (.slice A n c) l) (hl : RLn w w.heap.size (.slice AL nL cL) ls) (p : Nat) (x : Bl) (hx : l[p]? = some x) (hxi : x.id = id) (hp0 : 0 ≤ pl) (hp1 : pl ≤ x.kids.length) :
    Calls Tryz.prog 7 #[.slice A n c, .int .i64 id, .int .i64 pl, .slice AL nL cL] w (GrR l id pl ls w) := by
  have hpos := posOf_of G.kids.rise hx
  rw [hxi] at hpos
  obtain ⟨i1, ihi, iz0, iz1, iz2⟩ := info_parts int_info
  obtain ⟨m0, mhi, mz0, mz1, mz2⟩ := info_parts op_info
  have HC := Lib.hid (checkId_any l f A n c id hid w w.heap.size (Nat.le_refl _) h fun _ => G.dep)
  rw [show ciE l f id = 0 by unfold ciE; rw [if_neg (fun e => e G.clean), if_neg (by omega)]] at HC
  have HIX := Lib.hid fun W (hW : Below w.heap.size w W) => index_any l A n c id W w.heap.size hW.size (h.below hW) G.kids.rise G.kids.ids hid
  rw [hpos] at HIX
  have hpn : p < n := by have := (List.getElem?_eq_some_iff.1 hx).1; have := h.len.1; omega
  have hn8 : n ≤ 2000 := by have := G.kids.short; have := h.len.1; omega
  have hfew := G.kids.few x (List.mem_of_getElem? hx)
  have hidb : 0 ≤ id ∧ id ≤ 1000000 := by have := G.kids.ids x (List.mem_of_getElem? hx); rw [hxi] at this; exact this
  obtain ⟨q, hq⟩ : ∃ q : Nat, n = q + 1 := ⟨n - 1, by omega⟩
  obtain ⟨z, hz⟩ : ∃ z, l[l.length - 1]? = some z := ⟨_, List.getElem?_eq_getElem (by have := h.len.1; omega)⟩
  have hzl : lastId l = z.id := by unfold lastId; rw [hz]
  have hzi := G.kids.ids z (List.mem_of_getElem? hz)
  rw [show l.length - 1 = q by have := h.len.1; omega] at hz
  obtain ⟨b, off, Kx, nkx, ckx, _, _, _, rfl, hbb, _, _, g2, _, _, hKx, _⟩ := h.at_ hx
  obtain ⟨b', off', _, _, _, _, _, _, e, _, z0, _⟩ := h.at_ hz
  have e : b = b' ∧ off = off' := by injection e with e; injection e with e1 e2; exact ⟨e1, e2⟩
  obtain ⟨rfl, rfl⟩ := e
  obtain ⟨i0, hi0⟩ : ∃ i0, i0 = z.id := ⟨_, rfl⟩
  rw [← hi0] at z0 hzi hzl
  have hnk : nkx = x.kids.length := hKx.len.1
  have hpk : pl ≤ (nkx : Int) := by omega
  have hpk5 : pl ≤ 500 := by omega
  have hnL := hl.len
  have hlt8 : ∀ y ∈ ls, y.2.size ≤ 1048576 := fun y hy => by
    obtain ⟨k, hk⟩ := List.mem_iff_getElem?.1 hy
    obtain ⟨_, _, _, _, _, _, _, h6⟩ := hl.at_ hk
    exact h6
  have HGK := Lib.hid fun k (hk : k ≤ ls.length) (hln : LnTo ls k) => grOk (ls := ls) hzi hidb (by omega : 0 ≤ pl ∧ pl ≤ 1000) (by omega) hlt8 k hk hln
  have HTR : Hid (∀ W Aq cq, LnTo ls ls.length → Below w.heap.size w W → ROs W W.heap.size (.slice Aq ls.length cq) (grS ls i0 id pl ls.length).2.2 → (Aq = none → ls.length = 0 ∧ cq = 0) → Calls Tryz.prog 23 #[.slice (some ⟨b, off, none⟩) n c, .slice Aq ls.length cq] W fun e w' => ∃ A' n' c' er, e = .returned (.tuple #[.slice A' n' c', .int .i64 er]) ∧ GrR l id pl ls w (.returned (.tuple #[.slice A' n' c', .int .i64 er])) w') := fun W Aq cq hln hw hros hnone => by
    have hgo : grO l id pl ls = (grS ls i0 id pl ls.length).2.2 := by unfold grO; rw [hzl]
    refine (tried_any l f G (some ⟨b, off, none⟩) n c (grS ls i0 id pl ls.length).2.2 Aq ls.length cq W ((h.below hw).more hw.size) hros hnone).mono fun e w' hh => ?_
    obtain ⟨⟨er, hT, rfl⟩, hb'⟩ := hh
    by_cases h0 : er = 0
    · exact ⟨Aq, ls.length, ls.length, er, by rw [if_pos h0], .inr ⟨hln, er, by rw [hgo]; exact hT, ⟨_, _, _, rfl, .inl ⟨h0, by rw [hgo]; exact ((hros.recap (Nat.le_refl _)).below hb').more hb'.size⟩⟩, hw.trans (hb'.mono hw.size)⟩⟩
    · exact ⟨none, 0, 0, er, by rw [if_neg h0], .inr ⟨hln, er, by rw [hgo]; exact hT, ⟨_, _, _, rfl, .inr ⟨h0, rfl, rfl, rfl⟩⟩, hw.trans (hb'.mono hw.size)⟩⟩
  have HNL : Hid (nL = ls.length) := hnL.1
  have hnL2 : nL ≤ 1048576 := hnL.2.2
  have hnL3 : nL ≤ cL := hnL.2.1
  have HL := Lib.hid hl
  have G2 := Lib.hid g2
  have Z0 := Lib.hid z0
  have hq0 : (0 : Int) ≤ (q : Int) := by omega
  have hq1 : (q : Int) < (n : Int) := by omega
  have hq' : (n : Int) - 1 = (q : Int) := by omega
  have p0 : (0 : Int) ≤ (p : Int) := by omega
  have p1 : (p : Int) < (n : Int) := by omega
  have hr0 : 0 ≤ i0 := hzi.1
  have hr1 : i0 ≤ 1000000 := hzi.2
  have hd0 : 0 ≤ id := hidb.1
  have hd1 : id ≤ 1000000 := hidb.2
  have hnlow : ¬ pl < 0 := by omega
  have hnhigh : ¬ (nkx : Int) < pl := by omega
  clear h hl hx hxi hp1 hpos hfew hq hz hzl hzi hi0 g2 z0 hKx hnk hlt8 hnL G hid hidb
  go_enter Tryz.func7, Tryz.ntmps7
  go_wp2_with fail
  refine HC.out.mono ?_
  rintro e w1 ⟨rfl, hb1⟩
  have HB1 := Lib.hid hb1
  clear hb1
  go_wp2_with fail
  refine (HIX.out w1 HB1.out).mono ?_
  rintro e w2 ⟨rfl, hb2⟩
  have HB2 : Hid (Below w.heap.size w w2) := HB1.out.trans (hb2.mono HB1.out.size)
  have k2 : w2.cell? ⟨b, off + p * 5 + 2, none⟩ = _ := (HB2.out.cell (p := ⟨b, off + p * 5 + 2, none⟩) (by show b < _; omega)).trans G2.out
  clear hb2
  go_wp2_with fail
  go_loopg [11, 42] nL (fun gg s11 s42 wr => ∃ k : Nat, k + gg = nL ∧ s42 = .int .i64 (k : Int) ∧ s11 = .int .i64 (lastD ls k) ∧ Hid (LnTo ls k) ∧ Hid (Below w.heap.size w wr))
  case atStart => exact ⟨0, by omega, rfl, rfl, fun k x hk _ => absurd hk (Nat.not_lt_zero _), HB2⟩
  case round =>
    obtain ⟨k, hkg, rfl, rfl, hln, hb⟩ := hrel
    obtain ⟨W1, rfl⟩ : ∃ W1, W1 = wr := ⟨_, rfl⟩
    have hbz : w.heap.size ≤ W1.heap.size := hb.out.size
    by_cases hk : k < nL
    · obtain ⟨y, hy⟩ : ∃ y, ls[k]? = some y := ⟨_, List.getElem?_eq_getElem (by have := HNL.out; omega)⟩
      obtain ⟨lb, lo, rfl, hlb, u0, u1, hyi, _⟩ := (HL.out.below hb.out).at_ hy
      have HLD : Hid (lastD ls (k + 1) = y.1) := lastD_succ hy
      have hld := lastD_le (ls := ls) (k := k) (by have := HNL.out; omega) hln.out
      have HY := Lib.hid hy
      obtain ⟨La, hLa⟩ : ∃ La, La = lastD ls k := ⟨_, rfl⟩
      rw [← hLa] at hld ⊢
      obtain ⟨Dy, hDy⟩ : ∃ Dy, Dy = y.1 := ⟨_, rfl⟩
      obtain ⟨ty, hty⟩ : ∃ ty, ty = y.2 := ⟨_, rfl⟩
      rw [← hDy] at u0
      rw [← hty] at u1
      have HLA := Lib.hid hLa
      have HDY := Lib.hid hDy
      have l0 : -1 ≤ La := hld.1
      have l1 : La ≤ 1048576 := by omega
      have ww1 : IntKind.i64.wrap (La + 1) = La + 1 := IntWalk.i64_in _ (by omega)
      have k0 : (0 : Int) ≤ (k : Int) := by omega
      have k1 : (k : Int) < (nL : Int) := by omega
      obtain ⟨wa, hwa⟩ : ∃ wa, wa = W1.alloc (.cells #[.int .i64 Dy, .string ty] 59) := ⟨_, rfl⟩
      have HBA : Hid (Below w.heap.size w wa) := by rw [hwa]; exact hb.out.alloc hbz _
      have PA : Hid (Blk wa W1.heap.size 59 #[.int .i64 Dy, .string ty]) := by rw [hwa]; exact Blk.new _ _ _
      have HWA := Lib.hid hwa
      clear hy hyi hLa hDy hty hwa hld
      go_upto_region 10 with fail
      rw [← HWA.out]
      clear u0 u1
      have e0 := fun j => PA.out.cell j
      by_cases h1 : Dy < 0
      · have HR : Hid (∀ W, Below w.heap.size w W → GrR l id pl ls w (.returned (.tuple #[.slice none 0 0, .int .i64 1])) W) := fun W hW => .inl ⟨fun hall => by
          have := (hall k y (by have := HNL.out; omega) HY.out).1
          rw [← HDY.out] at this
          omega, ⟨_, _, _, rfl, .inr ⟨by decide, rfl, rfl, rfl⟩⟩, hW⟩
        go_wp2_with fail
        go_ret2
        exact HR.out _ HBA.out
      · by_cases h2 : La + 1 < Dy
        · have HR : Hid (∀ W, Below w.heap.size w W → GrR l id pl ls w (.returned (.tuple #[.slice none 0 0, .int .i64 1])) W) := fun W hW => .inl ⟨fun hall => by
            have := (hall k y (by have := HNL.out; omega) HY.out).2
            rw [← HDY.out, ← HLA.out] at this
            omega, ⟨_, _, _, rfl, .inr ⟨by decide, rfl, rfl, rfl⟩⟩, hW⟩
          go_wp2_with fail
          go_ret2
          exact HR.out _ HBA.out
        · have HLN : Hid (LnTo ls (k + 1)) := fun j x hj hx => by
            rcases Nat.lt_or_ge j k with hjk | hjk
            · exact hln.out j x hjk hx
            · obtain rfl : j = k := by omega
              rw [HY.out] at hx
              obtain rfl := Option.some.inj hx
              rw [← HDY.out, ← HLA.out]
              omega
          have HL2 : Hid (lastD ls (k + 1) = Dy) := HLD.out.trans HDY.out.symm
          go_wp2_with fail
          go_roundg (nL - (k + 1))
          case measure => omega
          case rel => exact ⟨k + 1, by omega, by go_num, by rw [HL2.out], HLN, HBA⟩
    · obtain rfl : k = nL := by omega
      have hlnL : LnTo ls ls.length := by have := hln.out; rw [HNL.out] at this; exact this
      have HLNF := Lib.hid hlnL
      obtain ⟨wK, hwK⟩ : ∃ wK, wK = (W1.alloc (.cells #[.int .i64 id] 3)).alloc (.cells #[.int .i64 pl] 3) := ⟨_, rfl⟩
      have HBK : Hid (Below W1.heap.size W1 wK) := by rw [hwK]; exact ((Below.refl _ _).alloc (Nat.le_refl _) _).alloc (by simp) _
      have HO15 : Hid (wK.ownsRow W1.heap.size 3 1 (.slice (some ⟨W1.heap.size, 0, none⟩) 1 1) 1 ((grS ls i0 id pl 0).1.map (.int .i64))) := ⟨rfl, .inr ⟨W1.heap.size, 1, #[.int .i64 id], rfl, Nat.le_refl _, by rw [hwK]; exact (Blk.new _ _ _).alloc _, Nat.le_refl _, by unfold maxLen; omega, rfl, rfl⟩⟩
      have HO16 : Hid (wK.ownsRow W1.heap.size 3 1 (.slice (some ⟨W1.heap.size + 1, 0, none⟩) 1 1) 1 ((grS ls i0 id pl 0).2.1.map (.int .i64))) := ⟨rfl, .inr ⟨W1.heap.size + 1, 1, #[.int .i64 pl], rfl, Nat.le_succ _, by rw [hwK]; exact Blk.newS _ _ _ _, Nat.le_refl _, by unfold maxLen; omega, rfl, rfl⟩⟩
      have HWK := Lib.hid hwK
      clear hwK hlnL
      go_upto_region 17 with fail
      rw [← HWK.out]
      obtain ⟨E0, hE0⟩ : ∃ E0, E0 = W1.heap.size := ⟨_, rfl⟩
      rw [← hE0] at HBK HO15 HO16 ⊢
      have hbE : w.heap.size ≤ E0 := by omega
      have HEW := Lib.hid hE0
      clear hE0
      go_wp2_with fail
      go_loopg [14, 15, 16, 65] k (fun gg s14 s15 s16 s65 wr => ∃ (j m : Nat) (v : Value) (g15 c15 g16 c16 : Nat), j + gg = k ∧ v = s14 ∧ s15 = .slice (some ⟨g15, 0, none⟩) m c15 ∧ s16 = .slice (some ⟨g16, 0, none⟩) m c16 ∧ s65 = .int .i64 (j : Int) ∧ g15 ≠ g16 ∧ Hid ((m : Int) = lastD ls j + 2) ∧ Hid (wr.ownsRow E0 67 13 v j (rowsO (grS ls i0 id pl j).2.2)) ∧ Hid (wr.ownsRow E0 3 1 (.slice (some ⟨g15, 0, none⟩) m c15) m ((grS ls i0 id pl j).1.map (.int .i64))) ∧ Hid (wr.ownsRow E0 3 1 (.slice (some ⟨g16, 0, none⟩) m c16) m ((grS ls i0 id pl j).2.1.map (.int .i64))) ∧ Hid (Below E0 W1 wr))
      case atStart => exact ⟨0, 1, _, _, _, _, _, by omega, rfl, rfl, rfl, rfl, by omega, rfl, World.ownsRow_nil _ _ _ _, HO15, HO16, HBK⟩
      case round =>
        obtain ⟨j, m, v, g15, c15, g16, c16, hjg, rfl, rfl, rfl, rfl, hne, hm, hown, ho15, ho16, hb2⟩ := hrel
        obtain ⟨W2, rfl⟩ : ∃ W2, W2 = wr := ⟨_, rfl⟩
        have hz2 : E0 ≤ W2.heap.size := by have := hb2.out.size; have := HEW.out; omega
        have HBW2 : Hid (Below w.heap.size w W2) := hb.out.trans (hb2.out.mono hbE)
        by_cases hj : j < k
        · obtain ⟨y, hy⟩ : ∃ y, ls[j]? = some y := ⟨_, List.getElem?_eq_getElem (by have := HNL.out; omega)⟩
          obtain ⟨lb, lo, rfl, hlb, u0, u1, _, hts⟩ := (HL.out.below HBW2.out).at_ hy
          have hlj := HLNF.out j y (by have := HNL.out; omega) hy
          obtain ⟨D, hD⟩ : ∃ D : Nat, y.1 = (D : Int) := ⟨y.1.toNat, by omega⟩
          obtain ⟨t, ht⟩ : ∃ t, t = y.2 := ⟨_, rfl⟩
          have hlnj : LnTo ls j := fun i z hi hz => HLNF.out i z (by have := HNL.out; omega) hz
          have hgk := HGK.out j (by have := HNL.out; omega) hlnj
          have hld := lastD_le (ls := ls) (k := j) (by have := HNL.out; omega) hlnj
          have hst := grS_step (i0 := i0) (pr := id) (pl := pl) hy hD
          have hls := lastD_succ hy
          have hmm := hm.out
          have hDm : D + 1 ≤ m := by omega
          have hm6 : m ≤ 1048578 := by omega
          have hl1 : (grS ls i0 id pl j).1.length = m := by have := hgk.l1; omega
          have hl2 : (grS ls i0 id pl j).2.1.length = m := by have := hgk.l2; omega
          have q15 := own_cell1 ho15.out (i := D) (by omega)
          have q16 := own_cell1 ho16.out (i := D) (by omega)
          have hkb := hgk.b2 ((grS ls i0 id pl j).2.1.getD D 0) (by rw [List.getD_eq_getElem?_getD, List.getElem?_eq_getElem (by omega)]; exact List.getElem_mem _)
          have hwb := hgk.b1 ((grS ls i0 id pl j).1.getD D 0) (by rw [List.getD_eq_getElem?_getD, List.getElem?_eq_getElem (by omega)]; exact List.getElem_mem _)
          rw [hD] at u0
          rw [← ht] at u1 hts hst
          obtain ⟨nid, hnid⟩ : ∃ nid, nid = i0 + 1 + (j : Int) := ⟨_, rfl⟩
          obtain ⟨wv, hwv⟩ : ∃ wv, wv = (grS ls i0 id pl j).1.getD D 0 := ⟨_, rfl⟩
          obtain ⟨kv, hkv⟩ : ∃ kv, kv = (grS ls i0 id pl j).2.1.getD D 0 := ⟨_, rfl⟩
          rw [← hwv] at q15 hst hwb
          rw [← hkv] at q16 hst hkb
          rw [← hnid] at hst
          have hm2 : (((D + 1 + 1 : Nat)) : Int) = lastD ls (j + 1) + 2 := by rw [hls, hD]; omega
          have s1 : (grS ls i0 id pl (j + 1)).1 = (grS ls i0 id pl j).1.take (D + 1) ++ [nid] := by rw [hst]
          have s2 : (grS ls i0 id pl (j + 1)).2.1 = ((grS ls i0 id pl j).2.1.take (D + 1)).set D (kv + 1) ++ [0] := by rw [hst]
          have s3 : (grS ls i0 id pl (j + 1)).2.2 = (grS ls i0 id pl j).2.2 ++ [inO nid wv kv t] := by rw [hst]
          have S1 := Lib.hid s1
          have S2 := Lib.hid s2
          have S3 := Lib.hid s3
          have HM2 := Lib.hid hm2
          have o15 := own_take ho15.out hDm
          have o16 := own_take ho16.out hDm
          rw [Nat.mul_one, ← List.map_take] at o15 o16
          have hc15 : D + 1 ≤ c15 := by
            rcases o15.2 with ⟨e, _⟩ | ⟨_, _, _, e, _, _, h5, _⟩
            · cases e
            · injection e with _ _ e3; omega
          have hc16 : D + 1 ≤ c16 := by
            rcases o16.2 with ⟨e, _⟩ | ⟨_, _, _, e, _, _, h5, _⟩
            · cases e
            · injection e with _ _ e3; omega
          have hgl15 := own_block_lt ho15.out g15 rfl
          have hgl16 := own_block_lt ho16.out g16 rfl
          obtain ⟨wa, hwa⟩ : ∃ wa, wa = W2.alloc (.cells #[.int .i64 (D : Int), .string t] 59) := ⟨_, rfl⟩
          have hal : Below W2.heap.size W2 wa := by rw [hwa]; exact (Below.refl _ _).alloc (Nat.le_refl _) _
          have PA : Hid (Blk wa W2.heap.size 59 #[.int .i64 (D : Int), .string t]) := by rw [hwa]; exact Blk.new _ _ _
          have hza : W2.heap.size < wa.heap.size := by rw [hwa]; simp
          have HOWa := Lib.hid (own_below hown.out hal)
          have H15a := Lib.hid (own_below o15 hal)
          have H16a := Lib.hid (own_below o16 hal)
          have HBa : Hid (Below E0 W1 wa) := hb2.out.trans (hal.mono hz2)
          have C15 : Hid (wa.cell? ⟨g15, D, none⟩ = some (.int .i64 wv)) := (hal.cell (p := ⟨g15, D, none⟩) hgl15.2).trans q15.1
          have C16 : Hid (wa.cell? ⟨g16, D, none⟩ = some (.int .i64 kv)) := (hal.cell (p := ⟨g16, D, none⟩) hgl16.2).trans q16.1
          have hx15 : g15 < W2.heap.size := hgl15.2
          have hx16 : g16 < W2.heap.size := hgl16.2
          have hy15 : E0 ≤ g15 := hgl15.1
          have hy16 : E0 ≤ g16 := hgl16.1
          have hj6 : j ≤ 1048576 := by omega
          have hD6 : D ≤ 1048577 := by omega
          have hn0 : 0 ≤ nid := by omega
          have hn1 : nid ≤ 3000000 := by omega
          have hkv0 : 0 ≤ kv := by omega
          have hkv1 : kv ≤ 2000000 := by omega
          have hw0 : 0 ≤ wv := by omega
          have hw1' : wv ≤ 3000000 := by omega
          have ts : t.size ≤ 1048576 := hts
          have j0 : (0 : Int) ≤ (j : Int) := by omega
          have j1 : (j : Int) < (k : Int) := by omega
          have d0 : (0 : Int) ≤ (D : Int) := by omega
          have d1 : (D : Int) < (D : Int) + 1 := by omega
          have d2 : (0 : Int) ≤ (D : Int) + 1 := by omega
          have d3 : (D : Int) + 1 ≤ (c15 : Int) := by omega
          have d4 : (D : Int) + 1 ≤ (c16 : Int) := by omega
          have wD : IntKind.i64.wrap ((D : Int) + 1) = (D : Int) + 1 := IntWalk.i64_in _ (by omega)
          have wK1 : IntKind.i64.wrap (kv + 1) = kv + 1 := IntWalk.i64_in _ (by omega)
          have HWA := Lib.hid hwa
          have HNI := Lib.hid hnid
          clear hy hts hlj hD ht hlnj hgk hld hst hls hmm hl1 hl2 q15 q16 hkb hwb hwv hkv hm2 s1 s2 s3 o15 o16 hgl15 hgl16 hwa hal hm
          have cz : wa.cell? ⟨b, off + q * 5, none⟩ = some (.int .i64 i0) := ((HBW2.out.trans (show Below w.heap.size W2 wa from by rw [HWA.out]; exact (Below.refl _ _).alloc (by have := HBW2.out.size; omega) _)).cell (p := ⟨b, off + q * 5, none⟩) (by show b < _; omega)).trans Z0.out
          have wi1 : IntKind.i64.wrap (i0 + 1) = i0 + 1 := IntWalk.i64_in _ (by omega)
          have wi2 : IntKind.i64.wrap (i0 + 1 + (j : Int)) = nid := by rw [IntWalk.i64_in _ (by omega)]; exact hnid.symm
          clear hnid
          go_upto_region 20 with fail
          rw [← HWA.out]
          clear u0 u1
          have e0 := fun i => PA.out.cell i
          go_upto_region 21 with fail
          go_quiet (fail)
          obtain ⟨wb, hwb⟩ : ∃ wb, wb = wa.drewN nq := ⟨_, rfl⟩
          have HDb : Hid (Below wa.heap.size wa wb) := by rw [hwb]; exact bdrew (Below.refl _ _) nq
          rw [← hwb]
          clear hwb e0
          have PB := Lib.hid (PA.out.below HDb.out PA.out.lt)
          have HOWb := Lib.hid (own_below HOWa.out HDb.out)
          have H15b := Lib.hid (own_below H15a.out HDb.out)
          have H16b := Lib.hid (own_below H16a.out HDb.out)
          have HBb : Hid (Below E0 W1 wb) := HBa.out.trans (HDb.out.mono (by omega))
          have hzb : wa.heap.size ≤ wb.heap.size := HDb.out.size
          have C15b : Hid (wb.cell? ⟨g15, D, none⟩ = some (.int .i64 wv)) := (HDb.out.cell (p := ⟨g15, D, none⟩) (by show g15 < _; omega)).trans C15.out
          have C16b : Hid (wb.cell? ⟨g16, D, none⟩ = some (.int .i64 kv)) := (HDb.out.cell (p := ⟨g16, D, none⟩) (by show g16 < _; omega)).trans C16.out
          obtain ⟨gx, hgx⟩ : ∃ gx, gx = W2.heap.size := ⟨_, rfl⟩
          rw [← hgx] at PB ⊢
          have HGX := Lib.hid hgx
          clear hgx
          have HS : Hid (∀ W : World, (W.cell? ⟨gx, 0, none⟩ = wb.cell? ⟨gx, 0, none⟩ ∧ W.cell? ⟨gx, 1, none⟩ = wb.cell? ⟨gx, 1, none⟩ ∧ W.cell? ⟨g15, D, none⟩ = wb.cell? ⟨g15, D, none⟩ ∧ W.cell? ⟨g16, D, none⟩ = wb.cell? ⟨g16, D, none⟩) → W.cell? ⟨gx, 0, none⟩ = some (.int .i64 (D : Int)) ∧ W.cell? ⟨gx, 1, none⟩ = some (.string t) ∧ W.cell? ⟨g15, D, none⟩ = some (.int .i64 wv) ∧ W.cell? ⟨g16, D, none⟩ = some (.int .i64 kv)) := fun W hW => ⟨hW.1.trans (PB.out.cell 0), hW.2.1.trans (PB.out.cell 1), hW.2.2.1.trans C15b.out, hW.2.2.2.trans C16b.out⟩
          have hlx : gx < wb.heap.size := PB.out.lt
          have T0 := HS.out wb.drew ⟨rfl, rfl, rfl, rfl⟩
          have T1 := HS.out (wb.alloc (.cells #[.int .i64 1, .int .i64 nid, .int .i64 wv, .int .i64 kv, .int .i64 0, .int .i64 0, .string t, .string ⟨#[]⟩, .int .i64 0, .int .i64 0, .int .i64 0, .string ⟨#[]⟩, .slice none 0 0] 67)).drew ⟨World.cell?_alloc_lt _ _ _ (by show gx < _; omega), World.cell?_alloc_lt _ _ _ (by show gx < _; omega), World.cell?_alloc_lt _ _ _ (by show g15 < _; omega), World.cell?_alloc_lt _ _ _ (by show g16 < _; omega)⟩
          have HT0 := Lib.hid T0
          have HT1 := Lib.hid T1
          clear T0 T1
          have HO7 := Lib.hid ((HOWb.out.alloc (.cells #[.int .i64 1, .int .i64 nid, .int .i64 wv, .int .i64 kv, .int .i64 0, .int .i64 0, .string t, .string ⟨#[]⟩, .int .i64 0, .int .i64 0, .int .i64 0, .string ⟨#[]⟩, .slice none 0 0] 67)).drew)
          have HRD : Hid (Reads ((wb.alloc (.cells #[.int .i64 1, .int .i64 nid, .int .i64 wv, .int .i64 kv, .int .i64 0, .int .i64 0, .string t, .string ⟨#[]⟩, .int .i64 0, .int .i64 0, .int .i64 0, .string ⟨#[]⟩, .slice none 0 0] 67)).drew) (wb.heap.size + 1) 13 (some ⟨wb.heap.size, 0, none⟩) 1 [.int .i64 1, .int .i64 nid, .int .i64 wv, .int .i64 kv, .int .i64 0, .int .i64 0, .string t, .string ⟨#[]⟩, .int .i64 0, .int .i64 0, .int .i64 0, .string ⟨#[]⟩, .slice none 0 0]) := ⟨rfl, fun _ => ⟨_, rfl, by simp, row_new wb _ [.int .i64 1, .int .i64 nid, .int .i64 wv, .int .i64 kv, .int .i64 0, .int .i64 0, .string t, .string ⟨#[]⟩, .int .i64 0, .int .i64 0, .int .i64 0, .string ⟨#[]⟩, .slice none 0 0] _ rfl⟩⟩
          have hblk := Lib.hid (own_block_lt HOWb.out)
          have hnx15 : v.ownBlock ≠ some g15 := fun e => by
            rcases H15b.out.2 with ⟨e2, _⟩ | ⟨g', _, cur, e2, _, hc, _⟩
            · cases e2
            · injection e2 with e3
              have e3 : g15 = g' := by injection e3 with e3; injection e3
              subst e3
              exact own_blk_ne HOWb.out (show Blk wb g15 3 cur from hc) (by decide) e
          have hnx16 : v.ownBlock ≠ some g16 := fun e => by
            rcases H16b.out.2 with ⟨e2, _⟩ | ⟨g', _, cur, e2, _, hc, _⟩
            · cases e2
            · injection e2 with e3
              have e3 : g16 = g' := by injection e3 with e3; injection e3
              subst e3
              exact own_blk_ne HOWb.out (show Blk wb g16 3 cur from hc) (by decide) e
          have hnxx : v.ownBlock ≠ some gx := own_blk_ne HOWb.out PB.out (by decide)
          have HX15 := Lib.hid hnx15
          have HX16 := Lib.hid hnx16
          have HXX := Lib.hid hnxx
          clear hnx15 hnx16 hnxx
          go_upto_region 22 with fail
          go_region_held3 (fun W => W.cell? ⟨gx, 0, none⟩ = some (.int .i64 (D : Int)) ∧ W.cell? ⟨gx, 1, none⟩ = some (.string t) ∧ W.cell? ⟨g15, D, none⟩ = some (.int .i64 wv) ∧ W.cell? ⟨g16, D, none⟩ = some (.int .i64 kv))
            (first | with_reducible exact HT0.out | with_reducible exact HT1.out | with_reducible exact HT7.out)
            (first
              | (refine step_append_any _ (by rfl) _ _ _ (by rfl) E0 67 m0 opZ 13 144 Tryz.underlying30 mhi mz0 mz1 mz2 rfl (by decide) v j _ (by rfl) HO7.out (wb.heap.size + 1) (some ⟨wb.heap.size, 0, none⟩) 1 1 [.int .i64 1, .int .i64 nid, .int .i64 wv, .int .i64 kv, .int .i64 0, .int .i64 0, .string t, .string ⟨#[]⟩, .int .i64 0, .int .i64 0, .int .i64 0, .string ⟨#[]⟩, .slice none 0 0] (by rfl) HRD.out (opV_one ((inO nid wv kv t : Opn), .slice none 0 0) ⟨_, _, _, rfl⟩) (by unfold maxLen; omega) (by omega) (by simp; omega) ?_; intro v7 w7 hown7 hg7 hat7; have HT7 := Lib.hid (HS.out w7 ⟨(World.cell?_of_block (hg7.block gx (by simp; omega) (fun e => HXX.out e.symm))).trans (World.cell?_alloc_lt _ _ _ (by show gx < _; omega)), (World.cell?_of_block (hg7.block gx (by simp; omega) (fun e => HXX.out e.symm))).trans (World.cell?_alloc_lt _ _ _ (by show gx < _; omega)), (World.cell?_of_block (hg7.block g15 (by simp; omega) (fun e => HX15.out e.symm))).trans (World.cell?_alloc_lt _ _ _ (by show g15 < _; omega)), (World.cell?_of_block (hg7.block g16 (by simp; omega) (fun e => HX16.out e.symm))).trans (World.cell?_alloc_lt _ _ _ (by show g16 < _; omega))⟩); have HOW7 := Lib.hid hown7; have HG7 := Lib.hid hg7; have HA7 := Lib.hid hat7; clear hown7 hg7 hat7))
          all_goals
            have H15c := Lib.hid (own_grown (H15b.out.alloc (.cells #[.int .i64 1, .int .i64 nid, .int .i64 wv, .int .i64 kv, .int .i64 0, .int .i64 0, .string t, .string ⟨#[]⟩, .int .i64 0, .int .i64 0, .int .i64 0, .string ⟨#[]⟩, .slice none 0 0] 67)).drew HG7.out (fun g hg e => by
              have e2 : g15 = g := Option.some.inj hg
              subst e2
              exact HX15.out e))
            have H16c := Lib.hid (own_grown (H16b.out.alloc (.cells #[.int .i64 1, .int .i64 nid, .int .i64 wv, .int .i64 kv, .int .i64 0, .int .i64 0, .string t, .string ⟨#[]⟩, .int .i64 0, .int .i64 0, .int .i64 0, .string ⟨#[]⟩, .slice none 0 0] 67)).drew HG7.out (fun g hg e => by
              have e2 : g16 = g := Option.some.inj hg
              subst e2
              exact HX16.out e))
            have HZ7 : Hid (wb.heap.size + 1 ≤ w7.heap.size) := by
              show _ ≤ _
              have := HG7.out.size
              simpa using this
            have HBc : Hid (Below E0 W1 w7) := (HBb.out.alloc (by omega) _).drew.grown HG7.out (by simp; omega) (fun g h => (hblk.out g h).1)
            have hv15 : v7.ownBlock ≠ some g15 := fun e => by
              rcases HA7.out with e2 | e2
              · exact HX15.out (e2.symm.trans e)
              · rw [e2] at e
                have e := Option.some.inj e
                simp at e
                omega
            have hv16 : v7.ownBlock ≠ some g16 := fun e => by
              rcases HA7.out with e2 | e2
              · exact HX16.out (e2.symm.trans e)
              · rw [e2] at e
                have e := Option.some.inj e
                simp at e
                omega
            have HV15 := Lib.hid hv15
            have HV16 := Lib.hid hv16
            have hkl : ((grS ls i0 id pl j).2.1.take (D + 1)).length = D + 1 := by
              have := H16c.out.1
              rw [List.length_map] at this
              omega
            have q16 := own_cell1 H16c.out (i := D) (by omega)
            have f16 := q16.2
            obtain ⟨w8, hw8⟩ : ∃ w8, w8 = w7.setCell ⟨g16, D, none⟩ (.int .i64 (kv + 1)) := ⟨_, rfl⟩
            have H16d : Hid (w8.ownsRow E0 3 1 (.slice (some ⟨g16, 0, none⟩) (D + 1) c16) (D + 1) ((((grS ls i0 id pl j).2.1.take (D + 1)).set D (kv + 1)).map (.int .i64))) := by
              show World.ownsRow _ _ _ _ _ _ _
              rw [hw8, List.map_set]
              exact own_set1 H16c.out (Nat.lt_succ_self _) _
            have H15d : Hid (w8.ownsRow E0 3 1 (.slice (some ⟨g15, 0, none⟩) (D + 1) c15) (D + 1) (((grS ls i0 id pl j).1.take (D + 1)).map (.int .i64))) := by
              show World.ownsRow _ _ _ _ _ _ _
              rw [hw8]
              exact own_set_far H15c.out fun e => hne (Option.some.inj e)
            have HOWd : Hid (w8.ownsRow E0 67 13 v7 (j + 1) (rowsO (grS ls i0 id pl (j + 1)).2.2)) := by
              show World.ownsRow _ _ _ _ _ _ _
              rw [hw8, S3.out, rowsO_snoc]
              exact own_set_far HOW7.out hv16
            have HBd : Hid (Below E0 W1 w8) := by rw [hw8]; exact HBc.out.setCell (p := ⟨g16, D, none⟩) hy16 _
            have hz8 : w8.heap.size = w7.heap.size := by rw [hw8]; simp [World.setCell]
            have HZ8 : Hid (wb.heap.size + 1 ≤ w8.heap.size) := by show _ ≤ _; rw [hz8]; exact HZ7.out
            have HW8 := Lib.hid hw8
            have PC : Hid (w8.cell? ⟨gx, 0, none⟩ = some (.int .i64 (D : Int))) := by
              have hxx : gx ≠ g16 := by have := HGX.out; omega
              show _ = _
              rw [hw8]
              exact (World.cell?_setCell_other _ _ _ _ (by intro e; injection e with e1; exact hxx e1.symm)).trans HT7.out.1
            obtain ⟨t0, t1, t2, t3⟩ := HT7.out
            clear hv15 hv16 q16 hw8 hz8 hkl
            go_upto_region 24 with fail
            rw [← HW8.out]
            clear t0 t1 t2 t3 f16
            have hz8b : E0 ≤ w8.heap.size := by have := HZ8.out; omega
            have HN1 := Lib.hid (H15d.out.alloc (.cells #[.int .i64 nid] 3))
            have HRD1 : Hid (Reads (w8.alloc (.cells #[.int .i64 nid] 3)) (w8.heap.size + 1) 1 (some ⟨w8.heap.size, 0, none⟩) 1 [.int .i64 nid]) := ⟨rfl, fun _ => ⟨_, rfl, by simp, row_new w8 _ [.int .i64 nid] _ rfl⟩⟩
            have hone1 : ∀ u ∈ [Value.int .i64 nid], u.oneCell' = true := fun u hu => by cases List.mem_singleton.1 hu; rfl
            have hone2 : ∀ u ∈ [Value.int .i64 0], u.oneCell' = true := fun u hu => by cases List.mem_singleton.1 hu; rfl
            go_wp2_with (at_builtin; first
              | (refine wpList_append_any _ rfl _ _ 43 rfl E0 3 i1 (.int .i64 0) 1 8 Tryz.underlying43 ihi iz0 iz1 iz2 rfl (by decide) (.slice (some ⟨g15, 0, none⟩) (D + 1) c15) (D + 1) _ rfl HN1.out (w8.heap.size + 1) (some ⟨w8.heap.size, 0, none⟩) 1 1 [.int .i64 nid] rfl HRD1.out hone1 (by unfold maxLen; omega) (by omega) (by simp; omega) ?_; intro v9 w9 hown9 hg9 hat9; obtain ⟨g9, c9, rfl⟩ := own_succ hown9; have HO9 := Lib.hid hown9; have HG9 := Lib.hid hg9; have HA9 := Lib.hid hat9; have HLT9 := Lib.hid (own_block_lt hown9 g9 rfl).2; have HZ9 : Hid (w8.heap.size + 1 ≤ w9.heap.size) := (by (show _ ≤ _); have := hg9.size; simpa using this); have H16e := Lib.hid (own_grown (H16d.out.alloc (.cells #[.int .i64 nid] 3)) hg9 (fun g hg e => by have e2 : g16 = g := Option.some.inj hg; subst e2; exact hne (Option.some.inj e))); have HOWe := Lib.hid (own_grown (HOWd.out.alloc (.cells #[.int .i64 nid] 3)) hg9 (fun g hg e => by have e2 : g15 = g := Option.some.inj e; subst e2; exact HV15.out hg)); have HN2 := Lib.hid (H16e.out.alloc (.cells #[.int .i64 0] 3)); have HRD2 : Hid (Reads (w9.alloc (.cells #[.int .i64 0] 3)) (w9.heap.size + 1) 1 (some ⟨w9.heap.size, 0, none⟩) 1 [.int .i64 0]) := ⟨rfl, fun _ => ⟨_, rfl, by simp, row_new w9 _ [.int .i64 0] _ rfl⟩⟩; have hz9 : E0 ≤ w9.heap.size := (by have := HZ9.out; omega); clear hown9 hg9 hat9)
              | (refine wpList_append_any _ rfl _ _ 43 rfl E0 3 i1 (.int .i64 0) 1 8 Tryz.underlying43 ihi iz0 iz1 iz2 rfl (by decide) (.slice (some ⟨g16, 0, none⟩) (D + 1) c16) (D + 1) _ rfl HN2.out (w9.heap.size + 1) (some ⟨w9.heap.size, 0, none⟩) 1 1 [.int .i64 0] rfl HRD2.out hone2 (by unfold maxLen; omega) (by omega) (by simp; omega) ?_; intro v10 w10 hown10 hg10 hat10; obtain ⟨g10, c10, rfl⟩ := own_succ hown10; have HO10 := Lib.hid hown10; have HG10 := Lib.hid hg10; have HA10 := Lib.hid hat10; clear hown10 hg10 hat10))
            have h9 : g9 = g15 ∨ g9 = w8.heap.size + 1 := by
              rcases HA9.out with e | e
              · exact .inl (Option.some.inj e)
              · have e := Option.some.inj e
                simp at e
                exact .inr e
            have h10 : g10 = g16 ∨ g10 = w9.heap.size + 1 := by
              rcases HA10.out with e | e
              · exact .inl (Option.some.inj e)
              · have e := Option.some.inj e
                simp at e
                exact .inr e
            have hl9 := HLT9.out
            have hn96 : g9 ≠ g16 := by
              rcases h9 with e | e
              · rw [e]; exact hne
              · have := HZ8.out; omega
            have hn910 : g9 ≠ g10 := by
              rcases h10 with e | e
              · rw [e]; exact hn96
              · omega
            have HN910 := Lib.hid hn910
            have H9f : Hid (w10.ownsRow E0 3 1 (.slice (some ⟨g9, 0, none⟩) (D + 1 + 1) c9) (D + 1 + 1) ((grS ls i0 id pl (j + 1)).1.map (.int .i64))) := by
              show World.ownsRow _ _ _ _ _ _ _
              rw [S1.out, List.map_append]
              exact own_grown (HO9.out.alloc (.cells #[.int .i64 0] 3)) HG10.out (fun g hg e => by
                have e2 : g9 = g := Option.some.inj hg
                have e3 : g16 = g := Option.some.inj e
                omega)
            have H10f : Hid (w10.ownsRow E0 3 1 (.slice (some ⟨g10, 0, none⟩) (D + 1 + 1) c10) (D + 1 + 1) ((grS ls i0 id pl (j + 1)).2.1.map (.int .i64))) := by
              show World.ownsRow _ _ _ _ _ _ _
              rw [S2.out, List.map_append]
              exact HO10.out
            have HOWf : Hid (w10.ownsRow E0 67 13 v7 (j + 1) (rowsO (grS ls i0 id pl (j + 1)).2.2)) := own_grown (HOWe.out.alloc (.cells #[.int .i64 0] 3)) HG10.out (fun g hg e => by
              have e2 : g16 = g := Option.some.inj e
              subst e2
              exact HV16.out hg)
            have HBf : Hid (Below E0 W1 w10) := ((((HBd.out.alloc hz8b _).grown HG9.out (by simp; omega) (fun g h => by have e : g15 = g := Option.some.inj h; omega))).alloc hz9 _).grown HG10.out (by simp; omega) (fun g h => by have e : g16 = g := Option.some.inj h; omega)
            clear h9 h10 hl9 hn96 hn910
            go_wp2_with fail
            go_roundg (k - (j + 1))
            case measure => omega
            case rel => exact ⟨j + 1, D + 1 + 1, v7, g9, c9, g10, c10, by omega, rfl, rfl, rfl, by go_num, HN910.out, HM2.out, HOWf, H9f, H10f, HBf⟩
        · obtain rfl : j = k := by omega
          have hgk := HGK.out ls.length (Nat.le_refl _) HLNF.out
          have hown2 := hown.out
          have hjl : j = ls.length := HNL.out
          rw [hjl] at hown2
          have h3 := hgk.l3
          obtain ⟨Aq, cq, e, hros, hlq, hnone⟩ := ros_own (os := (grS ls i0 id pl ls.length).2.2) (v := v) (by rw [h3]; exact hown2) (by rw [h3]; omega) hgk.ok
          rw [h3] at e hros hlq hnone
          have HTT := Lib.hid (HTR.out W2 Aq cq HLNF.out HBW2.out (hros.recap hlq) hnone)
          rw [← hjl] at HTT e
          subst e
          clear hgk hown2 hjl h3 hros hlq hnone
          go_wp2_with fail
          refine HTT.out.mono ?_
          rintro e w8 ⟨A8, n8, c8, er, rfl, hQ⟩
          have HQ := Lib.hid hQ
          clear hQ
          go_wp2_with fail
          go_ret2
          exact HQ.out
end Go.Proofs.YtmkicfjcgbfaaaaGreatDoor
