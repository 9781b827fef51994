/-
  DERIVED. The walks of Query.wanted and Snippet's closure: some answer comes back, memory stays. Conditions: sizes. By an AI agent.
-/
import Derived.Test.YtpkpnmfcjoheoaaSnWant
namespace Go.Proofs.Ytpkpnmfcjoheoaa
open Go.RowKit

set_option maxRecDepth 100000 in
set_option maxHeartbeats 4000000 in
theorem wanted_any (cs : List Clause) (v : Value) (word : ByteArray) (w : World) (B : Nat) (hr : RC w B v cs) (hB : B ≤ w.heap.size) (hnp : np cs ≤ 4294967280) (hlen : cs.length ≤ 4294967280)
    (hw : ∀ c ∈ cs, ∀ p ∈ c.parts, p.words.length ≤ 4294967280 ∧ ∀ x ∈ p.words, x.size ≤ 4294967280) (hword : word.size ≤ 4294967280) :
    Calls Try.prog 15 #[.agg #[v], .string word] w (SomeB w) := by
  obtain ⟨A, n, c, M, hM, rfl, hn, hrd, hin⟩ := hr
  have HR := Lib.hid hrd
  have HN := Lib.hid hn
  have HI := Lib.hid hin
  have HM := Lib.hid hM
  have HW := Lib.hid hw
  have hnl : n = cs.length := by rw [hn, ← hM, List.length_map]
  have hnb : n ≤ 4294967280 := by omega
  have HPL : Hid (∀ cl ∈ cs, cl.parts.length ≤ 4294967280) := by
    intro cl hc
    obtain ⟨k, hk, rfl⟩ := List.mem_iff_getElem.1 hc
    have h1 := np_take cs k _ (List.getElem?_eq_getElem hk)
    have h2 := np_le cs (k + 1)
    omega
  have hbW : Blk ((w.alloc (.cells #[.slice A n c] 24)).alloc (.cells #[.string word] 9)) (w.heap.size + 1) 9 #[.string word] := by
    have := Blk.new (w.alloc (.cells #[.slice A n c] 24)) 9 #[.string word]
    simpa using this
  have HBW := Lib.hid hbW
  clear hrd hn hin hM hw hnl hbW
  go_enter Try.func15, Try.ntmps15
  go_wp2_with fail
  go_loopg [13] n (fun gg s13 wr => ∃ k : Nat, k + gg = n ∧ s13 = .int .i64 (k : Int) ∧ Hid (Below w.heap.size w wr) ∧ Hid (wr.cell? ⟨w.heap.size + 1, 0, none⟩ = some (.string word)) ∧ w.heap.size + 1 < wr.heap.size)
  case atStart => exact ⟨0, by omega, rfl, ((Below.refl _ _).alloc (Nat.le_refl _) _).alloc (by simp) _, HBW.out.cell 0, HBW.out.lt⟩
  case round =>
    obtain ⟨k, hkg, rfl, hbel, hcw, hzw⟩ := hrel
    by_cases hk : k < n
    · obtain ⟨x, hx⟩ : ∃ x, M[k]? = some x := ⟨_, List.getElem?_eq_getElem (by have := HN.out; omega)⟩
      obtain ⟨b, off, rfl, hbb, hc⟩ := Reads.plain_at (by decide) clV_len HR.out HN.out hx
      have hbw : b < w.heap.size := by omega
      obtain ⟨cl, u⟩ := x
      have hcm : cl ∈ cs := by rw [← HM.out]; exact List.mem_map.2 ⟨_, List.mem_of_getElem? hx, rfl⟩
      obtain ⟨A', n', c', M', hM', rfl, hn', hrd', hin'⟩ := HI.out _ (List.mem_of_getElem? hx)
      have hnl' : n' = cl.parts.length := by rw [hn', ← hM', List.length_map]
      have hnb' : n' ≤ 4294967280 := by have := HPL.out cl hcm; omega
      have c0 : wr.cell? ⟨b, off + k * 2, none⟩ = some (.bool cl.neg) := (hbel.out.cell (p := ⟨b, off + k * 2, none⟩) hbw).trans (hc 0 _ rfl)
      have c1 : wr.cell? ⟨b, off + k * 2 + 1, none⟩ = some (.slice A' n' c') := (hbel.out.cell (p := ⟨b, off + k * 2 + 1, none⟩) hbw).trans (hc 1 _ rfl)
      have j0 : (0 : Int) ≤ (k : Int) := by omega
      have j1 : (k : Int) < (n : Int) := by omega
      have HRD := Lib.hid hrd'
      have HIN := Lib.hid hin'
      have HN' := Lib.hid hn'
      have HM' := Lib.hid hM'
      have HCM := Lib.hid hcm
      clear hx hc hcm hn' hM' hrd' hin' hnl'
      cases hneg : cl.neg
      · rw [hneg] at c0
        clear hneg
        go_wp2_with fail
        have hbC : Blk (wr.alloc (.cells #[.bool false, .slice A' n' c'] 58)) wr.heap.size 58 #[.bool false, .slice A' n' c'] := Blk.new _ _ _
        obtain ⟨W1, hW1⟩ : ∃ W1, W1 = wr.alloc (.cells #[.bool false, .slice A' n' c'] 58) := ⟨_, rfl⟩
        have HB1 : Hid (Below w.heap.size w W1) := by rw [hW1]; exact hbel.out.alloc (by omega) _
        have HCW1 : Hid (W1.cell? ⟨w.heap.size + 1, 0, none⟩ = some (.string word)) := by rw [hW1]; exact (World.cell?_alloc_lt _ _ _ hzw).trans hcw.out
        have hzw1 : w.heap.size + 1 < W1.heap.size := by rw [hW1]; simp; omega
        rw [← hW1]
        clear hW1 hbC hbel hcw c0 c1
        go_loopg [22] n' (fun g2 s22 wy => ∃ j : Nat, j + g2 = n' ∧ s22 = .int .i64 (j : Int) ∧ Hid (Below w.heap.size w wy) ∧ Hid (wy.cell? ⟨w.heap.size + 1, 0, none⟩ = some (.string word)) ∧ w.heap.size + 1 < wy.heap.size)
        case atStart => exact ⟨0, by omega, rfl, HB1, HCW1, hzw1⟩
        case round =>
          obtain ⟨j, hjg, rfl, hbel, hcw, hzw⟩ := hrel
          by_cases hj : j < n'
          · obtain ⟨x, hx⟩ : ∃ x, M'[j]? = some x := ⟨_, List.getElem?_eq_getElem (by have := HN'.out; omega)⟩
            obtain ⟨b2, off2, rfl, hbb2, hc⟩ := Reads.plain_at (by decide) paV_len HRD.out HN'.out hx
            have hbw2 : b2 < w.heap.size := by omega
            obtain ⟨p, u⟩ := x
            have hpm : p ∈ cl.parts := by rw [← HM'.out]; exact List.mem_map.2 ⟨_, List.mem_of_getElem? hx, rfl⟩
            obtain ⟨A3, n3, c3, rfl, hn3, hnc3, hrd3⟩ := HIN.out _ (List.mem_of_getElem? hx)
            have c0 : wr.cell? ⟨b2, off2 + j * 2, none⟩ = some (.int .i64 p.kind) := (hbel.out.cell (p := ⟨b2, off2 + j * 2, none⟩) hbw2).trans (hc 0 _ rfl)
            have c1 : wr.cell? ⟨b2, off2 + j * 2 + 1, none⟩ = some (.slice A3 n3 c3) := (hbel.out.cell (p := ⟨b2, off2 + j * 2 + 1, none⟩) hbw2).trans (hc 1 _ rfl)
            have y0 : (0 : Int) ≤ (j : Int) := by omega
            have y1 : (j : Int) < (n' : Int) := by omega
            have hwp := HW.out cl HCM.out p hpm
            have HCON : Hid (∀ (kind : Int) (Kb : Nat) (W : World), Below w.heap.size w W → Kb < W.heap.size → w.heap.size + 1 < W.heap.size → W.cell? ⟨w.heap.size + 1, 0, none⟩ = some (.string word) → W.cell? ⟨Kb, 0, none⟩ = some (.int .i64 kind) → Calls Try.prog 23 #[.slice A3 n3 c3, .func (.func 24) #[] #[.pointer (some ⟨w.heap.size + 1, 0, none⟩), .pointer (some ⟨Kb, 0, none⟩)]] W (SomeB W)) := fun kind Kb W h1 h2 h3 h4 h5 =>
              contains2_any p.words A3 n3 c3 W B word kind _ Kb (hrd3.below (h1.mono hB)) (Nat.le_trans hB h1.size) hn3 (by rw [hn3]; exact hwp.1) hwp.2 hword h3 h2 h4 h5
            clear hx hc hpm hn3 hrd3 hwp
            obtain ⟨kind, hkd⟩ : ∃ kind, kind = p.kind := ⟨_, rfl⟩
            rw [← hkd] at c0
            clear hkd
            by_cases hk3 : (kind == 3) = true
            · go_wp2_with fail
              refine (HCON.out 0 (wr.heap.size + 1) ((wr.alloc (.cells #[.int .i64 kind, .slice A3 n3 c3] 61)).alloc (.cells #[.int .i64 0] 3)) ((hbel.out.alloc (by omega) _).alloc (by simp; omega) _) (by simp) (by simp; omega) ((World.cell?_alloc_lt _ _ _ (by show w.heap.size + 1 < _; simp; omega)).trans ((World.cell?_alloc_lt _ _ _ hzw).trans hcw.out)) (by simp)).mono ?_
              rintro e w4 ⟨⟨q, rfl⟩, hb4⟩
              have hz4 := hb4.size
              simp only [World.size_alloc] at hz4
              have HB4 : Hid (Below w.heap.size w w4) := ((hbel.out.alloc (by omega) _).alloc (by simp; omega) _).trans (hb4.mono (by simp; omega))
              have HCW4 : Hid (w4.cell? ⟨w.heap.size + 1, 0, none⟩ = some (.string word)) := (hb4.cell (p := ⟨w.heap.size + 1, 0, none⟩) (by show w.heap.size + 1 < _; simp; omega)).trans ((World.cell?_alloc_lt _ _ _ (by show w.heap.size + 1 < _; simp; omega)).trans ((World.cell?_alloc_lt _ _ _ hzw).trans hcw.out))
              have hzw4 : w.heap.size + 1 < w4.heap.size := by omega
              clear hb4 hz4
              cases q
              · go_wp2_with fail
                go_roundg (n' - (j + 1))
                case measure => omega
                case rel => exact ⟨j + 1, by omega, by go_num, HB4, HCW4, hzw4⟩
              · go_wp2_with fail
                go_ret
                exact ⟨⟨_, rfl⟩, HB4.out⟩
            · have hk3' : (kind == 3) = false := by simpa using hk3
              clear hk3
              go_wp2_with fail
              refine (HCON.out kind (wr.heap.size + 1) ((wr.alloc (.cells #[.int .i64 kind, .slice A3 n3 c3] 61)).alloc (.cells #[.int .i64 kind] 3)) ((hbel.out.alloc (by omega) _).alloc (by simp; omega) _) (by simp) (by simp; omega) ((World.cell?_alloc_lt _ _ _ (by show w.heap.size + 1 < _; simp; omega)).trans ((World.cell?_alloc_lt _ _ _ hzw).trans hcw.out)) (by simp)).mono ?_
              rintro e w4 ⟨⟨q, rfl⟩, hb4⟩
              have hz4 := hb4.size
              simp only [World.size_alloc] at hz4
              have HB4 : Hid (Below w.heap.size w w4) := ((hbel.out.alloc (by omega) _).alloc (by simp; omega) _).trans (hb4.mono (by simp; omega))
              have HCW4 : Hid (w4.cell? ⟨w.heap.size + 1, 0, none⟩ = some (.string word)) := (hb4.cell (p := ⟨w.heap.size + 1, 0, none⟩) (by show w.heap.size + 1 < _; simp; omega)).trans ((World.cell?_alloc_lt _ _ _ (by show w.heap.size + 1 < _; simp; omega)).trans ((World.cell?_alloc_lt _ _ _ hzw).trans hcw.out))
              have hzw4 : w.heap.size + 1 < w4.heap.size := by omega
              clear hb4 hz4
              cases q
              · go_wp2_with fail
                go_roundg (n' - (j + 1))
                case measure => omega
                case rel => exact ⟨j + 1, by omega, by go_num, HB4, HCW4, hzw4⟩
              · go_wp2_with fail
                go_ret
                exact ⟨⟨_, rfl⟩, HB4.out⟩
          · obtain rfl : j = n' := by omega
            go_wp2_with fail
            go_roundg (n - (k + 1))
            case measure => omega
            case rel => exact ⟨k + 1, by omega, by go_num, hbel, hcw, hzw⟩
      · rw [hneg] at c0
        clear hneg
        go_wp2_with fail
        go_roundg (n - (k + 1))
        case measure => omega
        case rel => exact ⟨k + 1, by omega, by go_num, hbel.out.alloc (by omega) _, (World.cell?_alloc_lt _ _ _ hzw).trans hcw.out, by simp; omega⟩
    · obtain rfl : k = n := by omega
      go_wp2_with fail
      go_ret
      exact ⟨⟨_, rfl⟩, hbel.out⟩

set_option maxHeartbeats 1000000 in
theorem snip1_any (x : Wd) (v : Value) (Qb : Nat) (w : World) (hq : w.cell? ⟨Qb, 0, none⟩ = some v) (hQ : Qb < w.heap.size) (A : Option Addr) (n c : Nat) (hv : v = .slice A n c)
    (hwant : ∀ W, Below w.heap.size w W → Calls Try.prog 15 #[.agg #[v], .string x.text] W (SomeB W)) :
    Calls Try.prog 14 #[.agg #[.string x.text, .int .i64 x.frm, .int .i64 x.to_], .pointer (some ⟨Qb, 0, none⟩)] w (SomeB w) := by
  subst hv
  have HW := Lib.hid hwant
  have cq : ∀ o, (w.alloc o).cell? ⟨Qb, 0, none⟩ = some (.slice A n c) := fun o => (World.cell?_alloc_lt _ _ _ hQ).trans hq
  clear hwant hq
  go_enter Try.func14, Try.ntmps14
  go_wp2_with fail
  refine (HW.out _ ((Below.refl _ _).alloc (Nat.le_refl _) _)).mono ?_
  rintro e w1 ⟨⟨k, rfl⟩, hb⟩
  go_wp2_with fail
  go_ret
  exact ⟨⟨_, rfl⟩, ((Below.refl _ _).alloc (Nat.le_refl _) _).trans (hb.mono (by simp))⟩
end Go.Proofs.Ytpkpnmfcjoheoaa
