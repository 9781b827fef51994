/-
  DERIVED. The walks of slices.ContainsFunc at []find.Word with the law's two closures. Conditions: sizes. By an AI agent.
-/
import Derived.Test.YtpkpnmfcjoheoaaSnSnip
namespace Go.Proofs.Ytpkpnmfcjoheoaa
open Go.RowKit

set_option maxHeartbeats 1000000 in
theorem cl8_any (x : Wd) (F T Pb : Nat) (w : World) (hP : Pb < w.heap.size) (c0 : w.cell? ⟨Pb, 0, none⟩ = some (.int .i64 F)) (c1 : w.cell? ⟨Pb, 1, none⟩ = some (.int .i64 T)) :
    Calls Try.prog 8 #[.agg #[.string x.text, .int .i64 x.frm, .int .i64 x.to_], .pointer (some ⟨Pb, 0, none⟩)] w fun e w' => e = .returned (.bool (((x.frm : Int) == (F : Int)) && ((x.to_ : Int) == (T : Int)))) ∧ Below w.heap.size w w' := by
  have d0 : ∀ o, (w.alloc o).cell? ⟨Pb, 0, none⟩ = some (.int .i64 F) := fun o => (World.cell?_alloc_lt _ _ _ hP).trans c0
  have d1 : ∀ o, (w.alloc o).cell? ⟨Pb, 1, none⟩ = some (.int .i64 T) := fun o => (World.cell?_alloc_lt _ _ _ hP).trans c1
  clear c0 c1
  obtain ⟨q1, hq1⟩ : ∃ q, ((x.frm : Int) == (F : Int)) = q := ⟨_, rfl⟩
  obtain ⟨q2, hq2⟩ : ∃ q, ((x.to_ : Int) == (T : Int)) = q := ⟨_, rfl⟩
  rw [hq1, hq2]
  cases q1
  · go_enter Try.func8, Try.ntmps8
    go_wp2_with fail
    go_ret
    exact ⟨rfl, (Below.refl _ _).alloc (Nat.le_refl _) _⟩
  · go_enter Try.func8, Try.ntmps8
    go_wp2_with fail
    go_ret
    exact ⟨by simp, (Below.refl _ _).alloc (Nat.le_refl _) _⟩
set_option maxHeartbeats 1000000 in
theorem cl9_any (x : Wd) (F T Pb : Nat) (w : World) (hP : Pb < w.heap.size) (c0 : w.cell? ⟨Pb, 0, none⟩ = some (.int .i64 F)) (c1 : w.cell? ⟨Pb, 1, none⟩ = some (.int .i64 T)) :
    Calls Try.prog 9 #[.agg #[.string x.text, .int .i64 x.frm, .int .i64 x.to_], .pointer (some ⟨Pb, 0, none⟩)] w fun e w' => e = .returned (.bool (((x.frm : Int) == (F : Int)) && ((x.to_ : Int) == (T : Int)))) ∧ Below w.heap.size w w' := by
  have d0 : ∀ o, (w.alloc o).cell? ⟨Pb, 0, none⟩ = some (.int .i64 F) := fun o => (World.cell?_alloc_lt _ _ _ hP).trans c0
  have d1 : ∀ o, (w.alloc o).cell? ⟨Pb, 1, none⟩ = some (.int .i64 T) := fun o => (World.cell?_alloc_lt _ _ _ hP).trans c1
  clear c0 c1
  obtain ⟨q1, hq1⟩ : ∃ q, ((x.frm : Int) == (F : Int)) = q := ⟨_, rfl⟩
  obtain ⟨q2, hq2⟩ : ∃ q, ((x.to_ : Int) == (T : Int)) = q := ⟨_, rfl⟩
  rw [hq1, hq2]
  cases q1
  · go_enter Try.func9, Try.ntmps9
    go_wp2_with fail
    go_ret
    exact ⟨rfl, (Below.refl _ _).alloc (Nat.le_refl _) _⟩
  · go_enter Try.func9, Try.ntmps9
    go_wp2_with fail
    go_ret
    exact ⟨by simp, (Below.refl _ _).alloc (Nat.le_refl _) _⟩

set_option maxHeartbeats 2000000 in
theorem contW_any (g : Nat) (L : List Wd) (A : Option Addr) (n c F T Pb : Nat) (w : World) (B : Nat) (hent : ∀ args w, (callFunc g args).run Try.prog w = .ok (.enter g args) w) (hr : Reads w B 3 A n (rowsW L)) (hB : B ≤ w.heap.size) (hn : n = L.length) (hbig : n ≤ 4294967280)
    (hcl : ∀ x W, Below w.heap.size w W → Calls Try.prog g #[.agg #[.string x.text, .int .i64 x.frm, .int .i64 x.to_], .pointer (some ⟨Pb, 0, none⟩)] W fun e w' => e = .returned (.bool (((Wd.frm x : Int) == (F : Int)) && ((Wd.to_ x : Int) == (T : Int)))) ∧ Below W.heap.size W w') :
    Calls Try.prog 7 #[.slice A n c, .func (.func g) #[] #[.pointer (some ⟨Pb, 0, none⟩)]] w fun e w' => (∃ q : Bool, e = .returned (.bool q) ∧ ((∃ x ∈ L, x.frm = F ∧ x.to_ = T) → q = true)) ∧ Below w.heap.size w w' := by
  have HI : Hid (Calls Try.prog 21 #[.slice A n c, .func (.func g) #[] #[.pointer (some ⟨Pb, 0, none⟩)]] w fun e w' => (∃ i : Int, e = .returned (.int .i64 i) ∧ ((∃ x ∈ L, x.frm = F ∧ x.to_ = T) → decide (0 ≤ i) = true)) ∧ Below w.heap.size w w') := by
    have HR := Lib.hid hr
    have HN := Lib.hid hn
    have HC := Lib.hid hcl
    clear hr hn hcl
    show Calls _ _ _ _ _
    go_enter Try.func21, Try.ntmps21
    go_wp2_with fail
    go_loopg [8] n (fun gg s8 wr => ∃ k : Nat, k + gg = n ∧ s8 = .int .i64 (k : Int) ∧ Hid (∀ x ∈ L.take k, ¬ (x.frm = F ∧ x.to_ = T)) ∧ Hid (Below w.heap.size w wr))
    case atStart => exact ⟨0, by omega, rfl, (fun x hx => by cases hx), Below.refl _ _⟩
    case round =>
      obtain ⟨k, hkg, rfl, hno, hbel⟩ := hrel
      by_cases hk : k < n
      · obtain ⟨x, hx⟩ : ∃ x, L[k]? = some x := ⟨_, List.getElem?_eq_getElem (by have := HN.out; omega)⟩
        obtain ⟨b, off, rfl, hbb, hc0, hc1, hc2⟩ := wd_at HR.out HN.out hx
        have c0 := (hbel.out.cell (p := ⟨b, off + k * 3, none⟩) (by show b < _; omega)).trans hc0
        have c1 := (hbel.out.cell (p := ⟨b, off + k * 3 + 1, none⟩) (by show b < _; omega)).trans hc1
        have c2 := (hbel.out.cell (p := ⟨b, off + k * 3 + 2, none⟩) (by show b < _; omega)).trans hc2
        have j0 : (0 : Int) ≤ (k : Int) := by omega
        have j1 : (k : Int) < (n : Int) := by omega
        have HX := Lib.hid (HC.out x wr hbel.out)
        have HXK := Lib.hid hx
        clear hx hc0 hc1 hc2
        obtain ⟨q, hq⟩ : ∃ q, (((x.frm : Int) == (F : Int)) && ((x.to_ : Int) == (T : Int))) = q := ⟨_, rfl⟩
        rw [hq] at HX
        have HQ := Lib.hid hq
        clear hq
        go_wp2_with fail
        refine HX.out.mono ?_
        rintro e w2 ⟨rfl, hb2⟩
        have HB2 := Lib.hid (hbel.out.trans (hb2.mono hbel.out.size))
        clear hb2
        cases q
        · go_wp2_with fail
          go_roundg (n - (k + 1))
          case measure => omega
          case rel =>
            refine ⟨k + 1, by omega, by go_num, ?_, HB2⟩
            intro y hy
            rw [List.take_add_one, HXK.out] at hy
            rcases List.mem_append.1 hy with hy | hy
            · exact hno.out y hy
            · obtain rfl : y = x := by simpa using hy
              rintro ⟨h1, h2⟩
              have := HQ.out
              rw [h1, h2] at this
              simp at this
        · go_wp2_with fail
          go_ret
          exact ⟨⟨_, rfl, fun _ => decide_eq_true j0⟩, HB2.out⟩
      · obtain rfl : k = n := by omega
        go_wp2_with fail
        go_ret
        refine ⟨⟨_, rfl, fun ⟨x, hx, h⟩ => ?_⟩, hbel.out⟩
        exact absurd h (hno.out x (by rw [List.take_of_length_le (by rw [HN.out]; exact Nat.le_refl _)]; exact hx))
  clear hr hn hcl
  go_enter Try.func7, Try.ntmps7
  go_wp2_with fail
  refine HI.out.mono ?_
  rintro e w2 ⟨⟨i, rfl, hi⟩, hb2⟩
  have HII := Lib.hid hi
  clear HI hi
  go_wp2_with fail
  go_ret
  exact ⟨⟨_, rfl, HII.out⟩, hb2⟩
end Go.Proofs.Ytpkpnmfcjoheoaa
