/-
  DERIVED. The walks of find.has, Query.wanted and Snippet's closure: some answer comes back, memory stays. Conditions: sizes. By an AI agent.
-/
import Derived.Test.YtpkpnmfcjoheoaaSnDist2
import Derived.Test.YtpkpnmfcjoheoaaSnShelf
namespace Go.Proofs.Ytpkpnmfcjoheoaa
open Go.RowKit

def SomeB (w : World) (e : Ending) (w' : World) : Prop := (∃ k, e = .returned (.bool k)) ∧ Below w.heap.size w w'

set_option maxHeartbeats 1000000 in
theorem has_any (word p : ByteArray) (kind : Int) (w : World) (h1 : word.size ≤ 4294967280) (h2 : p.size ≤ 4294967280) :
    Calls Try.prog 25 #[.string word, .int .i64 kind, .string p] w (SomeB w) := by
  have HN : Hid (Calls Try.prog 36 #[.string p, .string word] w (SomeB w)) := near_any p word w h2 h1
  by_cases k1 : (kind == 1) = true
  · go_enter Try.func25, Try.ntmps25
    go_wp2_with fail
    refine (Try.strings_HasPrefix _ _ _).mono ?_
    rintro e w1 ⟨rfl, rfl⟩
    go_wp2_with fail
    go_ret
    exact ⟨⟨_, rfl⟩, Below.refl _ _⟩
  · have k1' : (kind == 1) = false := by simpa using k1
    clear k1
    by_cases k2 : (kind == 2) = true
    · go_enter Try.func25, Try.ntmps25
      go_wp2_with fail
      refine HN.out.mono ?_
      rintro e w1 ⟨⟨k, rfl⟩, hb⟩
      go_wp2_with fail
      go_ret
      exact ⟨⟨_, rfl⟩, hb⟩
    · have k2' : (kind == 2) = false := by simpa using k2
      clear k2
      go_enter Try.func25, Try.ntmps25
      go_wp2_with fail
      go_ret
      exact ⟨⟨_, rfl⟩, Below.refl _ _⟩

set_option maxHeartbeats 1000000 in
theorem want1_any (x word : ByteArray) (kind : Int) (Wb Kb : Nat) (w : World) (h1 : word.size ≤ 4294967280) (h2 : x.size ≤ 4294967280) (c1 : w.cell? ⟨Wb, 0, none⟩ = some (.string word)) (c2 : w.cell? ⟨Kb, 0, none⟩ = some (.int .i64 kind)) :
    Calls Try.prog 24 #[.string x, .pointer (some ⟨Wb, 0, none⟩), .pointer (some ⟨Kb, 0, none⟩)] w (SomeB w) := by
  have HH := Lib.hid (has_any word x kind w h1 h2)
  go_enter Try.func24, Try.ntmps24
  go_wp2_with fail
  refine HH.out.mono ?_
  rintro e w1 ⟨⟨k, rfl⟩, hb⟩
  go_wp2_with fail
  go_ret
  exact ⟨⟨_, rfl⟩, hb⟩

set_option maxHeartbeats 2000000 in
theorem contains2_any (ws : List ByteArray) (A : Option Addr) (n c : Nat) (w : World) (B : Nat) (word : ByteArray) (kind : Int) (Wb Kb : Nat) (hr : Reads w B 1 A n (ws.map .string)) (hB : B ≤ w.heap.size) (hn : n = ws.length) (hbig : n ≤ 4294967280) (hs : ∀ x ∈ ws, x.size ≤ 4294967280) (hword : word.size ≤ 4294967280)
    (hWb : Wb < w.heap.size) (hKb : Kb < w.heap.size) (c1 : w.cell? ⟨Wb, 0, none⟩ = some (.string word)) (c2 : w.cell? ⟨Kb, 0, none⟩ = some (.int .i64 kind)) :
    Calls Try.prog 23 #[.slice A n c, .func (.func 24) #[] #[.pointer (some ⟨Wb, 0, none⟩), .pointer (some ⟨Kb, 0, none⟩)]] w (SomeB w) := by
  have hent : ∀ args w, (callFunc 24 args).run Try.prog w = .ok (.enter 24 args) w := enters_of Try.func24 (by kernel_rfl) rfl
  have HI : Hid (∀ w1, Below w.heap.size w w1 → Calls Try.prog 34 #[.slice A n c, .func (.func 24) #[] #[.pointer (some ⟨Wb, 0, none⟩), .pointer (some ⟨Kb, 0, none⟩)]] w1 fun e w' => (∃ i : Int, e = .returned (.int .i64 i)) ∧ Below w1.heap.size w1 w') := by
    intro w0 hb0
    have HR := Lib.hid ((hr.below (hb0.mono hB)).more (Nat.le_trans hB hb0.size))
    have HN := Lib.hid hn
    have HS := Lib.hid hs
    have C1 := Lib.hid ((hb0.cell (p := ⟨Wb, 0, none⟩) hWb).trans c1)
    have C2 := Lib.hid ((hb0.cell (p := ⟨Kb, 0, none⟩) hKb).trans c2)
    have hz := hb0.size
    clear hr hn hs c1 c2
    go_enter Try.func34, Try.ntmps34
    go_wp2_with fail
    go_loopg [8] n (fun gg s8 wr => ∃ k : Nat, k + gg = n ∧ s8 = .int .i64 (k : Int) ∧ Hid (Below w0.heap.size w0 wr))
    case atStart => exact ⟨0, by omega, rfl, Below.refl _ _⟩
    case round =>
      obtain ⟨k, hkg, rfl, hbel⟩ := hrel
      by_cases hk : k < n
      · obtain ⟨x, hx⟩ : ∃ x, ws[k]? = some x := ⟨_, List.getElem?_eq_getElem (by have := HN.out; omega)⟩
        obtain ⟨b, off, rfl, hbb, hc⟩ := plain1_at HR.out HN.out hx
        have c0 := (hbel.out.cell (p := ⟨b, off + k, none⟩) hbb).trans hc
        have hxs := HS.out x (List.mem_of_getElem? hx)
        have j0 : (0 : Int) ≤ (k : Int) := by omega
        have j1 : (k : Int) < (n : Int) := by omega
        have HW1 : Hid (Calls Try.prog 24 #[.string x, .pointer (some ⟨Wb, 0, none⟩), .pointer (some ⟨Kb, 0, none⟩)] wr (SomeB wr)) := want1_any x word kind Wb Kb wr hword hxs ((hbel.out.cell (p := ⟨Wb, 0, none⟩) (by show Wb < _; omega)).trans C1.out) ((hbel.out.cell (p := ⟨Kb, 0, none⟩) (by show Kb < _; omega)).trans C2.out)
        clear hx hc
        go_wp2_with fail
        refine HW1.out.mono ?_
        rintro e w2 ⟨⟨q, rfl⟩, hb2⟩
        have HB2 := Lib.hid (hbel.out.trans (hb2.mono hbel.out.size))
        clear hb2
        cases q
        · go_wp2_with fail
          go_roundg (n - (k + 1))
          case measure => omega
          case rel => exact ⟨k + 1, by omega, by go_num, HB2⟩
        · go_wp2_with fail
          go_ret
          exact ⟨⟨_, rfl⟩, HB2.out⟩
      · obtain rfl : k = n := by omega
        go_wp2_with fail
        go_ret
        exact ⟨⟨_, rfl⟩, hbel.out⟩
  clear hr hn hs c1 c2
  go_enter Try.func23, Try.ntmps23
  go_wp2_with fail
  refine (HI.out w (Below.refl _ _)).mono ?_
  rintro e w2 ⟨⟨i, rfl⟩, hb2⟩
  clear HI
  go_wp2_with fail
  go_ret
  exact ⟨⟨_, rfl⟩, hb2⟩
end Go.Proofs.Ytpkpnmfcjoheoaa
