/-
  DERIVED. The walk of the closure in text.PlainOf. Conditions: a span that lies in the text. By an AI agent.
-/
import Derived.Test.YtcbmddgafkoooaaDoorPlainIn
namespace Go.Proofs.YtcbmddgafkoooaaDoor
open Go.RowKit

theorem Bld.below {b B : Nat} {bs : List Value} {w w' : World} (h : Bld b B bs w) (hB : B ≤ w.heap.size) (hb : Below w.heap.size w w') : Bld b B bs w' := by
  obtain ⟨h1, p, v, hp, hbk, hown⟩ := h
  exact ⟨h1, p, v, hp, (hb.block b (by omega)).trans hbk, own_below hown hb⟩
theorem Keep.below {b B : Nat} {a w w' : World} (h : Keep b B a w) (hB : B ≤ w.heap.size) (hbB : b < B) (hb : Below w.heap.size w w') : Keep b B a w' :=
  ⟨h.1.trans (hb.mono (by omega)), fun k hk hne => (hb.block k (by omega)).trans (h.2 k hk hne)⟩

set_option maxHeartbeats 1000000 in
set_option maxRecDepth 100000 in
theorem plainOf1_any (s : ByteArray) (x : Sp) (w : World) (n0 b B : Nat) (bs : List Value) (hB : Bld b B bs w) (hc : w.cell? ⟨n0, 0, none⟩ = some (.string s)) (hn : n0 < w.heap.size) (hBw : B ≤ w.heap.size)
    (h1 : x.frm ≤ x.to_) (h2 : x.to_ ≤ s.size) (hs : s.size ≤ 4294967280) (hsh : x.show_.size ≤ 4294967280) (hlen : bs.length + (shown s x).size ≤ 140737488355328) :
    Calls Tryd.prog 48 #[spV x, .pointer (some ⟨n0, 0, none⟩), .pointer (some ⟨b, 0, none⟩)] w fun e w' => e = .returned (.tuple #[]) ∧ Bld b B (bs ++ Lib.strCells (shown s x)) w' ∧ Keep b B w w' := by
  have HB := Lib.hid hB
  have hbB := hB.1
  have HX : Hid (spV x = .agg #[.int .i64 x.kind, .int .i64 x.frm, .int .i64 x.to_, .string x.text, .string x.show_, .int .i64 x.id, .bool x.strong]) := rfl
  rw [HX.out]
  clear hB
  have hcA : ∀ o, (w.alloc o).cell? ⟨n0, 0, none⟩ = some (.string s) := fun o => (World.cell?_alloc_lt w o _ hn).trans hc
  clear hc
  go_enter Tryd.func48, Tryd.ntmps48
  go_wp2_with fail
  rw [← HX.out]
  refine (plainIn_any s x _ h1 h2 hs hsh).mono ?_
  rintro e w1 ⟨rfl, hb1⟩
  rw [show shownV s x = .tuple #[.string (shown s x), .int .i64 (shownAt x)] from rfl]
  have hz := hb1.size
  simp only [World.size_alloc] at hz
  have hB1 := (HB.out.alloc hBw (.cells #[.int .i64 x.kind, .int .i64 x.frm, .int .i64 x.to_, .string x.text, .string x.show_, .int .i64 x.id, .bool x.strong] 29)).below (by simp; omega) hb1
  have hK1 := ((Keep.refl b B w).alloc hBw (by omega) (.cells #[.int .i64 x.kind, .int .i64 x.frm, .int .i64 x.to_, .string x.text, .string x.show_, .int .i64 x.id, .bool x.strong] 29)).below (by simp; omega) hbB hb1
  have HB1 := Lib.hid hB1
  have HK1 := Lib.hid hK1
  clear hB1 hK1 hb1 HB
  go_wp2_with fail
  refine (writeString_any b B bs (shown s x) _ HB1.out hlen (by omega)).mono ?_
  rintro e w2 ⟨rfl, hB2, hK2⟩
  have R := Lib.hid (And.intro hB2 (HK1.out.trans hK2))
  clear hB2 hK2 HK1 HB1
  go_wp2
  go_end0
  exact ⟨rfl, R.out⟩
end Go.Proofs.YtcbmddgafkoooaaDoor
