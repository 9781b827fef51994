/-
  DERIVED. The walk of (*strings.Builder).WriteByte. Conditions: none.
  Contracts of the library, laid in plain words: strings.Index, Contains, Cut, HasPrefix, TrimPrefix, Trim, strconv.Atoi. Conditions: as said.
  By an AI agent.
-/
import Derived.Test.YtbdcimakdiegnaaGreatDoorVa07
import Derived.Lib.AppendStr
import Derived.Shelf.Small.Strs
import Derived.Shelf.Strings.Search3
import Derived.Shelf.Strings.Cut
import Derived.Shelf.Strings.Prefix
import Derived.Shelf.Strings.Trim
import Derived.Shelf.Strconv.Atoi
import Derived.Test.YtbdcimakdiegnaaGreatDoorProg
namespace Go.Proofs.YtbdcimakdiegnaaGreatDoor
open Go.RowKit

set_option maxHeartbeats 2000000 in
set_option maxRecDepth 100000 in
theorem writeByte_any (b B : Nat) (bs : List Value) (c : UInt8) (w : World) (h : Bld b B bs w) (hlen : bs.length + 1 ≤ 140737488355328) (hBw : B ≤ w.heap.size) :
    Calls Tryz.prog 118 #[.pointer (some ⟨b, 0, none⟩), .int .u8 c.toNat] w fun e w' => e = .returned .nilIface ∧ Bld b B (bs ++ Lib.byteCells [c]) w' ∧ Keep b B w w' := by
  obtain ⟨i0, hi, hz0, hz1, hz2⟩ := info_parts byte_info
  have hbB := h.1
  go_enter Tryz.func118, Tryz.ntmps118
  go_wp2_with fail
  refine (copyCheck_any b B bs _ h).mono ?_
  rintro e w1 ⟨rfl, hsz, hk, v, hbk, hown⟩
  have hlt : b < w1.heap.size := by omega
  have hB1 : B ≤ w1.heap.size := by omega
  clear hsz hBw
  have c1A : ∀ o, (w1.alloc o).cell? ⟨b, 1, none⟩ = some v := fun o => (World.cell?_alloc_lt w1 o _ hlt).trans (by rw [Lib.cell_of_heap hbk]; rfl)
  have c1 : w1.cell? ⟨b, 1, none⟩ = some v := by rw [Lib.cell_of_heap hbk]; rfl
  go_wp2_with (at_builtin; refine wpList_append_own_at _ rfl _ _ 56 rfl B 5 i0 (.int .u8 0) 1 1 Tryz.underlying56 hi hz0 hz1 hz2 rfl (by decide) _ bs.length _ rfl (hown.alloc _) ⟨w1.heap.size, 0, none⟩ 1 1 [.int .u8 c.toNat] rfl rfl (cell_one_new _ _ _) (by intro u hu; simp at hu; subst hu; rfl) (by unfold maxLen; omega) (by omega) (by simp; omega) ?_)
  intro v' w2 hown' hgrow _ _
  have hne : v.ownBlock ≠ some b := fun e => by have := (hown.lt b e).1; omega
  have hb2 : w2.heap[b]? = some (.cells #[.pointer (some ⟨b, 0, none⟩), v] 58 (0, 0)) := by
    rw [hgrow.block b (by simp; omega) (fun e => hne e.symm), Below.heap_alloc w1 _ b hlt]
    exact hbk
  have hgb := hgrow.block
  have hgs := hgrow.size
  have d1 : w2.cell? ⟨b, 1, none⟩ = some v := by rw [Lib.cell_of_heap hb2]; rfl
  have f1 : w2.frozen? ⟨b, 1, none⟩ = false := Lib.frozen_of_heap hb2 1
  obtain ⟨ao, n', cap, rfl⟩ : ∃ ao n' cap, v' = .slice ao n' cap := by
    rcases hown'.2 with ⟨hv, _⟩ | ⟨g, cap, cur, hv, _⟩
    · exact ⟨_, _, _, hv⟩
    · exact ⟨_, _, _, hv⟩
  have HK := Lib.hid hk
  have HGB := Lib.hid hgb
  have HGR := Lib.hid hgrow
  clear hk hgb hgrow
  go_wp2
  go_ret
  refine ⟨rfl, ⟨hbB, _, .slice ao n' cap, .inr rfl, ?_, ?_⟩, HK.out.trans ⟨?_, ?_⟩⟩
  · simp [World.setCell, Array.getElem?_modify, hb2]
  · exact ownsRow_setCell_below (by simpa [Lib.byteCells] using hown') hbB _
  · exact (((Below.refl b w1).alloc (by omega) _).grown HGR.out (by simp; omega) (fun k hk => by have := (hown.lt k hk).1; omega)).setCell (p := ⟨b, 1, none⟩) (Nat.le_refl _) _
  · intro k hk hne'
    refine (Below.heap_setCell _ _ _ _ (fun e => hne' (by simp [e]))).trans ((HGB.out k (by simp; omega) (fun e => by have := (hown.lt k e.symm).1; omega)).trans (Below.heap_alloc w1 _ k (by omega)))
end Go.Proofs.YtbdcimakdiegnaaGreatDoor
namespace Go.Proofs
open Go.Shelf

def Tryz.lays143_ren : Go.Shelf.Ren := ⟨fun | 143 => 57 | 219 => 96 | 217 => 123 | 225 => 124 | 224 => 125 | 267 => 126 | 266 => 157 | 314 => 158 | n => n, fun | 9 => 9 | 3 => 3 | 4 => 4 | 5 => 5 | 46 => 149 | 146 => 188 | 51 => 115 | n => n, fun | 1 => 0 | n => n⟩
theorem Tryz.lays143 : Go.Proofs.Lays.n143 Tryz.prog Tryz.lays143_ren := {
  mixed := by kernel_rfl
  f143 := Tryz.func57.trans (congrArg some (by kernel_rfl))
  f217 := Tryz.func123.trans (congrArg some (by kernel_rfl))
  f219 := Tryz.func96.trans (congrArg some (by kernel_rfl))
  f224 := Tryz.func125.trans (congrArg some (by kernel_rfl))
  f225 := Tryz.func124.trans (congrArg some (by kernel_rfl))
  f266 := Tryz.func157.trans (congrArg some (by kernel_rfl))
  f267 := Tryz.func126.trans (congrArg some (by kernel_rfl))
  f314 := Tryz.func158.trans (congrArg some (by kernel_rfl))
  t3 := Tryz.underlying3
  a3 := Tryz.isAgg3
  z3 := Tryz.sizeOf3
  v3 := Tryz.zeroValue3
  t4 := Tryz.underlying4
  a4 := Tryz.isAgg4
  z4 := Tryz.sizeOf4
  v4 := Tryz.zeroValue4
  t5 := Tryz.underlying5
  a5 := Tryz.isAgg5
  z5 := Tryz.sizeOf5
  v5 := Tryz.zeroValue5
  t9 := Tryz.underlying9
  a9 := Tryz.isAgg9
  z9 := Tryz.sizeOf9
  v9 := Tryz.zeroValue9
  t46 := Tryz.underlying149
  a46 := Tryz.isAgg149
  z46 := Tryz.sizeOf149
  v46 := Tryz.zeroValue149
  t51 := Tryz.underlying115
  a51 := Tryz.isAgg115
  z51 := Tryz.sizeOf115
  v51 := Tryz.zeroValue115
  t146 := Tryz.underlying188
  a146 := Tryz.isAgg188
  z146 := Tryz.sizeOf188
  v146 := Tryz.zeroValue188
  g1 := by kernel_rfl }
open Go.RowKit Go.Lib in
theorem Tryz.strings_Index (s sub : ByteArray) (m : Int) (w : World) (hs : s.size < 4294967281) (hm : w.cell? ⟨0, 0, none⟩ = some (.int .i64 m)) :
    Calls Tryz.prog 57 #[.string s, .string sub] w fun e w' => e = .returned (.int .i64 (Lib.index s.data.toList sub.data.toList)) ∧ w' = w := Any.strings_Index Tryz.lays143 s sub m w hs hm
def Tryz.lays144_ren : Go.Shelf.Ren := ⟨fun | 144 => 28 | 143 => 57 | 219 => 96 | 217 => 123 | 225 => 124 | 224 => 125 | 267 => 126 | 266 => 157 | 314 => 158 | n => n, fun | 9 => 9 | 4 => 4 | 3 => 3 | 5 => 5 | 46 => 149 | 146 => 188 | 51 => 115 | n => n, fun | 1 => 0 | n => n⟩
theorem Tryz.lays144 : Go.Proofs.Lays.n144 Tryz.prog Tryz.lays144_ren := {
  mixed := by kernel_rfl
  f143 := Tryz.func57.trans (congrArg some (by kernel_rfl))
  f144 := Tryz.func28.trans (congrArg some (by kernel_rfl))
  f217 := Tryz.func123.trans (congrArg some (by kernel_rfl))
  f219 := Tryz.func96.trans (congrArg some (by kernel_rfl))
  f224 := Tryz.func125.trans (congrArg some (by kernel_rfl))
  f225 := Tryz.func124.trans (congrArg some (by kernel_rfl))
  f266 := Tryz.func157.trans (congrArg some (by kernel_rfl))
  f267 := Tryz.func126.trans (congrArg some (by kernel_rfl))
  f314 := Tryz.func158.trans (congrArg some (by kernel_rfl))
  t3 := Tryz.underlying3
  a3 := Tryz.isAgg3
  z3 := Tryz.sizeOf3
  v3 := Tryz.zeroValue3
  t4 := Tryz.underlying4
  a4 := Tryz.isAgg4
  z4 := Tryz.sizeOf4
  v4 := Tryz.zeroValue4
  t5 := Tryz.underlying5
  a5 := Tryz.isAgg5
  z5 := Tryz.sizeOf5
  v5 := Tryz.zeroValue5
  t9 := Tryz.underlying9
  a9 := Tryz.isAgg9
  z9 := Tryz.sizeOf9
  v9 := Tryz.zeroValue9
  t46 := Tryz.underlying149
  a46 := Tryz.isAgg149
  z46 := Tryz.sizeOf149
  v46 := Tryz.zeroValue149
  t51 := Tryz.underlying115
  a51 := Tryz.isAgg115
  z51 := Tryz.sizeOf115
  v51 := Tryz.zeroValue115
  t146 := Tryz.underlying188
  a146 := Tryz.isAgg188
  z146 := Tryz.sizeOf188
  v146 := Tryz.zeroValue188
  g1 := by kernel_rfl }
open Go.RowKit Go.Lib in
theorem Tryz.strings_Contains (s sub : ByteArray) (m : Int) (w : World) (hs : s.size < 4294967281) (hm : w.cell? ⟨0, 0, none⟩ = some (.int .i64 m)) :
    Calls Tryz.prog 28 #[.string s, .string sub] w fun e w' => e = .returned (.bool (Lib.contains s.data.toList sub.data.toList)) ∧ w' = w := Any.strings_Contains Tryz.lays144 s sub m w hs hm
def Tryz.lays145_ren : Go.Shelf.Ren := ⟨fun | 145 => 27 | 220 => 56 | 219 => 96 | 217 => 123 | 225 => 124 | 224 => 125 | 267 => 126 | 266 => 157 | 314 => 158 | n => n, fun | 9 => 9 | 4 => 4 | 59 => 66 | 3 => 3 | 5 => 5 | 46 => 149 | 146 => 188 | 51 => 115 | n => n, fun | 1 => 0 | n => n⟩
theorem Tryz.lays145 : Go.Proofs.Lays.n145 Tryz.prog Tryz.lays145_ren := {
  mixed := by kernel_rfl
  f145 := Tryz.func27.trans (congrArg some (by kernel_rfl))
  f217 := Tryz.func123.trans (congrArg some (by kernel_rfl))
  f219 := Tryz.func96.trans (congrArg some (by kernel_rfl))
  f220 := Tryz.func56.trans (congrArg some (by kernel_rfl))
  f224 := Tryz.func125.trans (congrArg some (by kernel_rfl))
  f225 := Tryz.func124.trans (congrArg some (by kernel_rfl))
  f266 := Tryz.func157.trans (congrArg some (by kernel_rfl))
  f267 := Tryz.func126.trans (congrArg some (by kernel_rfl))
  f314 := Tryz.func158.trans (congrArg some (by kernel_rfl))
  t3 := Tryz.underlying3
  a3 := Tryz.isAgg3
  z3 := Tryz.sizeOf3
  v3 := Tryz.zeroValue3
  t4 := Tryz.underlying4
  a4 := Tryz.isAgg4
  z4 := Tryz.sizeOf4
  v4 := Tryz.zeroValue4
  t5 := Tryz.underlying5
  a5 := Tryz.isAgg5
  z5 := Tryz.sizeOf5
  v5 := Tryz.zeroValue5
  t9 := Tryz.underlying9
  a9 := Tryz.isAgg9
  z9 := Tryz.sizeOf9
  v9 := Tryz.zeroValue9
  t46 := Tryz.underlying149
  a46 := Tryz.isAgg149
  z46 := Tryz.sizeOf149
  v46 := Tryz.zeroValue149
  t51 := Tryz.underlying115
  a51 := Tryz.isAgg115
  z51 := Tryz.sizeOf115
  v51 := Tryz.zeroValue115
  t59 := Tryz.underlying66
  a59 := Tryz.isAgg66
  z59 := Tryz.sizeOf66
  v59 := Tryz.zeroValue66
  t146 := Tryz.underlying188
  a146 := Tryz.isAgg188
  z146 := Tryz.sizeOf188
  v146 := Tryz.zeroValue188
  g1 := by kernel_rfl }
open Go.RowKit Go.Lib in
theorem Tryz.strings_Cut (s sep : ByteArray) (m : Int) (w : World) (hs : s.size < 4294967281) (hm : w.cell? ⟨0, 0, none⟩ = some (.int .i64 m)) :
    Calls Tryz.prog 27 #[.string s, .string sep] w fun e w' => e = .returned (.tuple #[.string ⟨(Lib.cut s.data.toList sep.data.toList).1.toArray⟩, .string ⟨(Lib.cut s.data.toList sep.data.toList).2.1.toArray⟩, .bool (Lib.cut s.data.toList sep.data.toList).2.2]) ∧ ∃ n, w' = w.drewN n := Any.strings_Cut Tryz.lays145 s sep m w hs hm
def Tryz.lays99_ren : Go.Shelf.Ren := ⟨fun | 99 => 29 | 206 => 58 | n => n, fun | 9 => 9 | 4 => 4 | 3 => 3 | n => n, fun | n => n⟩
theorem Tryz.lays99 : Go.Proofs.Lays.n99 Tryz.prog Tryz.lays99_ren := {
  mixed := by kernel_rfl
  f99 := Tryz.func29.trans (congrArg some (by kernel_rfl))
  f206 := Tryz.func58.trans (congrArg some (by kernel_rfl))
  t3 := Tryz.underlying3
  a3 := Tryz.isAgg3
  z3 := Tryz.sizeOf3
  v3 := Tryz.zeroValue3
  t4 := Tryz.underlying4
  a4 := Tryz.isAgg4
  z4 := Tryz.sizeOf4
  v4 := Tryz.zeroValue4
  t9 := Tryz.underlying9
  a9 := Tryz.isAgg9
  z9 := Tryz.sizeOf9
  v9 := Tryz.zeroValue9 }
open Go.RowKit Go.Lib in
theorem Tryz.strings_HasPrefix (s p : ByteArray) (w : World) :
    Calls Tryz.prog 29 #[.string s, .string p] w fun e w' => e = .returned (.bool (Lib.hasPrefix s.data.toList p.data.toList)) ∧ w' = w := Any.strings_HasPrefix Tryz.lays99 s p w
def Tryz.lays101_ren : Go.Shelf.Ren := ⟨fun | 101 => 104 | 208 => 136 | 206 => 58 | n => n, fun | 9 => 9 | 4 => 4 | 3 => 3 | n => n, fun | n => n⟩
theorem Tryz.lays101 : Go.Proofs.Lays.n101 Tryz.prog Tryz.lays101_ren := {
  mixed := by kernel_rfl
  f101 := Tryz.func104.trans (congrArg some (by kernel_rfl))
  f206 := Tryz.func58.trans (congrArg some (by kernel_rfl))
  f208 := Tryz.func136.trans (congrArg some (by kernel_rfl))
  t3 := Tryz.underlying3
  a3 := Tryz.isAgg3
  z3 := Tryz.sizeOf3
  v3 := Tryz.zeroValue3
  t4 := Tryz.underlying4
  a4 := Tryz.isAgg4
  z4 := Tryz.sizeOf4
  v4 := Tryz.zeroValue4
  t9 := Tryz.underlying9
  a9 := Tryz.isAgg9
  z9 := Tryz.sizeOf9
  v9 := Tryz.zeroValue9 }
open Go.RowKit Go.Lib in
theorem Tryz.strings_TrimPrefix (s p : ByteArray) (w : World) :
    Calls Tryz.prog 104 #[.string s, .string p] w fun e w' => e = .returned (.string ⟨(Lib.trimPrefix s.data.toList p.data.toList).toArray⟩) ∧ w' = w := Any.strings_TrimPrefix Tryz.lays101 s p w
def Tryz.lays160_ren : Go.Shelf.Ren := ⟨fun | 160 => 105 | 232 => 138 | 231 => 137 | 227 => 139 | 234 => 141 | 233 => 140 | 236 => 143 | 235 => 142 | 228 => 149 | 271 => 168 | 151 => 167 | 197 => 133 | 120 => 185 | 152 => 147 | 260 => 166 | 137 => 175 | 119 => 176 | 224 => 125 | 225 => 124 | 217 => 123 | 266 => 157 | n => n, fun | 9 => 9 | 4 => 4 | 3 => 3 | 5 => 5 | 117 => 164 | 116 => 163 | 0 => 0 | 124 => 167 | 21 => 21 | 105 => 159 | 46 => 149 | 119 => 180 | 139 => 222 | 138 => 221 | n => n, fun | 3 => 2 | 4 => 3 | n => n⟩
theorem Tryz.lays160 : Go.Proofs.Lays.n160 Tryz.prog Tryz.lays160_ren := {
  mixed := by kernel_rfl
  f119 := Tryz.func176.trans (congrArg some (by kernel_rfl))
  f120 := Tryz.func185.trans (congrArg some (by kernel_rfl))
  f137 := Tryz.func175.trans (congrArg some (by kernel_rfl))
  f151 := Tryz.func167.trans (congrArg some (by kernel_rfl))
  f152 := Tryz.func147.trans (congrArg some (by kernel_rfl))
  f160 := Tryz.func105.trans (congrArg some (by kernel_rfl))
  f197 := Tryz.func133.trans (congrArg some (by kernel_rfl))
  f217 := Tryz.func123.trans (congrArg some (by kernel_rfl))
  f224 := Tryz.func125.trans (congrArg some (by kernel_rfl))
  f225 := Tryz.func124.trans (congrArg some (by kernel_rfl))
  f227 := Tryz.func139.trans (congrArg some (by kernel_rfl))
  f228 := Tryz.func149.trans (congrArg some (by kernel_rfl))
  f231 := Tryz.func137.trans (congrArg some (by kernel_rfl))
  f232 := Tryz.func138.trans (congrArg some (by kernel_rfl))
  f233 := Tryz.func140.trans (congrArg some (by kernel_rfl))
  f234 := Tryz.func141.trans (congrArg some (by kernel_rfl))
  f235 := Tryz.func142.trans (congrArg some (by kernel_rfl))
  f236 := Tryz.func143.trans (congrArg some (by kernel_rfl))
  f260 := Tryz.func166.trans (congrArg some (by kernel_rfl))
  f266 := Tryz.func157.trans (congrArg some (by kernel_rfl))
  f271 := Tryz.func168.trans (congrArg some (by kernel_rfl))
  t0 := Tryz.underlying0
  a0 := Tryz.isAgg0
  z0 := Tryz.sizeOf0
  v0 := Tryz.zeroValue0
  t3 := Tryz.underlying3
  a3 := Tryz.isAgg3
  z3 := Tryz.sizeOf3
  v3 := Tryz.zeroValue3
  t4 := Tryz.underlying4
  a4 := Tryz.isAgg4
  z4 := Tryz.sizeOf4
  v4 := Tryz.zeroValue4
  t5 := Tryz.underlying5
  a5 := Tryz.isAgg5
  z5 := Tryz.sizeOf5
  v5 := Tryz.zeroValue5
  t9 := Tryz.underlying9
  a9 := Tryz.isAgg9
  z9 := Tryz.sizeOf9
  v9 := Tryz.zeroValue9
  t21 := Tryz.underlying21
  a21 := Tryz.isAgg21
  z21 := Tryz.sizeOf21
  v21 := Tryz.zeroValue21
  t46 := Tryz.underlying149
  a46 := Tryz.isAgg149
  z46 := Tryz.sizeOf149
  v46 := Tryz.zeroValue149
  t105 := Tryz.underlying159
  a105 := Tryz.isAgg159
  z105 := Tryz.sizeOf159
  v105 := Tryz.zeroValue159
  t116 := Tryz.underlying163
  a116 := Tryz.isAgg163
  z116 := Tryz.sizeOf163
  t117 := Tryz.underlying164
  a117 := Tryz.isAgg164
  z117 := Tryz.sizeOf164
  v117 := Tryz.zeroValue164
  t119 := Tryz.underlying180
  a119 := Tryz.isAgg180
  z119 := Tryz.sizeOf180
  t124 := Tryz.underlying167
  a124 := Tryz.isAgg167
  z124 := Tryz.sizeOf167
  v124 := Tryz.zeroValue167
  t138 := Tryz.underlying221
  a138 := Tryz.isAgg221
  z138 := Tryz.sizeOf221
  v138 := Tryz.zeroValue221
  t139 := Tryz.underlying222
  a139 := Tryz.isAgg222
  z139 := Tryz.sizeOf222
  v139 := Tryz.zeroValue222
  g3 := by kernel_rfl
  g4 := by kernel_rfl }
def Tryz.lays172_ren : Go.Shelf.Ren := ⟨fun | 172 => 106 | 244 => 144 | 245 => 145 | 247 => 169 | 279 => 170 | 280 => 171 | 281 => 172 | 282 => 173 | 287 => 186 | 316 => 187 | 171 => 34 | 205 => 188 | 321 => 198 | 322 => 199 | 243 => 66 | 246 => 99 | 283 => 128 | 284 => 129 | 285 => 130 | 286 => 131 | 129 => 162 | 317 => 161 | 318 => 163 | 319 => 164 | 320 => 165 | 337 => 183 | 338 => 184 | n => n, fun | 9 => 9 | 3 => 3 | 75 => 62 | 76 => 63 | 4 => 4 | 5 => 5 | 167 => 198 | 37 => 56 | 0 => 0 | 85 => 199 | 2 => 2 | 168 => 201 | 53 => 153 | 175 => 223 | 46 => 149 | 210 => 226 | 127 => 97 | 145 => 242 | 143 => 240 | 21 => 21 | 171 => 152 | 173 => 156 | 212 => 194 | 51 => 115 | 20 => 20 | 213 => 195 | 232 => 237 | 233 => 238 | 80 => 65 | n => n, fun | 15 => 4 | 16 => 5 | 17 => 1 | 18 => 6 | 19 => 7 | n => n⟩
theorem Tryz.lays172 : Go.Proofs.Lays.n172 Tryz.prog Tryz.lays172_ren := {
  mixed := by kernel_rfl
  f129 := Tryz.func162.trans (congrArg some (by kernel_rfl))
  f171 := Tryz.func34.trans (congrArg some (by kernel_rfl))
  f172 := Tryz.func106.trans (congrArg some (by kernel_rfl))
  f205 := Tryz.func188.trans (congrArg some (by kernel_rfl))
  f243 := Tryz.func66.trans (congrArg some (by kernel_rfl))
  f244 := Tryz.func144.trans (congrArg some (by kernel_rfl))
  f245 := Tryz.func145.trans (congrArg some (by kernel_rfl))
  f246 := Tryz.func99.trans (congrArg some (by kernel_rfl))
  f247 := Tryz.func169.trans (congrArg some (by kernel_rfl))
  f279 := Tryz.func170.trans (congrArg some (by kernel_rfl))
  f280 := Tryz.func171.trans (congrArg some (by kernel_rfl))
  f281 := Tryz.func172.trans (congrArg some (by kernel_rfl))
  f282 := Tryz.func173.trans (congrArg some (by kernel_rfl))
  f283 := Tryz.func128.trans (congrArg some (by kernel_rfl))
  f284 := Tryz.func129.trans (congrArg some (by kernel_rfl))
  f285 := Tryz.func130.trans (congrArg some (by kernel_rfl))
  f286 := Tryz.func131.trans (congrArg some (by kernel_rfl))
  f287 := Tryz.func186.trans (congrArg some (by kernel_rfl))
  f316 := Tryz.func187.trans (congrArg some (by kernel_rfl))
  f317 := Tryz.func161.trans (congrArg some (by kernel_rfl))
  f318 := Tryz.func163.trans (congrArg some (by kernel_rfl))
  f319 := Tryz.func164.trans (congrArg some (by kernel_rfl))
  f320 := Tryz.func165.trans (congrArg some (by kernel_rfl))
  f321 := Tryz.func198.trans (congrArg some (by kernel_rfl))
  f322 := Tryz.func199.trans (congrArg some (by kernel_rfl))
  f337 := Tryz.func183.trans (congrArg some (by kernel_rfl))
  f338 := Tryz.func184.trans (congrArg some (by kernel_rfl))
  t0 := Tryz.underlying0
  a0 := Tryz.isAgg0
  z0 := Tryz.sizeOf0
  v0 := Tryz.zeroValue0
  t2 := Tryz.underlying2
  a2 := Tryz.isAgg2
  z2 := Tryz.sizeOf2
  v2 := Tryz.zeroValue2
  t3 := Tryz.underlying3
  a3 := Tryz.isAgg3
  z3 := Tryz.sizeOf3
  v3 := Tryz.zeroValue3
  t4 := Tryz.underlying4
  a4 := Tryz.isAgg4
  z4 := Tryz.sizeOf4
  v4 := Tryz.zeroValue4
  t5 := Tryz.underlying5
  a5 := Tryz.isAgg5
  z5 := Tryz.sizeOf5
  v5 := Tryz.zeroValue5
  t9 := Tryz.underlying9
  a9 := Tryz.isAgg9
  z9 := Tryz.sizeOf9
  v9 := Tryz.zeroValue9
  t20 := Tryz.underlying20
  a20 := Tryz.isAgg20
  z20 := Tryz.sizeOf20
  v20 := Tryz.zeroValue20
  t21 := Tryz.underlying21
  a21 := Tryz.isAgg21
  z21 := Tryz.sizeOf21
  v21 := Tryz.zeroValue21
  t37 := Tryz.underlying56
  a37 := Tryz.isAgg56
  z37 := Tryz.sizeOf56
  v37 := Tryz.zeroValue56
  t46 := Tryz.underlying149
  a46 := Tryz.isAgg149
  z46 := Tryz.sizeOf149
  v46 := Tryz.zeroValue149
  t51 := Tryz.underlying115
  a51 := Tryz.isAgg115
  z51 := Tryz.sizeOf115
  v51 := Tryz.zeroValue115
  t53 := Tryz.underlying153
  a53 := Tryz.isAgg153
  z53 := Tryz.sizeOf153
  v53 := Tryz.zeroValue153
  t75 := Tryz.underlying62
  a75 := Tryz.isAgg62
  z75 := Tryz.sizeOf62
  v75 := Tryz.zeroValue62
  t76 := Tryz.underlying63
  a76 := Tryz.isAgg63
  z76 := Tryz.sizeOf63
  v76 := Tryz.zeroValue63
  t85 := Tryz.underlying199
  a85 := Tryz.isAgg199
  z85 := Tryz.sizeOf199
  v85 := Tryz.zeroValue199
  t127 := Tryz.underlying97
  a127 := Tryz.isAgg97
  z127 := Tryz.sizeOf97
  v127 := Tryz.zeroValue97
  t143 := Tryz.underlying240
  a143 := Tryz.isAgg240
  z143 := Tryz.sizeOf240
  v143 := Tryz.zeroValue240
  t145 := Tryz.underlying242
  a145 := Tryz.isAgg242
  z145 := Tryz.sizeOf242
  v145 := Tryz.zeroValue242
  t167 := Tryz.underlying198
  a167 := Tryz.isAgg198
  z167 := Tryz.sizeOf198
  v167 := Tryz.zeroValue198
  t168 := Tryz.underlying201
  a168 := Tryz.isAgg201
  z168 := Tryz.sizeOf201
  v168 := Tryz.zeroValue201
  t171 := Tryz.underlying152
  a171 := Tryz.isAgg152
  z171 := Tryz.sizeOf152
  v171 := Tryz.zeroValue152
  t173 := Tryz.underlying156
  a173 := Tryz.isAgg156
  z173 := Tryz.sizeOf156
  v173 := Tryz.zeroValue156
  t175 := Tryz.underlying223
  a175 := Tryz.isAgg223
  z175 := Tryz.sizeOf223
  v175 := Tryz.zeroValue223
  t210 := Tryz.underlying226
  a210 := Tryz.isAgg226
  z210 := Tryz.sizeOf226
  v210 := Tryz.zeroValue226
  t212 := Tryz.underlying194
  a212 := Tryz.isAgg194
  z212 := Tryz.sizeOf194
  v212 := Tryz.zeroValue194
  t213 := Tryz.underlying195
  a213 := Tryz.isAgg195
  z213 := Tryz.sizeOf195
  t232 := Tryz.underlying237
  a232 := Tryz.isAgg237
  z232 := Tryz.sizeOf237
  v232 := Tryz.zeroValue237
  t233 := Tryz.underlying238
  a233 := Tryz.isAgg238
  z233 := Tryz.sizeOf238
  v233 := Tryz.zeroValue238
  g15 := by kernel_rfl
  g16 := by kernel_rfl
  g17 := by kernel_rfl
  g18 := by kernel_rfl
  g19 := by kernel_rfl }
open Go.RowKit in
theorem Tryz.strconv_Atoi (s : ByteArray) (n : Int) (hl : s.size ≤ 18) (h : Lib.atoi s.data.toList = some n) (w : World) :
    Calls Tryz.prog 106 #[.string s] w fun e w' => e = .returned (.tuple #[.int .i64 n, .nilIface]) ∧ ∃ t, w' = Lib.bytesWorld w 5 t := Any.strconv_Atoi Tryz.lays172 s n hl h w
end Go.Proofs
