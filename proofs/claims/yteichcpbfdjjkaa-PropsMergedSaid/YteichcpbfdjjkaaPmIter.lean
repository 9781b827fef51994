/-
  DERIVED: THE SHELF's CONTRACTS AT THIS DUMP, IN PLAIN WORDS (tools/lay-plain.mjs out of 'YteichcpbfdjjkaaIterSrc.lean', which tools/lay-shelf.mjs wrote): THE SAME DECLARATIONS UNDER THE SAME NAMES: 'import', 'namespace', 'open', 'def', 'theorem' AND NOTHING ELSE: no command of the shelf's: FOR A HAND-IN. Each laying: the table of numbers ('.._ren') and one theorem, a field a fact of the dump's own or the kernel's comparison; each contract: ONE APPLICATION.
-/
import Derived.Shelf.SlIter.Nil
import Derived.Shelf.SortM.Plain
import Derived.Shelf.SortM.SortNone
import Derived.Ground.GgzProg
import Derived.Ground.SlgmProg
import Derived.Test.YteichcpbfdjjkaaProg
namespace Go.Proofs
open Go.Shelf

def Try.keys10_ren : Go.Shelf.Ren := ⟨fun | 7 => 10 | 10 => 25 | n => n, fun | 23 => 34 | 26 => 9 | 3 => 4 | 28 => 43 | 0 => 0 | 27 => 42 | 33 => 60 | 4 => 4 | n => n, fun | n => n⟩
theorem Try.keys10 : Go.Proofs.SlLaysZ.n7 Try.prog Try.keys10_ren := {
  mixed := by kernel_rfl
  f7 := ⟨Try.f10.name, by decide, Try.func10.trans (congrArg some (by kernel_rfl))⟩
  f10 := ⟨Try.f25.name, by decide, Try.func25.trans (congrArg some (by kernel_rfl))⟩
  t0 := Try.underlying0
  a0 := Try.isAgg0
  z0 := Try.sizeOf0
  v0 := Try.zeroValue0
  t4 := Try.underlying4
  a4 := Try.isAgg4
  z4 := Try.sizeOf4
  v4 := Try.zeroValue4
  t23 := Try.underlying34
  a23 := Try.isAgg34
  z23 := Try.sizeOf34
  v23 := Try.zeroValue34
  t26 := Try.underlying9
  a26 := Try.isAgg9
  z26 := Try.sizeOf9
  v26 := Try.zeroValue9
  t27 := Try.underlying42
  a27 := Try.isAgg42
  z27 := Try.sizeOf42
  v27 := Try.zeroValue42
  t28 := Try.underlying43
  a28 := Try.isAgg43
  z28 := Try.sizeOf43
  v28 := Try.zeroValue43
  t33 := Try.underlying60
  a33 := Try.isAgg60
  z33 := Try.sizeOf60
  v33 := Try.zeroValue60 }
def Try.sorted9_ren : Go.Shelf.Ren := ⟨fun | 6 => 9 | 8 => 23 | 9 => 24 | 11 => 40 | 13 => 42 | 12 => 41 | 23 => 61 | 24 => 62 | 14 => 52 | 15 => 53 | 16 => 54 | 17 => 55 | 18 => 56 | 19 => 57 | 20 => 58 | 21 => 59 | 22 => 60 | 25 => 68 | 26 => 69 | 27 => 70 | 28 => 71 | 29 => 72 | 30 => 50 | 31 => 79 | n => n, fun | 26 => 9 | 28 => 43 | 24 => 26 | 0 => 0 | 3 => 3 | 37 => 76 | 48 => 92 | 50 => 94 | 4 => 4 | 40 => 86 | 39 => 85 | 45 => 57 | 5 => 5 | 9 => 9 | 51 => 98 | 55 => 102 | 57 => 112 | 58 => 113 | 33 => 60 | n => n, fun | n => n⟩
theorem Try.sorted9 : Go.Proofs.SlLaysZ.n6 Try.prog Try.sorted9_ren := {
  mixed := by kernel_rfl
  f6 := ⟨Try.f9.name, by decide, Try.func9.trans (congrArg some (by kernel_rfl))⟩
  f8 := ⟨Try.f23.name, by decide, Try.func23.trans (congrArg some (by kernel_rfl))⟩
  f11 := ⟨Try.f40.name, by decide, Try.func40.trans (congrArg some (by kernel_rfl))⟩
  t0 := Try.underlying0
  a0 := Try.isAgg0
  z0 := Try.sizeOf0
  v0 := Try.zeroValue0
  t24 := Try.underlying26
  a24 := Try.isAgg26
  z24 := Try.sizeOf26
  v24 := Try.zeroValue26
  t26 := Try.underlying9
  a26 := Try.isAgg9
  z26 := Try.sizeOf9
  v26 := Try.zeroValue9
  t28 := Try.underlying43
  a28 := Try.isAgg43
  z28 := Try.sizeOf43
  v28 := Try.zeroValue43
  i26 := by kernel_rfl }
def Try.sort24_ren : Go.Shelf.Ren := ⟨fun | 6 => 24 | 8 => 42 | 9 => 41 | 19 => 61 | 20 => 62 | 21 => 52 | 22 => 53 | 23 => 54 | 24 => 55 | 25 => 56 | 26 => 57 | 27 => 58 | 28 => 59 | 29 => 60 | 36 => 68 | 31 => 69 | 32 => 70 | 37 => 71 | 38 => 72 | 39 => 50 | 41 => 79 | n => n, fun | 27 => 26 | 29 => 9 | 3 => 3 | 32 => 76 | 26 => 26 | 0 => 0 | 44 => 92 | 46 => 94 | 4 => 4 | 36 => 86 | 35 => 85 | 41 => 57 | 5 => 5 | 9 => 9 | 53 => 98 | 57 => 102 | 63 => 112 | 64 => 113 | n => n, fun | n => n⟩
theorem Try.sort24 : Go.Proofs.SlLaysM.n6 Try.prog Try.sort24_ren := {
  mixed := by kernel_rfl
  f6 := ⟨Try.f24.name, by decide, Try.func24.trans (congrArg some (by kernel_rfl))⟩
  f8 := Try.func42.trans (congrArg some (by kernel_rfl))
  f9 := ⟨Try.f41.name, by decide, Try.func41.trans (congrArg some (by kernel_rfl))⟩
  f19 := Try.func61.trans (congrArg some (by kernel_rfl))
  f20 := Try.func62.trans (congrArg some (by kernel_rfl))
  f21 := ⟨Try.f52.name, by decide, Try.func52.trans (congrArg some (by kernel_rfl))⟩
  f22 := ⟨Try.f53.name, by decide, Try.func53.trans (congrArg some (by kernel_rfl))⟩
  f23 := ⟨Try.f54.name, by decide, Try.func54.trans (congrArg some (by kernel_rfl))⟩
  f24 := ⟨Try.f55.name, by decide, Try.func55.trans (congrArg some (by kernel_rfl))⟩
  f25 := ⟨Try.f56.name, by decide, Try.func56.trans (congrArg some (by kernel_rfl))⟩
  f26 := ⟨Try.f57.name, by decide, Try.func57.trans (congrArg some (by kernel_rfl))⟩
  f27 := ⟨Try.f58.name, by decide, Try.func58.trans (congrArg some (by kernel_rfl))⟩
  f28 := ⟨Try.f59.name, by decide, Try.func59.trans (congrArg some (by kernel_rfl))⟩
  f29 := ⟨Try.f60.name, by decide, Try.func60.trans (congrArg some (by kernel_rfl))⟩
  f31 := Try.func69.trans (congrArg some (by kernel_rfl))
  f32 := Try.func70.trans (congrArg some (by kernel_rfl))
  f36 := ⟨Try.f68.name, by decide, Try.func68.trans (congrArg some (by kernel_rfl))⟩
  f37 := ⟨Try.f71.name, by decide, Try.func71.trans (congrArg some (by kernel_rfl))⟩
  f38 := ⟨Try.f72.name, by decide, Try.func72.trans (congrArg some (by kernel_rfl))⟩
  f39 := ⟨Try.f50.name, by decide, Try.func50.trans (congrArg some (by kernel_rfl))⟩
  f41 := ⟨Try.f79.name, by decide, Try.func79.trans (congrArg some (by kernel_rfl))⟩
  t0 := Try.underlying0
  a0 := Try.isAgg0
  z0 := Try.sizeOf0
  v0 := Try.zeroValue0
  t3 := Try.underlying3
  a3 := Try.isAgg3
  z3 := Try.sizeOf3
  v3 := Try.zeroValue3
  t4 := Try.underlying4
  a4 := Try.isAgg4
  z4 := Try.sizeOf4
  v4 := Try.zeroValue4
  t5 := Try.underlying5
  a5 := Try.isAgg5
  z5 := Try.sizeOf5
  v5 := Try.zeroValue5
  t9 := Try.underlying9
  a9 := Try.isAgg9
  z9 := Try.sizeOf9
  v9 := Try.zeroValue9
  t26 := Try.underlying26
  a26 := Try.isAgg26
  z26 := Try.sizeOf26
  v26 := Try.zeroValue26
  t27 := Try.underlying26
  a27 := Try.isAgg26
  z27 := Try.sizeOf26
  v27 := Try.zeroValue26
  t29 := Try.underlying9
  a29 := Try.isAgg9
  z29 := Try.sizeOf9
  v29 := Try.zeroValue9
  t32 := Try.underlying76
  a32 := Try.isAgg76
  z32 := Try.sizeOf76
  v32 := Try.zeroValue76
  t35 := Try.underlying85
  a35 := Try.isAgg85
  z35 := Try.sizeOf85
  v35 := Try.zeroValue85
  t36 := Try.underlying86
  a36 := Try.isAgg86
  z36 := Try.sizeOf86
  v36 := Try.zeroValue86
  t41 := Try.underlying57
  a41 := Try.isAgg57
  z41 := Try.sizeOf57
  v41 := Try.zeroValue57
  t44 := Try.underlying92
  a44 := Try.isAgg92
  z44 := Try.sizeOf92
  v44 := Try.zeroValue92
  t46 := Try.underlying94
  a46 := Try.isAgg94
  z46 := Try.sizeOf94
  v46 := Try.zeroValue94
  t53 := Try.underlying98
  a53 := Try.isAgg98
  z53 := Try.sizeOf98
  v53 := Try.zeroValue98
  t57 := Try.underlying102
  a57 := Try.isAgg102
  z57 := Try.sizeOf102
  v57 := Try.zeroValue102
  t63 := Try.underlying112
  a63 := Try.isAgg112
  z63 := Try.sizeOf112
  v63 := Try.zeroValue112
  t64 := Try.underlying113
  a64 := Try.isAgg113
  z64 := Try.sizeOf113
  v64 := Try.zeroValue113 }
open Go.RowKit Go.Maps Go.Sort in
theorem Try.sorts9 (m : Nat) : AnyZ.SortsIn Try.prog Try.sorted9_ren Fence.wide m :=
  ⟨fun blk off cap ss W hH hblk hsz => callsIn_wide.2 (AnyM.slices_Sort_string Try.sort24 blk off cap ss W hH hblk hsz),
   fun p cap W => callsIn_wide.2 (AnyM.slices_Sort_string_none Try.sort24 p cap W)⟩
open Go.RowKit Go.Maps Go.Sort in
theorem Try.maps_Keys_10 (mb : Option Nat) (W : World) : CallsIn Fence.wide 5 Try.prog 10 #[.map mb] W fun e w' => e = .returned (.func (.func 25) #[] #[.pointer (some ⟨W.heap.size, 0, none⟩)]) ∧ w' = W.alloc (.cells #[.map mb] 34) :=
  AnyZ.keys_in Try.keys10 Fence.wide 5 trivial rfl mb W
open Go.RowKit Go.Maps Go.Sort in
theorem Try.slices_Sorted_keys_9_10 {H : Type} (b nn : Nat) (D0 : DataW H) (R : Value → Option (DataW H × List MemPlace)) (w : World) (hown : w.ownsMap Try.prog 9 R b nn D0) (hmax : Maps.size D0 ≤ maxLen) (hbytes : Maps.size D0 * 16 ≤ 140737488355328) :
    CallsIn Fence.wide 5 Try.prog 9 #[.func (.func 25) #[] #[.pointer (some ⟨w.heap.size, 0, none⟩)]] (w.alloc (.cells #[.map (some b)] 34)) fun e w' => ∃ (v : Value) (ss : List (List UInt8)), e = .returned v ∧ ss.Perm (strKeys D0) ∧
      w'.ownsRow (w.alloc (.cells #[.map (some b)] 34)).heap.size 9 1 v ss.length ((ss.mergeSort (fun x y => decide (x ≤ y))).map encStr) ∧ (v = .slice none 0 0 ↔ ss = []) ∧ Below (w.alloc (.cells #[.map (some b)] 34)).heap.size (w.alloc (.cells #[.map (some b)] 34)) w' := by
  have hbl := hown.lt
  have hseq : SeqGives Fence.wide 2 Try.prog 25 #[.pointer (some ⟨w.heap.size, 0, none⟩)] encStr (fun ss => ss.Perm (strKeys D0)) (Maps.size D0) (w.alloc (.cells #[.map (some b)] 34)) :=
    AnyZ.keys_gives (ρ := Try.keys10_ren) { Try.keys10 with } Fence.wide _ trivial rfl (by omega) w.heap.size b nn D0 _ (by simp) (by simp) (by
      obtain ⟨es, clock, hb, Ft, hs, hD⟩ := hown
      exact ⟨es, clock, (Below.heap_alloc _ _ b hbl).trans hb, Ft, hs, hD⟩)
  exact AnyZ.sorted_in Try.sorted9 Fence.wide 5 trivial trivial trivial trivial rfl (by omega) (Try.sorts9 _) (enters_of Try.func24 (by kernel_rfl) rfl) 25 #[.pointer (some ⟨w.heap.size, 0, none⟩)] trivial (enters_of Try.func25 (by kernel_rfl) rfl) _ _ hmax hbytes _ hseq
open Go.RowKit Go.Maps Go.Sort in
theorem Try.slices_Sorted_keys_nil_9_10 (w : World) :
    CallsIn Fence.wide 5 Try.prog 9 #[.func (.func 25) #[] #[.pointer (some ⟨w.heap.size, 0, none⟩)]] (w.alloc (.cells #[.map none] 34)) fun e w' => ∃ (v : Value) (ss : List (List UInt8)), e = .returned v ∧ ss = [] ∧
      w'.ownsRow (w.alloc (.cells #[.map none] 34)).heap.size 9 1 v ss.length ((ss.mergeSort (fun x y => decide (x ≤ y))).map encStr) ∧ (v = .slice none 0 0 ↔ ss = []) ∧ Below (w.alloc (.cells #[.map none] 34)).heap.size (w.alloc (.cells #[.map none] 34)) w' := by
  have hseq : SeqGives Fence.wide 2 Try.prog 25 #[.pointer (some ⟨w.heap.size, 0, none⟩)] encStr (fun ss : List (List UInt8) => ss = []) 0 (w.alloc (.cells #[.map none] 34)) :=
    AnyZ.keys_gives_nil (ρ := Try.keys10_ren) { Try.keys10 with } Fence.wide _ trivial rfl w.heap.size _ (by simp) (by simp)
  exact AnyZ.sorted_in Try.sorted9 Fence.wide 5 trivial trivial trivial trivial rfl (by omega) (Try.sorts9 _) (enters_of Try.func24 (by kernel_rfl) rfl) 25 #[.pointer (some ⟨w.heap.size, 0, none⟩)] trivial (enters_of Try.func25 (by kernel_rfl) rfl) _ 0 (Nat.zero_le _) (by omega) _ hseq
end Go.Proofs
