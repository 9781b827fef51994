/-
  DERIVED. The outline of a block, read and grafted into the empty base, in plain Lean. Conditions: a base without error. By an AI agent.
-/
import Derived.Test.YtmkicfjcgbfaaaaGreatDoorTc35
import Derived.Test.YtmkicfjcgbfaaaaGreatDoorTc39
namespace Go.Proofs.YtmkicfjcgbfaaaaGreatDoor
open Go.RowKit

theorem steps_app : ∀ {A B : List (Nat × ByteArray)} {m last : Int}, (∀ x ∈ A, m ≤ (x.1 : Int)) → m ≤ last → Steps last A → (∀ last', m ≤ last' → Steps last' B) → Steps last (A ++ B)
  | [], _, _, last, _, hl, _, hB => hB last hl
  | a :: _, _, _, _, hm, _, ⟨h1, h2⟩, hB => ⟨h1, steps_app (fun x hx => hm x (by simp [hx])) (hm a (by simp)) h2 hB⟩
section
variable {l : List Bl} {f : Int → Option Int}
theorem dOf_dp (G : Good l f) {k : Int} {n : Nat} (h : Dp l k n) : dOf f k = n := by
  have e : f k = some (n : Int) := (G.dep _ _).2 ⟨_, rfl, h⟩
  unfold dOf
  rw [e]; exact Int.toNat_natCast _
/-- the line of a block below one at depth d -/
def lnO (l : List Bl) (f : Int → Option Int) (d : Nat) (k : Int) : Nat × ByteArray := (dOf f k - (d + 1), (blkAt l k).text)
theorem steps_ord (G : Good l f) (d : Nat) : ∀ (n : Nat) {x : Int} {dx : Nat}, Dp l x dx → d ≤ dx → ∀ last : Int, (dx : Int) - d - 1 ≤ last → Steps last ((ord l n x).map (lnO l f d))
  | 0, _, _, _, _, _, _ => trivial
  | n + 1, x, dx, hx, hd, last, hl => by
    obtain ⟨b, hb, rfl⟩ := hx.mem G.kids
    rw [ord_blk G.kids n hb]
    have key : ∀ ks : List Int, (∀ k ∈ ks, k ∈ b.kids) → ∀ last : Int, (dx : Int) - d - 1 ≤ last → Steps last ((ks.flatMap fun k => k :: ord l n k).map (lnO l f d)) := by
      intro ks
      induction ks with
      | nil => intro _ _ _; exact trivial
      | cons k ks ih =>
        intro hks last hl
        rw [List.flatMap_cons, List.map_append]
        have hdk : Dp l k (dx + 1) := .step b dx k hx hb (hks k (by simp))
        refine steps_app (m := (dx : Int) - d - 1) (fun y hy => ?_) hl ?_ (ih fun k' hk' => hks k' (by simp [hk']))
        · obtain ⟨z, hz, rfl⟩ := List.mem_map.1 hy
          have hzd : ∃ j, Dp l z (dx + 1 + j) := by
            rcases List.mem_cons.1 hz with rfl | hz
            · exact ⟨0, hdk⟩
            · obtain ⟨j, h1, _⟩ := ord_mem G.kids n hdk hz
              exact ⟨j + 1, h1⟩
          obtain ⟨j, hj⟩ := hzd
          show _ ≤ ((dOf f z - (d + 1) : Nat) : Int)
          rw [dOf_dp G hj]
          omega
        · rw [List.map_cons]
          refine ⟨?_, ?_⟩
          · show ((dOf f k - (d + 1) : Nat) : Int) ≤ _
            rw [dOf_dp G hdk]
            omega
          · refine steps_ord G d n hdk (by omega) _ ?_
            show _ ≤ ((dOf f k - (d + 1) : Nat) : Int)
            rw [dOf_dp G hdk]
            omega
    exact key b.kids (fun k hk => hk) last hl
theorem no_lf {t : ByteArray} (h : txErr t = 0) : ∀ b ∈ t.data.toList, b ≠ 10 := fun b hb e => by
  unfold txErr at h
  have hc : ctl t = true := by
    unfold ctl
    exact List.any_eq_true.2 ⟨b, hb, by rw [e]; decide⟩
  by_cases h1 : 2000 < t.size
  · rw [if_pos h1] at h; omega
  · rw [if_neg h1, if_pos hc] at h; omega
/-- the lines of the outline of a block -/
abbrev lnsO (l : List Bl) (f : Int → Option Int) (d : Nat) (id : Int) : List (Nat × ByteArray) := (ord l (41 - d) id).map (lnO l f d)
theorem lnsO_txt (G : Good l f) {d : Nat} {id : Int} (hd : Dp l id d) : ∀ x ∈ lnsO l f d id, txErr x.2 = 0 := fun x hx => by
  obtain ⟨k, hk, rfl⟩ := List.mem_map.1 hx
  obtain ⟨j, h1, _⟩ := ord_mem G.kids _ hd hk
  obtain ⟨b, hb, rfl⟩ := h1.mem G.kids
  show txErr (blkAt l b.id).text = 0
  rw [(blkAt_mem G.kids hb).1]
  exact (G.tree.loc b hb).1
theorem lnsO_read (G : Good l f) {d : Nat} {id : Int} (hd : Dp l id d) : olR (catA (olS l f d (ord l (41 - d) id))) = some ((lnsO l f d id).map fun x => (x.1, x.2.data.toList)) := by
  have h := rd_lines (lnsO l f d id) (-1) (steps_ord G d _ hd (Nat.le_refl _) _ (by omega)) fun x hx => no_lf (lnsO_txt G hd x hx)
  rw [← h]
  unfold olR
  congr 1
  show (Lib.join ((olS l f d (ord l (41 - d) id)).map (·.data.toList)) []).toArray.toList = _
  rw [List.toList_toArray, join_flat]
  congr 1
  unfold olS
  rw [List.map_map, List.map_map]; rfl
theorem lnsO_few (G : Good l f) {d : Nat} {id : Int} (hd : Dp l id d) : (lnsO l f d id).length ≤ 2000 := by
  rw [List.length_map]
  have := ord_short G.kids (41 - d) hd
  have := G.kids.short
  omega
end
/-- lines as they are grafted -/
def lnI (ls : List (Nat × ByteArray)) : List (Int × ByteArray) := ls.map fun x => ((x.1 : Int), x.2)
def lnR (ls : List (Nat × ByteArray)) : List Ln := ls.map fun x => (x.1, x.2.data.toList)
theorem lnT_back (x : Nat × ByteArray) : lnT (x.1, x.2.data.toList) = x.2 := by
  unfold lnT
  apply ByteArray.ext
  simp
theorem flat_lines : ∀ ls : List (Nat × ByteArray), flatL (lnR ls) = (lnI ls).flatMap lnV
  | [] => rfl
  | x :: ls => by
    show oLnV (x.1, x.2.data.toList) ++ flatL (lnR ls) = _
    rw [flat_lines ls]
    unfold oLnV
    rw [lnT_back]; rfl
theorem first_zero : ∀ {ls : List (Nat × ByteArray)}, (∀ x ∈ ls, txErr x.2 = 0) → firstE (lnR ls) = 0
  | [], _ => rfl
  | x :: ls, h => by
    show (if chkE (lnT (x.1, x.2.data.toList)) = 0 then firstE (lnR ls) else _) = 0
    rw [lnT_back, if_pos (show chkE x.2 = 0 from h x (by simp))]
    exact first_zero fun y hy => h y (by simp [hy])
theorem steps_at : ∀ {ls : List (Nat × ByteArray)} {last : Int} {k : Nat} {x : Nat × ByteArray}, Steps last ls → ls[k]? = some x → (x.1 : Int) ≤ (if k = 0 then last else ((lnI ls).getD (k - 1) (0, ⟨#[]⟩)).1) + 1
  | [], _, _, _, _, h => by simp at h
  | a :: ls, last, 0, x, ⟨h1, _⟩, h => by
    obtain rfl : a = x := by simpa using h
    simpa using h1
  | a :: ls, last, k + 1, x, ⟨_, h2⟩, h => by
    have ih := steps_at (k := k) h2 (by simpa using h)
    rw [if_neg (by omega)]
    cases k with
    | zero => simpa [lnI] using ih
    | succ k =>
      rw [if_neg (by omega)] at ih
      simpa [lnI] using ih
theorem lines_of {l : List Bl} {f : Int → Option Int} (G : Good l f) {d : Nat} {id : Int} (hd : Dp l id d) : Lines (lnI (lnsO l f d id)) where
  few := by
    unfold lnI
    rw [List.length_map]
    exact lnsO_few G hd
  steps k x _ hx := by
    unfold lnI at hx
    rw [List.getElem?_map, Option.map_eq_some_iff] at hx
    obtain ⟨y, hy, rfl⟩ := hx
    exact ⟨Int.natCast_nonneg _, steps_at (steps_ord G d _ hd (Nat.le_refl _) (-1) (by omega)) hy⟩
  txt x hx := by
    unfold lnI at hx
    obtain ⟨y, hy, rfl⟩ := List.mem_map.1 hx
    exact lnsO_txt G hd y hy
/-- the grafted base has the same outline -/
theorem crI_back {ls : List (Nat × ByteArray)} {L : List Bl} {g : Int → Nat} (I : CrI (lnI ls) (lnI ls).length L g) {f : Int → Option Int} (G : Good L f) : olS L f 0 (ord L 41 0) = ls.map fun x => olB x.1 x.2 := by
  have hl : (lnI ls).length = ls.length := List.length_map ..
  unfold olS
  rw [I.ord, List.map_map, hl]
  refine List.ext_getElem? fun i => ?_
  rcases Nat.lt_or_ge i ls.length with h | h
  · rw [List.getElem?_map, List.getElem?_map, List.getElem?_range h, List.getElem?_eq_getElem h]
    have hx : (lnI ls)[i]? = some (((ls[i]).1 : Int), (ls[i]).2) := by
      unfold lnI
      rw [List.getElem?_map, List.getElem?_eq_getElem h]; rfl
    obtain ⟨h1, b, hb, hbi, hbt⟩ := I.txt i _ (by rw [hl]; exact h) hx
    have h2 := I.tree.depth G.dep hb
    rw [hbi] at h2
    have h3 : dOf f ((i : Int) + 1) = g ((i : Int) + 1) := by
      unfold dOf
      rw [h2]; exact Int.toNat_natCast _
    have h4 := (blkAt_mem G.kids hb).1
    rw [hbi] at h4
    show some (olB (dOf f ((i : Int) + 1) - (0 + 1)) (blkAt L ((i : Int) + 1)).text) = some (olB (ls[i]).1 (ls[i]).2)
    rw [h3, h4, hbt]
    congr 2
    dsimp only at h1
    omega
  · rw [List.getElem?_eq_none (by rw [List.length_map, List.length_range]; exact h), List.getElem?_eq_none (by rw [List.length_map]; exact h)]
end Go.Proofs.YtmkicfjcgbfaaaaGreatDoor
