/-
  DERIVED. An operation without error and its inverse lead back, in plain Lean. Conditions: a base without error.
  What the reference's setProp makes, property by property, is setPr. Conditions: the properties rise by their names.
  The inverse of an operation has no error behind it and leads back, in plain Lean. Conditions: a base without error.
  By an AI agent.
-/
import Derived.Test.YtmkicfjcgbfaaaaGreatTa15
import Derived.Test.YtmkicfjcgbfaaaaGreatTb02
import Derived.Test.YtmkicfjcgbfaaaaGreatTa09
import Derived.Test.YtmkicfjcgbfaaaaGreatTa18
namespace Go.Proofs.YtmkicfjcgbfaaaaGreat
open Go.RowKit

/-! ### pieces -/
theorem bld_ext (s : ByteArray) (a b : Nat) : (s.extract a b).data.toList = (s.data.toList.drop a).take (b - a) := by
  rw [ByteArray.data_extract, Array.toList_extract]
theorem bld_app (a b : ByteArray) : (a ++ b).data.toList = a.data.toList ++ b.data.toList := by rw [ByteArray.data_append, Array.toList_append]
theorem bld_len (s : ByteArray) : s.data.toList.length = s.size := by rw [Array.length_toList]; rfl
theorem bld_eq {a b : ByteArray} (h : a.data.toList = b.data.toList) : a = b := by
  cases a; cases b
  simp only at h
  congr
  exact Array.toList_inj.1 h
/-- an edit taken back -/
theorem ed_back {s x : ByteArray} {f t : Nat} (h1 : f ≤ t) (h2 : t ≤ s.size) : edS (edS s x f t) (s.extract f t) f ((f : Int) + x.size) = s := by
  unfold edS
  apply bld_eq
  simp only [Int.toNat_natCast]
  have e : ((f : Int) + (x.size : Int)).toNat = f + x.size := by omega
  rw [e, bld_app, bld_app, bld_ext, bld_ext, bld_ext, bld_app, bld_app, bld_ext, bld_ext]
  have hs := bld_len s
  have lf : ((s.data.toList.drop 0).take (f - 0)).length = f := by rw [List.drop_zero, List.length_take]; omega
  have lx := bld_len x
  simp only [List.drop_zero, Nat.sub_zero] at lf ⊢
  generalize hA : s.data.toList.take f = A at *
  have l1 : (A ++ x.data.toList ++ (s.data.toList.drop t).take (s.size - t)).take f = A := by
    rw [List.append_assoc, ← lf, List.take_left]
  have l2 : (A ++ x.data.toList ++ (s.data.toList.drop t).take (s.size - t)).drop (f + x.size) = (s.data.toList.drop t).take (s.size - t) := by
    rw [show f + x.size = (A ++ x.data.toList).length by rw [List.length_append, lf, lx], List.drop_left]
  rw [l1, l2]
  rw [List.take_of_length_le (l := s.data.toList.drop t) (by rw [List.length_drop, bld_len]; exact Nat.le_refl _)]
  have hsz2 : (s.extract 0 f ++ x ++ s.extract t s.size).size = f + x.size + (s.size - t) := by
    rw [ByteArray.size_append, ByteArray.size_append, ByteArray.size_extract, ByteArray.size_extract]; omega
  have hd : (s.data.toList.drop t).length = s.size - t := by rw [List.length_drop, hs]
  rw [hsz2, show f + x.size + (s.size - t) - (f + x.size) = s.size - t by omega, List.take_of_length_le (l := s.data.toList.drop t) (by omega), ← hA]
  have e3 : (s.data.toList.drop f).take (t - f) ++ s.data.toList.drop t = s.data.toList.drop f := by
    conv => rhs; rw [← List.take_append_drop (t - f) (s.data.toList.drop f), List.drop_drop, show f + (t - f) = t by omega]
  rw [List.append_assoc, e3, List.take_append_drop]
theorem less_plus {ks : List Int} {i : Nat} {id : Int} (hn : id ∉ ks) : lessK (plusK ks i id) id = ks := by
  unfold lessK plusK
  rw [List.filter_append, List.filter_cons, if_neg (by simp), ← List.filter_append, List.take_append_drop]
  exact less_same hn
theorem less_plus2 {ks : List Int} {i : Nat} {id : Int} : lessK (plusK (lessK ks id) i id) id = lessK ks id := less_plus fun h => ((less_mem _ _ _).1 h).2 rfl
/-- a number taken out and put back where it was -/
theorem plus_less {ks : List Int} (hn : ks.Nodup) {id : Int} (h : id ∈ ks) : plusK (lessK ks id) (ixOf ks id).toNat id = ks ∧ 0 ≤ ixOf ks id ∧ (ixOf ks id).toNat ≤ (lessK ks id).length ∧ (lessK ks id).length + 1 = ks.length := by
  rcases ixOf_spec ks id with ⟨_, hb⟩ | ⟨i, hi, hai, hat⟩
  · exact absurd h hb
  obtain ⟨hil, e⟩ := List.getElem?_eq_some_iff.1 hai
  have hsp : ks = ks.take i ++ id :: ks.drop (i + 1) := by
    conv => lhs; rw [← List.take_append_drop i ks, List.drop_eq_getElem_cons hil, e]
  have hnd : id ∉ ks.drop (i + 1) := by
    rw [hsp] at hn
    exact (List.nodup_cons.1 (List.nodup_append.1 hn).2.1).1
  have hl : lessK ks id = ks.take i ++ ks.drop (i + 1) := by
    conv => lhs; rw [hsp]
    unfold lessK
    rw [List.filter_append, List.filter_cons, if_neg (by simp)]
    have a1 := less_same hat
    have a2 := less_same hnd
    unfold lessK at a1 a2
    rw [a1, a2]
  have hti : (ks.take i).length = i := by rw [List.length_take]; omega
  have hlen : (lessK ks id).length + 1 = ks.length := by
    rw [hl, List.length_append, hti, List.length_drop]; omega
  refine ⟨?_, by omega, by rw [hi, Int.toNat_natCast]; omega, hlen⟩
  rw [hi, Int.toNat_natCast, hl]
  unfold plusK
  rw [List.take_append_of_le_length (by omega), List.take_of_length_le (by omega), List.drop_append_of_le_length (by omega), List.drop_of_length_le (by omega), List.nil_append]
  exact hsp.symm
theorem upd_upd {l : List Bl} {p : Int} {h k : Bl → Bl} (hh : ∀ b, (h b).id = b.id) : upd (upd l p h) p k = upd l p fun b => k (h b) := by
  unfold upd
  rw [List.map_map]
  refine List.map_congr_left fun b _ => ?_
  simp only [Function.comp]
  by_cases e : b.id = p
  · rw [if_pos e, if_pos e, if_pos ((hh b).trans e)]
  · rw [if_neg e, if_neg e, if_neg e]
theorem upd_id {l : List Bl} {p : Int} {h : Bl → Bl} (hh : ∀ b ∈ l, b.id = p → h b = b) : upd l p h = l := by
  unfold upd
  conv => rhs; rw [← List.map_id l]
  refine List.map_congr_left fun b hb => ?_
  split
  · rename_i e; exact hh b hb e
  · rfl
theorem upd_filter {l : List Bl} {p id : Int} {h : Bl → Bl} (hh : ∀ b, (h b).id = b.id) : upd (l.filter fun b => b.id != id) p h = (upd l p h).filter fun b => b.id != id := by
  unfold upd
  rw [List.filter_map]
  congr 1
  refine List.filter_congr fun b _ => ?_
  simp only [Function.comp]
  split
  · rw [hh]
  · rfl
theorem filter_insB {x : Bl} : ∀ {l : List Bl}, (∀ y ∈ l, y.id ≠ x.id) → ((insB x l).filter fun b => b.id != x.id) = l
  | [], _ => by simp [insB]
  | y :: l, h => by
    have hy := h y (by simp)
    have hl : ∀ z ∈ l, z.id ≠ x.id := fun z hz => h z (by simp [hz])
    rw [insB]
    split
    · rw [List.filter_cons, if_pos (by simpa using hy), filter_insB hl]
    · rw [List.filter_cons, if_neg (by simp), List.filter_eq_self.2]
      intro z hz
      simpa using h z hz
theorem insB_filter {x : Bl} : ∀ {l : List Bl}, l.Pairwise (fun x y => x.id < y.id) → x ∈ l → insB x (l.filter fun b => b.id != x.id) = l
  | y :: l, hs, h => by
    obtain ⟨h1, h2⟩ := List.pairwise_cons.1 hs
    rcases List.mem_cons.1 h with rfl | h
    · rw [List.filter_cons, if_neg (by simp), List.filter_eq_self.2 (fun z hz => by have := h1 z hz; simp; omega)]
      cases l with
      | nil => rfl
      | cons z l => rw [insB, if_neg (by have := h1 z (by simp); omega)]
    · have := h1 x h
      rw [List.filter_cons, if_pos (by simp; omega), insB, if_pos this, insB_filter h2 h]
section
variable {l : List Bl} {f : Int → Option Int}
theorem Good.pos (G : Good l f) {x : Bl} (hx : x ∈ l) (h0 : x.id ≠ 0) : ∃ k : Nat, 1 ≤ k ∧ posOf l x.id = (k : Int) ∧ blkAt l x.id = x := by
  obtain ⟨k, hk⟩ := List.mem_iff_getElem?.1 hx
  have hp := posOf_of G.kids.rise hk
  obtain ⟨r, hr, hr0, _⟩ := G.kids.root
  refine ⟨k, ?_, hp, blkAt_of hp hk⟩
  rcases k with _ | k
  · rw [hr] at hk
    obtain rfl := Option.some.inj hk
    exact absurd hr0 h0
  · omega
theorem Good.pos0 (G : Good l f) {x : Bl} (hx : x ∈ l) : ∃ k : Nat, posOf l x.id = (k : Int) ∧ blkAt l x.id = x := by
  obtain ⟨k, hk⟩ := List.mem_iff_getElem?.1 hx
  have hp := posOf_of G.kids.rise hk
  exact ⟨k, hp, blkAt_of hp hk⟩
theorem pos_none {id : Int} (h : ∀ b ∈ l, b.id ≠ id) : posOf l id = -1 := by
  rcases posOf_spec l id with ⟨h1, _⟩ | ⟨i, b, _, h2, h3, _⟩
  · exact h1
  · exact absurd h3 (h b (List.mem_of_getElem? h2))
theorem Good.uniq {f' : Int → Option Int} (G : Good l f) (G' : Good l f') : f = f' := by
  funext x
  cases h : f x with
  | some d => exact ((G'.dep _ _).2 ((G.dep _ _).1 h)).symm
  | none =>
    cases h' : f' x with
    | none => rfl
    | some d => rw [(G.dep _ _).2 ((G'.dep _ _).1 h')] at h; cases h
end
end Go.Proofs.YtmkicfjcgbfaaaaGreat
namespace Go.Proofs.YtmkicfjcgbfaaaaGreat
open Go.RowKit

/-- one round of the reference's setProp -/
def spF (s : ByteArray) (v : Vl) (a : List Pr × Bool) (p : Pr) : List Pr × Bool :=
  ((if a.2 = false ∧ Op.bytesLess p.name.toList s.toList = false then a.1 ++ [⟨s, v⟩] else a.1) ++ (if p.name = s then [] else [p]), if a.2 = false ∧ Op.bytesLess p.name.toList s.toList = false then true else a.2)
/-- what stands behind some rounds -/
def spL (l : List Pr) (s : ByteArray) (v : Vl) : List Pr × Bool := l.foldl (spF s v) ([], v.kind == 0)
theorem spL_snoc {l : List Pr} {s : ByteArray} {v : Vl} {k : Nat} {p : Pr} (h : l[k]? = some p) : spL (l.take (k + 1)) s v = spF s v (spL (l.take k) s v) p := by
  unfold spL
  rw [List.take_add_one, h]
  show ((l.take k ++ [p]).foldl _ _) = _
  rw [List.foldl_append]; rfl
theorem spF_len (s : ByteArray) (v : Vl) (a : List Pr × Bool) (p : Pr) : (spF s v a p).1.length ≤ a.1.length + 2 := by
  unfold spF
  rw [List.length_append]
  split <;> split <;> simp
theorem spL_len (l : List Pr) (s : ByteArray) (v : Vl) (k : Nat) : (spL (l.take k) s v).1.length ≤ 2 * k := by
  induction k with
  | zero => simp [spL]
  | succ k ih =>
    cases h : l[k]? with
    | none =>
      have : l.take (k + 1) = l.take k := by rw [List.take_add_one, h]; simp
      rw [this]; omega
    | some p =>
      rw [spL_snoc h]
      have := spF_len s v (spL (l.take k) s v) p
      omega
theorem sp_true (s : ByteArray) (v : Vl) : ∀ (l : List Pr) (acc : List Pr), l.foldl (spF s v) (acc, true) = (acc ++ l.filter (fun p => !decide (p.name = s)), true)
  | [], acc => by simp
  | p :: l, acc => by
    rw [List.foldl_cons]
    have : spF s v (acc, true) p = (acc ++ (if p.name = s then [] else [p]), true) := by simp [spF]
    rw [this, sp_true s v l, List.append_assoc]
    by_cases h : p.name = s
    · simp [h]
    · simp [h]
theorem less_or {a b : ByteArray} (h : Op.bytesLess a.toList b.toList = false) (hn : a ≠ b) : Op.bytesLess b.toList a.toList = true := less_total _ _ h fun e => hn (tl_eq e)
theorem sp_false (s : ByteArray) (v : Vl) : ∀ (l : List Pr) (acc : List Pr), (l.Pairwise fun x y => blt x.name y.name) →
    (let r := l.foldl (spF s v) (acc, false); if r.2 = false then r.1 ++ [⟨s, v⟩] else r.1) = acc ++ ((l.filter fun p => Op.bytesLess p.name.toList s.toList) ++ ⟨s, v⟩ :: l.filter fun p => Op.bytesLess s.toList p.name.toList)
  | [], acc, _ => by simp
  | p :: l, acc, hs => by
    obtain ⟨h1, h2⟩ := List.pairwise_cons.1 hs
    rw [List.foldl_cons]
    by_cases hp : Op.bytesLess p.name.toList s.toList = true
    · have hne : p.name ≠ s := fun e => by rw [e, less_irr] at hp; cases hp
      have hnl : Op.bytesLess s.toList p.name.toList = false := less_asymm _ _ hp
      have : spF s v (acc, false) p = (acc ++ [p], false) := by simp [spF, hp, hne]
      rw [this, sp_false s v l _ h2]
      simp [hp, hnl]
    · have hp : Op.bytesLess p.name.toList s.toList = false := by simpa using hp
      have : spF s v (acc, false) p = (acc ++ [⟨s, v⟩] ++ (if p.name = s then [] else [p]), true) := by simp [spF, hp]
      rw [this, sp_true]
      have hgt : ∀ x ∈ l, Op.bytesLess s.toList x.name.toList = true := fun x hx => by
        have hpx : Op.bytesLess p.name.toList x.name.toList = true := h1 x hx
        by_cases e : p.name = s
        · rw [← e]; exact hpx
        · exact less_trans _ _ _ (less_or hp e) hpx
      have f1 : l.filter (fun p => Op.bytesLess p.name.toList s.toList) = [] := List.filter_eq_nil_iff.2 fun x hx => by rw [less_asymm _ _ (hgt x hx)]; simp
      have f2 : l.filter (fun p => Op.bytesLess s.toList p.name.toList) = l := List.filter_eq_self.2 hgt
      have f3 : l.filter (fun p => !decide (p.name = s)) = l := List.filter_eq_self.2 fun x hx => by
        have : x.name ≠ s := fun e => by have := hgt x hx; rw [e, less_irr] at this; cases this
        simp [this]
      rw [f3]
      by_cases e : p.name = s
      · have hnl : Op.bytesLess s.toList p.name.toList = false := by rw [e]; exact less_irr _
        simp [f1, f2, e, less_irr]
      · simp [hp, less_or hp e, f1, f2, e]
theorem sp_eq {l : List Pr} {s : ByteArray} {v : Vl} (h : cpErr l = 0) : (if (spL l s v).2 = false then (spL l s v).1 ++ [⟨s, v⟩] else (spL l s v).1) = setPr l s v := by
  obtain ⟨_, h2, _⟩ := cp_ok h
  unfold spL setPr
  by_cases hk : v.kind = 0
  · rw [if_pos hk]
    have : (v.kind == 0) = true := by simpa using hk
    rw [this, sp_true]
    simp only [List.nil_append]
    rw [if_neg (by simp)]
    refine List.filter_congr fun x _ => ?_
    by_cases e : x.name = s
    · simp [e]
    · have e' : x.name.toList ≠ s.toList := fun h => e (tl_eq h)
      have : (x.name.toList == s.toList) = false := by simpa using e'
      simp [e, this]
  · rw [if_neg hk]
    have : (v.kind == 0) = false := by simpa using hk
    rw [this]
    have := sp_false s v l [] h2
    simpa using this
end Go.Proofs.YtmkicfjcgbfaaaaGreat
namespace Go.Proofs.YtmkicfjcgbfaaaaGreat
open Go.RowKit

theorem el0 : (⟨#[]⟩ : ByteArray).toList = [] := by rw [ByteArray.toList_eq]
theorem noV_z : noV zV = true := by
  unfold noV
  show ((0 : Int) == 0 && (0 : Int) == 0 && (0 : Int) == 0 && (⟨#[]⟩ : ByteArray).toList.isEmpty && (((0 : Nat) : Int) == 0)) = true
  rw [el0]; rfl
theorem vErr_z : vErr zV = 0 := by
  have h1 : ufB zV = true := by
    unfold ufB
    show ((hasI 0 || (0 : Int) == 0) && (((0 : Int) == 5) || (0 : Int) == 0) && (hasT 0 || (⟨#[]⟩ : ByteArray).toList.isEmpty) && (((0 : Int) == 7) || (((0 : Nat) : Int) == 0))) = true
    rw [el0]; rfl
  have h2 : ttErr false ⟨#[]⟩ = 0 := by
    unfold ttErr
    rw [if_neg (by decide), if_neg (by simp), if_neg (by decide), if_neg (by simp)]
  rw [vErr_eq, if_neg (by decide), if_neg (by rw [h1]; decide), if_neg (by decide)]
  have h3 : itErr [] = 0 := by rw [itErr]
  exact (if_neg (fun e => e h2)).trans ((if_neg (show ¬ 20 < zV.items.length by decide)).trans h3)
section
variable {l : List Bl} {f : Int → Option Int}
/-- an operation that uses just what its kind uses -/
theorem opErr_kind {o : Opn} (h1 : 1 ≤ o.kind ∧ o.kind ≤ 5) (h2 : usedB o = true) : opErr l f o = if o.kind = 1 then insErr l f o else if o.kind = 3 then movErr l f o else if posOf l o.id < 1 then 7 else
  if o.kind = 2 then (if 0 < (blkAt l o.id).kids.length then 11 else 0) else if o.kind = 4 then edErr (blkAt l o.id).text o.text o.from_ o.to_ else setErr (blkAt l o.id).props o := by
  unfold opErr
  rw [if_neg (by unfold outI; rw [decide_eq_true_eq]; omega), if_neg (by rw [h2]; decide)]
theorem opErr_ins {id p at_ : Int} {s : ByteArray} : opErr l f ⟨1, id, p, at_, 0, 0, s, ⟨#[]⟩, zV⟩ = insErr l f ⟨1, id, p, at_, 0, 0, s, ⟨#[]⟩, zV⟩ := by
  rw [opErr_kind (show (1 : Int) ≤ 1 ∧ (1 : Int) ≤ 5 by decide) (by simp [usedB, noV_z]), if_pos rfl]
theorem opErr_rem {id : Int} : opErr l f ⟨2, id, 0, 0, 0, 0, ⟨#[]⟩, ⟨#[]⟩, zV⟩ = if posOf l id < 1 then 7 else if 0 < (blkAt l id).kids.length then 11 else 0 := by
  rw [opErr_kind (show (1 : Int) ≤ 2 ∧ (2 : Int) ≤ 5 by decide) (by simp [usedB, noV_z]), if_neg (show ¬ (2 : Int) = 1 by decide), if_neg (show ¬ (2 : Int) = 3 by decide), if_pos rfl]
theorem opErr_mov {id p at_ : Int} : opErr l f ⟨3, id, p, at_, 0, 0, ⟨#[]⟩, ⟨#[]⟩, zV⟩ = movErr l f ⟨3, id, p, at_, 0, 0, ⟨#[]⟩, ⟨#[]⟩, zV⟩ := by
  rw [opErr_kind (show (1 : Int) ≤ 3 ∧ (3 : Int) ≤ 5 by decide) (by simp [usedB, noV_z]), if_neg (show ¬ (3 : Int) = 1 by decide), if_pos rfl]
theorem opErr_edit {id a b : Int} {s : ByteArray} : opErr l f ⟨4, id, 0, 0, a, b, s, ⟨#[]⟩, zV⟩ = if posOf l id < 1 then 7 else edErr (blkAt l id).text s a b := by
  rw [opErr_kind (show (1 : Int) ≤ 4 ∧ (4 : Int) ≤ 5 by decide) (by simp [usedB, noV_z]), if_neg (show ¬ (4 : Int) = 1 by decide), if_neg (show ¬ (4 : Int) = 3 by decide), if_neg (show ¬ (4 : Int) = 2 by decide), if_pos rfl]
theorem opErr_set {id : Int} {s : ByteArray} {v : Vl} : opErr l f ⟨5, id, 0, 0, 0, 0, ⟨#[]⟩, s, v⟩ = if posOf l id < 1 then 7 else setErr (blkAt l id).props ⟨5, id, 0, 0, 0, 0, ⟨#[]⟩, s, v⟩ := by
  rw [opErr_kind (show (1 : Int) ≤ 5 ∧ (5 : Int) ≤ 5 by decide) (by simp [usedB]), if_neg (show ¬ (5 : Int) = 1 by decide), if_neg (show ¬ (5 : Int) = 3 by decide), if_neg (show ¬ (5 : Int) = 2 by decide), if_neg (show ¬ (5 : Int) = 4 by decide)]
/-- an insert that may be made -/
theorem insErr_ok {o : Opn} (hid : 1 ≤ o.id ∧ o.id ≤ 1000000) (hn : posOf l o.id < 0) (hp : 0 ≤ posOf l o.parent) (ha : 0 ≤ o.at_ ∧ o.at_ ≤ ((blkAt l o.parent).kids.length : Int)) (ht : txErr o.text = 0) (hl : l.length < 2000) (hk : (blkAt l o.parent).kids.length < 500) (hd : dF f o.parent < 40) : insErr l f o = 0 := by
  unfold insErr
  rw [if_neg (by omega), if_neg (by omega), if_neg (by omega), if_neg (by omega), if_neg (fun e => e ht), if_neg (by omega), if_neg (by omega)]
theorem movErr_ok {o : Opn} (h0 : o.id ≠ 0) (h1 : 0 ≤ posOf l o.id) (h2 : 0 ≤ posOf l o.parent) (hw : o.id ∉ pth l (dF f o.parent).toNat o.parent) (ha : 0 ≤ o.at_ ∧ o.at_ ≤ ((lessK (blkAt l o.parent).kids o.id).length : Int)) (hk : (lessK (blkAt l o.parent).kids o.id).length < 500) (hd : dF f o.parent + hgt l 41 o.id ≤ 40) : movErr l f o = 0 := by
  unfold movErr
  rw [if_neg (by omega), if_neg hw, if_neg (by omega), if_neg (by omega), if_neg (by omega)]
/-- a block that is moved lies not on the way to its new parent -/
theorem mov_way {o : Opn} (h : opErr l f o = 0) (hk : o.kind = 3) : o.id ∉ pth l (dF f o.parent).toNat o.parent := by
  unfold opErr at h
  by_cases h1 : outI o.kind 1 5 = true
  · rw [if_pos h1] at h; omega
  rw [if_neg h1] at h
  by_cases h2 : usedB o = false
  · rw [if_pos h2] at h; omega
  rw [if_neg h2, if_neg (by omega), if_pos hk] at h
  unfold movErr at h
  by_cases q1 : o.id = 0 ∨ posOf l o.id < 0 ∨ posOf l o.parent < 0
  · rw [if_pos q1] at h; omega
  rw [if_neg q1] at h
  intro q2
  rw [if_pos q2] at h; omega
/-- the text of an insert that may be made -/
theorem ins_text {o : Opn} (h : opErr l f o = 0) (hk : o.kind = 1) : txErr o.text = 0 := by
  unfold opErr at h
  by_cases h1 : outI o.kind 1 5 = true
  · rw [if_pos h1] at h; omega
  rw [if_neg h1] at h
  by_cases h2 : usedB o = false
  · rw [if_pos h2] at h; omega
  rw [if_neg h2, if_pos hk] at h
  unfold insErr at h
  by_cases q1 : o.id < 1 ∨ 1000000 < o.id
  · rw [if_pos q1] at h; omega
  rw [if_neg q1] at h
  by_cases q2 : 0 ≤ posOf l o.id
  · rw [if_pos q2] at h; omega
  rw [if_neg q2] at h
  by_cases q3 : posOf l o.parent < 0
  · rw [if_pos q3] at h; omega
  rw [if_neg q3] at h
  by_cases q4 : o.at_ < 0 ∨ ((blkAt l o.parent).kids.length : Int) < o.at_
  · rw [if_pos q4] at h; omega
  rw [if_neg q4] at h
  by_cases q5 : txErr o.text = 0
  · exact q5
  · rw [if_pos q5] at h; exact absurd h q5
theorem dF_dp (G : Good l f) {x : Int} {d : Nat} (h : Dp l x d) : dF f x = (d : Int) := by
  unfold dF
  rw [(G.dep _ _).2 ⟨d, rfl, h⟩]; rfl

/-! ### heights -/
theorem foldr_max_le {L : List Nat} {m : Nat} (h : ∀ x ∈ L, x ≤ m) : L.foldr max 0 ≤ m := by
  induction L with
  | nil => exact Nat.zero_le _
  | cons a L ih =>
    rw [List.foldr_cons]
    have := h a (by simp)
    have := ih fun x hx => h x (by simp [hx])
    exact Nat.max_le.2 ⟨by omega, by omega⟩
theorem hgt_low (G : Good l f) : ∀ (n : Nat) {z : Int} {d : Nat}, Dp l z d → hgt l n z + d ≤ 41
  | 0, z, d, h => by
    have := G.low h
    show 0 + d ≤ 41; omega
  | n + 1, z, d, h => by
    obtain ⟨p, b, h1, h2, h3⟩ := h.blk G.kids
    have hd := G.low h
    rw [hgt_at h1 h2]
    have hb := List.mem_of_getElem? h2
    by_cases e : b.kids = []
    · rw [e]; show 0 + 1 + d ≤ 41; omega
    · have : (b.kids.map (hgt l n)).foldr max 0 ≤ 40 - d := foldr_max_le fun x hx => by
        obtain ⟨k, hk, rfl⟩ := List.mem_map.1 hx
        have := hgt_low G n (.step b d k (h3 ▸ h) hb hk)
        omega
      omega

/-! ### a block moved: the ways and heights that stay -/
section
variable {l1 : List Bl} {f1 : Int → Option Int} {id p : Int} {i : Nat}
theorem mov_mem {c : Bl} : c ∈ movL l id p i ↔ ∃ y ∈ l, c = movB id p i y := by
  unfold movL
  rw [List.mem_map]
  exact ⟨fun ⟨y, h1, h2⟩ => ⟨y, h1, h2.symm⟩, fun ⟨y, h1, h2⟩ => ⟨y, h1, h2.symm⟩⟩
theorem mov_kids {c : Bl} {k : Int} : k ∈ (movB id p i c).kids ↔ (c.id = p ∧ k = id) ∨ (k ∈ c.kids ∧ k ≠ id) := by
  show k ∈ (if c.id = p then plusK (lessK c.kids id) i id else lessK c.kids id) ↔ _
  by_cases e : c.id = p
  · rw [if_pos e, plus_mem, less_mem]
    exact ⟨fun h => h.elim (fun h => .inl ⟨e, h⟩) .inr, fun h => h.elim (fun h => .inl h.2) .inr⟩
  · rw [if_neg e, less_mem]
    exact ⟨.inr, fun h => h.elim (fun h => absurd h.1 e) fun h => h⟩
theorem mov_par (K : Kids l) (K1 : Kids (movL l id p i)) {z : Bl} (hz : z ∈ l) (hne : z.id ≠ id) : parOf (movL l id p i) z.id = parOf l z.id := by
  have := parOf_eq K1 (y := movB id p i z) (mov_mem.2 ⟨z, hz, rfl⟩)
  rw [parOf_eq K hz]
  refine (show parOf (movL l id p i) z.id = (movB id p i z).parent from this).trans ?_
  show (if z.id = id then p else z.parent) = z.parent
  rw [if_neg hne]
/-- a way that does not lead over the moved block stays -/
theorem mov_pth (K : Kids l) (K1 : Kids (movL l id p i)) : ∀ (d : Nat) {z : Int}, Dp l z d → id ∉ pth l d z → Dp (movL l id p i) z d ∧ pth (movL l id p i) d z = pth l d z
  | 0, z, h, _ => by
    obtain rfl := (h.zero_iff K).2 rfl
    exact ⟨.root, rfl⟩
  | d + 1, z, h, hn => by
    rw [pth, List.mem_append] at hn
    have hz : z ≠ id := fun e => hn (.inr (by simp [e]))
    obtain ⟨b, hb, hbi, hk⟩ := h.kid K
    obtain ⟨y, hy, rfl⟩ := h.mem K
    obtain ⟨h1, h2⟩ := mov_pth K K1 d (h.up K).2 fun e => hn (.inl e)
    have hp := mov_par K K1 hy hz
    refine ⟨?_, by rw [pth, pth, hp, h2]⟩
    rw [← hbi] at h1
    exact .step (movB id p i b) d _ h1 (mov_mem.2 ⟨b, hb, rfl⟩) (mov_kids.2 (.inr ⟨hk, hz⟩))
/-- is a block below another one, or it -/
def Sub (l : List Bl) (id z : Int) : Prop := ∃ j d, Dp l z d ∧ j ≤ d ∧ upN l j z = id
theorem Sub.kid (K : Kids l) {b : Bl} (hb : b ∈ l) {k : Int} (hk : k ∈ b.kids) (h : Sub l id b.id) : Sub l id k := by
  obtain ⟨j, d, h1, h2, h3⟩ := h
  exact ⟨j + 1, d + 1, .step b d k h1 hb hk, by omega, by show upN l j (parOf l k) = id; rw [parOf_kid K hb hk]; exact h3⟩
theorem Sub.way (K : Kids l) {z : Int} {d : Nat} (hd : Dp l z d) (h0 : id ≠ 0) (h : Sub l id z) : id ∈ pth l d z := by
  obtain ⟨j, d', h1, h2, h3⟩ := h
  obtain rfl := h1.fun_ K hd
  rcases Nat.lt_or_ge j d' with h | h
  · exact (pth_mem _ _ _).2 ⟨j, h, h3⟩
  · obtain rfl : j = d' := by omega
    have := Dp.ups K j h1 (Nat.le_refl _)
    rw [h3, Nat.sub_self] at this
    exact absurd ((Dp.zero_iff K this).2 rfl) h0
theorem mov_hgt (K : Kids l) (K1 : Kids (movL l id p i)) (hp : ¬ Sub l id p) (hq : ∀ b ∈ l, id ∈ b.kids → ¬ Sub l id b.id) : ∀ (n : Nat) {z : Int}, Sub l id z → hgt (movL l id p i) n z = hgt l n z
  | 0, _, _ => rfl
  | n + 1, z, h => by
    have h' := h
    obtain ⟨j, d, h1, h2, h3⟩ := h'
    obtain ⟨q, b, e1, e2, e3⟩ := h1.blk K
    have hb := List.mem_of_getElem? e2
    have e4 : (movL l id p i)[q]? = some (movB id p i b) := by unfold movL; rw [List.getElem?_map, e2]; rfl
    have e5 := posOf_of K1.rise e4
    have e5 : posOf (movL l id p i) z = (q : Int) := by rw [← e3]; exact e5
    have hS : Sub l id b.id := by rw [e3]; exact h
    have hk : (movB id p i b).kids = b.kids := by
      show (if b.id = p then plusK (lessK b.kids id) i id else lessK b.kids id) = b.kids
      rw [if_neg (fun e : b.id = p => hp (by rw [← e]; exact hS)), less_same fun e => hq b hb e hS]
    rw [hgt_at e1 e2, hgt_at e5 e4, hk]
    congr 2
    exact List.map_congr_left fun k hk => mov_hgt K K1 hp hq n (hS.kid K hb hk)
end

/-! ### properties -/
theorem setPr_sorted {ps : List Pr} (h : cpErr ps = 0) (s : ByteArray) (v : Vl) : (setPr ps s v).Pairwise (fun x y => blt x.name y.name) := by
  obtain ⟨_, h2, _⟩ := cp_ok h
  unfold setPr
  split
  · exact h2.sublist List.filter_sublist
  · rw [List.pairwise_append]
    refine ⟨h2.sublist List.filter_sublist, List.pairwise_cons.2 ⟨fun y hy => (List.mem_filter.1 hy).2, h2.sublist List.filter_sublist⟩, fun x hx y hy => ?_⟩
    have hxs : blt x.name s := (List.mem_filter.1 hx).2
    rcases List.mem_cons.1 hy with rfl | hy
    · exact hxs
    · exact blt_trans hxs (List.mem_filter.1 hy).2
theorem setPr_mem {ps : List Pr} {s : ByteArray} {v : Vl} {x : Pr} : x ∈ setPr ps s v ↔ (v.kind ≠ 0 ∧ x = ⟨s, v⟩) ∨ (x ∈ ps ∧ x.name ≠ s) := by
  unfold setPr
  split
  · rename_i h
    rw [List.mem_filter]
    constructor
    · rintro ⟨a, b⟩
      exact .inr ⟨a, fun e => by rw [e, beq_self_eq_true] at b; exact absurd b (by decide)⟩
    · rintro (⟨a, _⟩ | ⟨a, b⟩)
      · exact absurd h a
      · refine ⟨a, ?_⟩
        have : (x.name.toList == s.toList) = false := by simpa using fun e => b (tl_eq e)
        rw [this]; rfl
  · rename_i h
    rw [List.mem_append, List.mem_cons, List.mem_filter, List.mem_filter]
    constructor
    · rintro (⟨a, b⟩ | rfl | ⟨a, b⟩)
      · exact .inr ⟨a, fun e => by rw [e, less_irr] at b; exact absurd b (by decide)⟩
      · exact .inl ⟨h, rfl⟩
      · exact .inr ⟨a, fun e => by rw [e, less_irr] at b; exact absurd b (by decide)⟩
    · rintro (⟨_, rfl⟩ | ⟨a, b⟩)
      · exact .inr (.inl rfl)
      · by_cases hb : Op.bytesLess x.name.toList s.toList = true
        · exact .inl ⟨a, hb⟩
        · exact .inr (.inr ⟨a, less_or (by simpa using hb) b⟩)
theorem pr_uniq {ps : List Pr} (hs : ps.Pairwise fun x y => blt x.name y.name) {x y : Pr} (hx : x ∈ ps) (hy : y ∈ ps) (e : x.name = y.name) : x = y := by
  obtain ⟨i, hi, rfl⟩ := List.mem_iff_getElem.1 hx
  obtain ⟨j, hj, rfl⟩ := List.mem_iff_getElem.1 hy
  have h := List.pairwise_iff_getElem.1 hs
  rcases Nat.lt_trichotomy i j with g | g | g
  · have := h i j hi hj g; rw [e] at this; exact absurd this (blt_irr _)
  · subst g; rfl
  · have := h j i hj hi g; rw [e] at this; exact absurd this (blt_irr _)
theorem getP_spec (ps : List Pr) (s : ByteArray) : (getP ps s = zV ∧ nmOf ps s = -1 ∧ ∀ x ∈ ps, x.name ≠ s) ∨ ∃ x ∈ ps, x.name = s ∧ getP ps s = x.val ∧ 0 ≤ nmOf ps s := by
  rcases nmOf_spec ps s with ⟨h1, h2⟩ | ⟨i, x, h1, h2, h3⟩
  · exact .inl ⟨by unfold getP; rw [if_pos (by omega)], h1, h2⟩
  · refine .inr ⟨x, List.mem_of_getElem? h2, h3, ?_, by omega⟩
    unfold getP
    rw [if_neg (by omega), h1, Int.toNat_natCast, h2]; rfl
/-- a property set and set back -/
theorem setPr_back {ps : List Pr} (h : cpErr ps = 0) {s : ByteArray} {v : Vl} (h' : cpErr (setPr ps s v) = 0) : setPr (setPr ps s v) s (getP ps s) = ps := by
  obtain ⟨_, h2, h3⟩ := cp_ok h
  refine pr_unique (setPr_sorted h' _ _) h2 fun x => ?_
  rw [setPr_mem, setPr_mem]
  rcases getP_spec ps s with ⟨e, _, hn⟩ | ⟨y, hy, hys, e, _⟩
  · rw [e]
    constructor
    · rintro (⟨a, _⟩ | ⟨⟨_, a⟩ | ⟨a, _⟩, b⟩)
      · exact absurd rfl a
      · rw [a] at b; exact absurd rfl b
      · exact a
    · exact fun hx => .inr ⟨.inr ⟨hx, hn x hx⟩, hn x hx⟩
  · rw [e]
    constructor
    · rintro (⟨_, rfl⟩ | ⟨⟨_, a⟩ | ⟨a, _⟩, b⟩)
      · rw [← hys]; exact hy
      · rw [a] at b; exact absurd rfl b
      · exact a
    · intro hx
      by_cases hxs : x.name = s
      · obtain rfl := pr_uniq h2 hx hy (hxs.trans hys.symm)
        exact .inl ⟨(h3 x hx).1, by rw [← hxs]⟩
      · exact .inr ⟨.inr ⟨hx, hxs⟩, hxs⟩
end
end Go.Proofs.YtmkicfjcgbfaaaaGreat
