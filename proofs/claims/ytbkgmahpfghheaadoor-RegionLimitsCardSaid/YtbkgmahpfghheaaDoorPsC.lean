/- Pure theory: the compact of a sorted list, the merge of two lists of intervals. No conditions. -/
import Derived.Test.YtbkgmahpfghheaaDoorPsB
namespace Go.Proofs.YtbkgmahpfghheaaDoor.Ps

/-! ### A sorted list, each value once -/
def dd (d : List Vl) : Nat → List Vl
  | 0 => []
  | j + 1 => if 0 < j ∧ d[j]? = d[j - 1]? then dd d j else dd d j ++ (d[j]?).toList

theorem dd_len (d : List Vl) : ∀ j, (dd d j).length ≤ j
  | 0 => Nat.le_refl _
  | j + 1 => by
    unfold dd
    have := dd_len d j
    split
    · omega
    · rw [List.length_append]
      have : (d[j]?).toList.length ≤ 1 := by cases d[j]? <;> simp
      omega

theorem dd_is {d : List Vl} (h : d.Pairwise (· ≤ ·)) : ∀ j, j ≤ d.length → (dd d j).Pairwise (· < ·) ∧ ∀ x, x ∈ dd d j ↔ x ∈ d.take j
  | 0, _ => by simp [dd]
  | j + 1, hj => by
    obtain ⟨a, b⟩ := dd_is h j (by omega)
    have hjl : j < d.length := by omega
    have ht : ∀ x, x ∈ d.take (j + 1) ↔ x ∈ d.take j ∨ x = d[j] := by
      intro x
      rw [List.take_succ_eq_append_getElem hjl, List.mem_append, List.mem_singleton]
    unfold dd
    split
    · rename_i c
      refine ⟨a, fun x => ?_⟩
      rw [b, ht]
      refine ⟨.inl, fun q => q.elim id fun q => ?_⟩
      have e := c.2
      rw [List.getElem?_eq_getElem hjl, List.getElem?_eq_getElem (by omega)] at e
      rw [q, Option.some.inj e]
      rw [List.mem_take_iff_getElem]
      exact ⟨j - 1, by omega, rfl⟩
    · rename_i c
      rw [List.getElem?_eq_getElem hjl]
      simp only [Option.toList_some]
      refine ⟨?_, fun x => ?_⟩
      · rw [List.pairwise_append]
        refine ⟨a, by simp, fun x hx y hy => ?_⟩
        simp at hy
        subst hy
        have hx' := (b x).1 hx
        rw [List.mem_take_iff_getElem] at hx'
        obtain ⟨i, hi, rfl⟩ := hx'
        have hij : i < j := by omega
        have hs := List.pairwise_iff_getElem.1 h
        have h1 : d[j - 1] ≤ d[j] := hs (j - 1) j (by omega) hjl (by omega)
        have h2 : d[i] ≤ d[j - 1] := by
          by_cases e : i = j - 1
          · subst e; grind
          · exact hs i (j - 1) (by omega) (by omega) (by omega)
        have h3 : d[j] ≠ d[j - 1] := fun e => c ⟨by omega, by rw [List.getElem?_eq_getElem hjl, List.getElem?_eq_getElem (by omega), e]⟩
        grind
      · rw [List.mem_append, b, ht]
        simp

theorem lt_unique {l m : List Vl} (hl : l.Pairwise (· < ·)) (hm : m.Pairwise (· < ·)) (h : ∀ x, x ∈ l ↔ x ∈ m) : l = m :=
  sorted_eq (R := fun a b : Vl => a < b) (fun _ => Vl.irrefl _) (fun _ _ h k => Vl.irrefl _ (Vl.trans h k)) hl hm h

theorem dd_sortU {P d : List Vl} (hp : d.Perm P) (h : d.Pairwise (· ≤ ·)) : dd d d.length = sortU P := by
  obtain ⟨a, b⟩ := dd_is h d.length (Nat.le_refl _)
  refine lt_unique a (sortU_sorted P) fun x => ?_
  rw [b, mem_sortU, List.take_length]
  exact hp.mem_iff

theorem dd_same {d : List Vl} {j : Nat} (h : d[j + 1]? = d[j]?) : dd d (j + 2) = dd d (j + 1) := by
  rw [dd, if_pos ⟨by omega, by simpa using h⟩]
theorem dd_more {d : List Vl} {j : Nat} {y : Vl} (hy : d[j + 1]? = some y) (h : d[j + 1]? ≠ d[j]?) : dd d (j + 2) = dd d (j + 1) ++ [y] := by
  rw [dd, if_neg (by rintro ⟨_, c⟩; exact h (by simpa using c)), hy]
  rfl
theorem dd_one (d : List Vl) : dd d 1 = d.take 1 := by
  rw [dd, if_neg (by omega), dd]
  cases d <;> rfl

/-! ### An operation on two sets of values -/
def mstep (l : List Iv) (op : Bool) (p : Vl) (i : Bool) : List Iv := if i = true ∧ op = false then l ++ [⟨p, .zero, true⟩] else if i = false ∧ op = true then shutLast l p else l
def msweep (f : Vl → Bool) : List Vl → List Iv → Bool → List Iv
  | [], l, _ => l
  | p :: r, l, op => msweep f r (mstep l op p (f p)) (f p)

structure MInv (f : Vl → Bool) (l : List Iv) (op : Bool) (h : Option Vl) : Prop where
  going : op = true → Going l h
  done : op = false → Done l h
  has : ∀ v, v.ok = true → (∀ p ∈ h, v < p) → (has l v ↔ f v = true)

theorem Going.has_ge {l : List Iv} {p : Vl} (h : Going l (some p)) {v : Vl} (k : p ≤ v) : Ps.has l v := h.has k

theorem MInv.step {f : Vl → Bool} {l : List Iv} {op : Bool} {p : Vl} {h' : Option Vl} (I : MInv f l op (some p)) (po : p.ok = true) (hp : ∀ p' ∈ h', p < p') (hc : ∀ v, v.ok = true → p ≤ v → (∀ p' ∈ h', v < p') → f v = f p) :
    MInv f (mstep l op p (f p)) (f p) h' := by
  have split : ∀ l' : List Iv, (∀ v, v < p → (Ps.has l' v ↔ Ps.has l v)) → (∀ v, p ≤ v → (Ps.has l' v ↔ f p = true)) → ∀ v, v.ok = true → (∀ p ∈ h', v < p) → (Ps.has l' v ↔ f v = true) := by
    intro l' a b v vo vh
    by_cases c : v < p
    · rw [a v c]; exact I.has v vo (by simpa using c)
    · have c : p ≤ v := by grind
      rw [b v c, hc v vo c vh]
  unfold mstep
  cases e : f p <;> cases o : op
  · have D := I.done o
    simp only [Bool.false_eq_true, false_and, and_false, if_false]
    refine ⟨fun c => (by cases c), fun _ => D.mono _ hp, split l (fun v _ => Iff.rfl) fun v c => ⟨fun k => absurd (D.le k) (by grind), fun k => (by rw [e] at k; cases k)⟩⟩
  · have G := I.going o
    obtain ⟨g1, g2, g3, g4⟩ := G.shut po h' hp
    simp only [Bool.false_eq_true, false_and, and_self, if_false, if_true]
    refine ⟨fun c => (by cases c), fun _ => g1, split _ (fun v c => by rw [g4]; simp [c]) fun v c => ⟨fun k => absurd ((g4 v).1 k).2 (by grind), fun k => (by rw [e] at k; cases k)⟩⟩
  · have D := I.done o
    obtain ⟨g1, g2⟩ := D.reopen po h' hp
    simp only [and_self, if_true]
    refine ⟨fun _ => g1, fun c => (by cases c), split _ (fun v c => ?_) fun v c => ?_⟩
    · rw [g2]
      exact ⟨fun k => k.elim id fun q => absurd q (by grind), .inl⟩
    · rw [g2]
      exact ⟨fun _ => e, fun _ => .inr c⟩
  · have G := I.going o
    simp only [and_false, Bool.true_eq_false, false_and, if_false]
    refine ⟨fun _ => G.mono _ hp, fun c => (by cases c), split l (fun v _ => Iff.rfl) fun v c => ⟨fun _ => e, fun _ => G.has c⟩⟩

def ConstB (f : Vl → Bool) : List Vl → Prop
  | [] => True
  | p :: l => (∀ v, v.ok = true → p ≤ v → (∀ p' ∈ l.head?, v < p') → f v = f p) ∧ ConstB f l

theorem msweep_inv {f : Vl → Bool} : ∀ (r : List Vl) (l : List Iv) (op : Bool), r.Pairwise (· < ·) → (∀ p ∈ r, p.ok = true) → ConstB f r → MInv f l op r.head? → ∃ op', MInv f (msweep f r l op) op' none
  | [], l, op, _, _, _, I => ⟨op, I⟩
  | p :: r, l, op, hs, ho, hC, I => by
    obtain ⟨s1, s2⟩ := List.pairwise_cons.1 hs
    exact msweep_inv r _ _ s2 (fun q hq => ho q (by simp [hq])) hC.2 (I.step (ho p (by simp)) (fun p' h => s1 p' (List.mem_of_head? h)) hC.1)

theorem constB_of {f : Vl → Bool} {W : List Vl} (H : ∀ p v, v.ok = true → p ≤ v → (∀ e ∈ W, e ≤ p ∨ v < e) → f v = f p) : ∀ (l : List Vl), l.Pairwise (· < ·) → (∀ e ∈ W, e ∈ l ∨ ∀ x ∈ l, e < x) → ConstB f l
  | [], _, _ => trivial
  | p :: l, hs, hw => by
    obtain ⟨s1, s2⟩ := List.pairwise_cons.1 hs
    refine ⟨fun v vo pv vn => H p v vo pv fun e he => ?_, constB_of H l s2 fun e he => ?_⟩
    · rcases hw e he with k | k
      · rcases List.mem_cons.1 k with k | k
        · left; grind
        · right
          cases l with
          | nil => cases k
          | cons q l =>
            have vq := vn q rfl
            rcases List.mem_cons.1 k with k | k
            · rw [k]; exact vq
            · exact Vl.trans vq ((List.pairwise_cons.1 s2).1 e k)
      · left; have := k p (by simp); grind
    · rcases hw e he with k | k
      · rcases List.mem_cons.1 k with k | k
        · right; intro x hx; rw [k]; exact s1 x hx
        · exact .inl k
      · exact .inr fun x hx => k x (by simp [hx])

def mpoints (a b : List Iv) : List Vl := sortU (Vl.least :: (ends a ++ ends b))
def mergeF (op : Bool → Bool → Bool) (a b : List Iv) (v : Vl) : Bool := op (decide (has a v)) (decide (has b v))
def mergeL (op : Bool → Bool → Bool) (a b : List Iv) : List Iv := msweep (mergeF op a b) (mpoints a b) [] false

theorem mergeL_is (op : Bool → Bool → Bool) {a b : List Iv} (ha : Ok a) (hb : Ok b) : Ok (mergeL op a b) ∧ ∀ v, v.ok = true → (has (mergeL op a b) v ↔ op (decide (has a v)) (decide (has b v)) = true) := by
  have hok : ∀ p ∈ mpoints a b, p.ok = true := by
    intro p hp
    rw [mpoints, mem_sortU] at hp
    rcases List.mem_cons.1 hp with e | hp
    · rw [e]; exact Vl.least_ok
    · rcases List.mem_append.1 hp with k | k
      · exact ends_ok ha k
      · exact ends_ok hb k
  have hC : ConstB (mergeF op a b) (mpoints a b) := by
    refine constB_of (W := mpoints a b) (fun p v _ pv h => ?_) _ (sortU_sorted _) (fun e he => .inl he)
    have h1 := has_still (l := a) pv fun e he => h e (by rw [mpoints, mem_sortU]; simp [he])
    have h2 := has_still (l := b) pv fun e he => h e (by rw [mpoints, mem_sortU]; simp [he])
    unfold mergeF
    simp [h1, h2]
  have hst : ∀ v, v.ok = true → ¬ ∀ p ∈ (mpoints a b).head?, v < p := by
    intro v vo h
    obtain ⟨p, hp, le⟩ := sorted_head (sortU_sorted _) (v := Vl.least) (by rw [mpoints, mem_sortU]; simp : Vl.least ∈ mpoints a b)
    have := h p hp
    have := Vl.least_le vo
    grind
  obtain ⟨o, I⟩ := msweep_inv (f := mergeF op a b) (mpoints a b) [] false (sortU_sorted _) hok hC ⟨fun c => (by cases c), fun _ => ⟨trivial, by simp⟩, fun v vo vh => absurd vh (hst v vo)⟩
  refine ⟨?_, fun v vo => I.has v vo (by simp)⟩
  cases o
  · exact (I.done rfl).1
  · exact (I.going rfl).1

end Go.Proofs.YtbkgmahpfghheaaDoor.Ps
