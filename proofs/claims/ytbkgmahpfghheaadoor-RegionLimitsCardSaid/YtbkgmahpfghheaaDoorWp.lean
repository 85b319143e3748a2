/- Pure: what region.at says of sorted spans. -/
import Derived.Test.YtbkgmahpfghheaaDoorWo
namespace Go.Proofs.YtbkgmahpfghheaaDoor
open Go.RowKit
open Ps

/-! ### What at says of sorted spans -/
theorem atL_atL {v v' : Vl} (h : v ≤ v') : ∀ l, atL v' (atL v l) = atL v' l
  | [] => rfl
  | s :: l => by
    by_cases c : s.1.op = false ∧ s.1.hi ≤ v
    · have c' : s.1.op = false ∧ s.1.hi ≤ v' := ⟨c.1, by have := c.2; grind⟩
      rw [atL, if_pos c, atL_atL h l, atL, if_pos c']
    · rw [atL, if_neg c]
theorem atL_suffix (v : Vl) : ∀ l, atL v l <:+ l
  | [] => List.suffix_refl _
  | s :: l => by
    rw [atL]
    split
    · exact (atL_suffix v l).trans (List.suffix_cons s l)
    · exact List.suffix_refl _
theorem atL_head {v : Vl} : ∀ {l t : List Sp} {s : Sp}, atL v l = s :: t → ¬ (s.1.op = false ∧ s.1.hi ≤ v)
  | [], _, _, h => by cases h
  | u :: l, t, s, h => by
    rw [atL] at h
    split at h
    · exact atL_head h
    · rename_i c
      cases h
      exact c
theorem mem_atL {v : Vl} : ∀ {l : List Sp} {s : Sp}, s ∈ l → s.1.has v → s ∈ atL v l
  | [], _, h, _ => by cases h
  | u :: l, s, h, k => by
    rw [atL]
    split
    · rename_i c
      rcases List.mem_cons.1 h with rfl | h
      · exfalso
        rcases k.2 with k | k
        · rw [c.1] at k; cases k
        · have := c.2; grind
      · exact mem_atL h k
    · exact h

theorem mem_flatS : ∀ {i : Nat} {ps : Pts} {s : Sp}, s ∈ flatS i ps ↔ ∃ p, i ≤ s.2 ∧ ps[s.2 - i]? = some p ∧ s.1 ∈ p.1
  | i, [], s => by simp [flatS]
  | i, q :: t, s => by
    obtain ⟨x, j⟩ := s
    rw [flatS, List.mem_append, mem_flatS]
    simp only [List.mem_map, Prod.mk.injEq]
    constructor
    · rintro (⟨y, hy, rfl, rfl⟩ | ⟨p, h1, h2, h3⟩)
      · exact ⟨q, Nat.le_refl _, by simp, hy⟩
      · refine ⟨p, by omega, ?_, h3⟩
        rw [show j - i = (j - (i + 1)) + 1 by omega, List.getElem?_cons_succ]
        exact h2
    · rintro ⟨p, h1, h2, h3⟩
      by_cases e : j = i
      · subst e
        simp at h2
        subst h2
        exact .inl ⟨x, h3, rfl, rfl⟩
      · refine .inr ⟨p, by omega, ?_, h3⟩
        rw [show j - i = (j - (i + 1)) + 1 by omega, List.getElem?_cons_succ] at h2
        exact h2

theorem at_rest {n : Nat} {a : Rg} (ha : Ps.Form (n + 1) a) {L : List Sp} (hp : L.Perm (flatS 0 a.ps)) (hs : L.Pairwise (fun s t => s.1.lo ≤ t.1.lo)) (v : Vl) :
    restI a (atI v L) = restAt a v ∧ atI v L < a.ps.length ∧ -1 ≤ atI v L := by
  have inL : ∀ p ∈ a.ps, ∀ x ∈ p.1, ∃ j, (x, j) ∈ L := by
    intro p hp' x hx
    obtain ⟨j, hj, e⟩ := List.getElem_of_mem hp'
    exact ⟨j, hp.mem_iff.2 (mem_flatS.2 ⟨p, Nat.zero_le _, by simp [hj, e], hx⟩)⟩
  have none : (∀ s ∈ atL v L, ¬ s.1.has v) → restAt a v = .mk (a.w - 1) false [] := fun h => restAt_none fun p hp' hh => by
    obtain ⟨x, hx, hv⟩ := hh
    obtain ⟨j, hj⟩ := inL p hp' x hx
    exact h _ (mem_atL hj hv) hv
  have m1 : restI a (-1) = .mk (a.w - 1) false [] := rfl
  cases e : atL v L with
  | nil =>
    have : atI v L = -1 := by rw [atI, e]
    rw [this]
    refine ⟨?_, by omega, by omega⟩
    rw [none (by rw [e]; simp)]
    rfl
  | cons s t =>
    have hd := atL_head e
    have hin : s ∈ L := (atL_suffix v L).subset (by rw [e]; simp)
    by_cases c : s.1.lo ≤ v
    · have : atI v L = s.2 := by rw [atI, e]; exact if_pos c
      rw [this]
      obtain ⟨p, _, h2, h3⟩ := mem_flatS.1 (hp.mem_iff.1 hin)
      rw [Nat.sub_zero] at h2
      have hv : s.1.has v := ⟨c, by
        by_cases o : s.1.op = true
        · exact .inl o
        · refine .inr ?_
          have o' : s.1.op = false := by simpa using o
          have : ¬ s.1.hi ≤ v := fun k => hd ⟨o', k⟩
          grind⟩
      have hlt := (List.getElem?_eq_some_iff.1 h2).1
      refine ⟨?_, by omega, by omega⟩
      rw [restAt_some ha (List.mem_of_getElem? h2) ⟨s.1, h3, hv⟩, restI, if_neg (by omega)]
      simp [h2]
    · have : atI v L = -1 := by rw [atI, e]; exact if_neg c
      rw [this]
      refine ⟨?_, by omega, by omega⟩
      rw [none fun u hu hv => ?_]
      · rfl
      · have hpw : (atL v L).Pairwise (fun s t => s.1.lo ≤ t.1.lo) := hs.sublist (atL_suffix v L).sublist
        rw [e] at hu hpw
        rcases List.mem_cons.1 hu with rfl | hu
        · exact c hv.1
        · have := (List.pairwise_cons.1 hpw).1 u hu
          have := hv.1
          exact c (by grind)

theorem mem_sends {L : List Sp} {v : Vl} : v ∈ sends L ↔ ∃ s ∈ L, v ∈ (if s.1.op then [s.1.lo] else [s.1.lo, s.1.hi]) := by
  unfold sends
  rw [List.mem_flatMap]
theorem sends_points {a b : Rg} {L M : List Sp} (hL : L.Perm (flatS 0 a.ps)) (hM : M.Perm (flatS 0 b.ps)) : sortU (Vl.least :: (sends L ++ sends M)) = points a b := by
  have key : ∀ {r : Rg} {L : List Sp}, L.Perm (flatS 0 r.ps) → ∀ v, v ∈ sends L ↔ v ∈ r.ps.flatMap fun q => ends q.1 := by
    intro r L hL v
    rw [mem_sends, List.mem_flatMap]
    unfold ends
    constructor
    · rintro ⟨s, hs, hv⟩
      obtain ⟨p, _, h2, h3⟩ := mem_flatS.1 (hL.mem_iff.1 hs)
      exact ⟨p, List.mem_of_getElem? h2, List.mem_flatMap.2 ⟨s.1, h3, hv⟩⟩
    · rintro ⟨p, hp, hv⟩
      obtain ⟨x, hx, hv⟩ := List.mem_flatMap.1 hv
      obtain ⟨j, hj, e⟩ := List.getElem_of_mem hp
      exact ⟨(x, j), hL.mem_iff.2 (mem_flatS.2 ⟨p, Nat.zero_le _, by simp [hj, e], hx⟩), hv⟩
  refine lt_unique (sortU_sorted _) (sortU_sorted _) fun x => ?_
  unfold points
  rw [mem_sortU, mem_sortU]
  simp only [List.mem_cons, List.mem_append, key hL, key hM]

end Go.Proofs.YtbkgmahpfghheaaDoor
