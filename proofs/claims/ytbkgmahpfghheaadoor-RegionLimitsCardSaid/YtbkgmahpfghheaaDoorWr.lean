/- Pure: what combine remembers while it sweeps. -/
import Derived.Test.YtbkgmahpfghheaaDoorWq
namespace Go.Proofs.YtbkgmahpfghheaaDoor
open Go.RowKit
open Ps

/-! ### What the program remembers while it sweeps -/
def kI (o : Option Nat) : Int := match o with
  | none => -1
  | some j => j
theorem kI_inj {a b : Option Nat} (h : kI a = kI b) : a = b := by
  cases a <;> cases b <;> simp [kI] at h ⊢ <;> omega

def wfI (x : Int) : Prop := (Lit.int .i64 x).wf = true

structure CS (op : Bool → Bool → Bool) (n : Nat) (a b : Rg) (ps : Pts) (last : Option Nat) (known byText : Lit → Option Int) (i : Nat) : Prop where
  dist : ∀ (j j' : Nat) q q', ps[j]? = some q → ps[j']? = some q' → q.2 = q'.2 → j = j'
  canon : ∀ q ∈ ps, Canon q.2 ∧ q.2.none = false
  cnt : cntL ps ≤ 64
  lst : ∀ j, last = some j → ∃ q, ps[j]? = some q ∧ q.1 ≠ []
  lens : ∀ q ∈ ps, q.1.length ≤ i
  know : ∀ x y k, wfI x → wfI y → known (pairLit x y) = some k → ∃ sub, lform op n (restI a x) (restI b y) = some sub ∧ ((sub.none = true ∧ k = -1) ∨ (sub.none = false ∧ ∃ (j : Nat) (q : List Iv × Rg), k = j ∧ ps[j]? = some q ∧ q.2 = sub))
  text : ∀ l k, byText l = some k ↔ ∃ (j : Nat) (q : List Iv × Rg), k = j ∧ ps[j]? = some q ∧ l = .string (F10.rg q.2)

theorem CS.start (op : Bool → Bool → Bool) (n : Nat) (a b : Rg) : CS op n a b [] none (fun _ => none) (fun _ => none) 0 :=
  ⟨by simp, by simp, by simp [cntL], by simp, by simp, by simp, by simp⟩

section
variable {op : Bool → Bool → Bool} {n : Nat} {a b : Rg} {ps : Pts} {last : Option Nat} {known byText : Lit → Option Int} {i : Nat}

theorem seek_old (h : CS op n a b ps last known byText i) {sub : Rg} (hs : sub.none = false) {j : Nat} {q : List Iv × Rg} (hq : ps[j]? = some q) (e : q.2 = sub) : seek ps sub = (ps, some j) := by
  have := seek_is ps sub
  generalize seek ps sub = r at this
  cases this with
  | none k => rw [hs] at k; cases k
  | old _ j' q' hq' e' => rw [h.dist j j' q q' hq hq' (e.trans e'.symm)]
  | new _ hn => exact absurd e (hn q (List.mem_of_getElem? hq))
theorem seek_none {ps : Pts} {sub : Rg} (hs : sub.none = true) : seek ps sub = (ps, none) := by
  unfold seek
  rw [if_pos hs]
theorem seek_new {sub : Rg} (hs : sub.none = false) (hn : ∀ q ∈ ps, q.2 ≠ sub) : seek ps sub = (ps ++ [([], sub)], some ps.length) := by
  have := seek_is ps sub
  generalize seek ps sub = r at this
  cases this with
  | none k => rw [hs] at k; cases k
  | old _ j' q' hq' e' => exact absurd e' (hn q' (List.mem_of_getElem? hq'))
  | new _ _ => rfl

theorem CS.hit (h : CS op n a b ps last known byText i) {x y k : Int} (hx : wfI x) (hy : wfI y) (hk : known (pairLit x y) = some k) :
    ∃ sub o, lform op n (restI a x) (restI b y) = some sub ∧ seek ps sub = (ps, o) ∧ kI o = k ∧ ∀ j, o = some j → j < ps.length := by
  obtain ⟨sub, h1, h2⟩ := h.know x y k hx hy hk
  rcases h2 with ⟨h2, rfl⟩ | ⟨h2, j, q, rfl, h4, h5⟩
  · exact ⟨sub, none, h1, seek_none h2, rfl, by simp⟩
  · exact ⟨sub, some j, h1, seek_old h h2 h4 h5, rfl, fun j' e => by cases e; exact (List.getElem?_eq_some_iff.1 h4).1⟩

open Classical in
theorem CS.remember (h : CS op n a b ps last known byText i) {x y k : Int} (hx : wfI x) (hy : wfI y) {sub : Rg} (hf : lform op n (restI a x) (restI b y) = some sub)
    (hk : (sub.none = true ∧ k = -1) ∨ (sub.none = false ∧ ∃ (j : Nat) (q : List Iv × Rg), k = j ∧ ps[j]? = some q ∧ q.2 = sub)) :
    CS op n a b ps last (fun l => if l = pairLit x y then some k else known l) byText i := by
  refine ⟨h.dist, h.canon, h.cnt, h.lst, h.lens, fun x' y' k' hx' hy' e => ?_, h.text⟩
  by_cases c : pairLit x' y' = pairLit x y
  · obtain ⟨rfl, rfl⟩ := pair_inj hx' hy' hx hy c
    simp at e
    subst e
    exact ⟨sub, hf, hk⟩
  · simp only [c, if_false] at e
    exact h.know x' y' k' hx' hy' e

theorem CS.text_hit (h : CS op n a b ps last known byText i) {sub : Rg} (hs : sub.none = false) {k : Int} (hk : byText (.string (F10.rg sub)) = some k) : ∃ (j : Nat) (q : List Iv × Rg), k = j ∧ ps[j]? = some q ∧ q.2 = sub ∧ seek ps sub = (ps, some j) := by
  obtain ⟨j, q, rfl, h2, h3⟩ := (h.text _ _).1 hk
  injection h3 with h3
  have e := F10.rg_eq h3
  exact ⟨j, q, rfl, h2, e.symm, seek_old h hs h2 e.symm⟩

open Classical in
theorem CS.fresh (h : CS op n a b ps last known byText i) {sub : Rg} (hs : sub.none = false) (hc : Canon sub) (hk : byText (.string (F10.rg sub)) = none) :
    seek ps sub = (ps ++ [([], sub)], some ps.length) ∧ (cntL (ps ++ [([], sub)]) ≤ 64 → CS op n a b (ps ++ [([], sub)]) last known (fun l => if l = .string (F10.rg sub) then some (ps.length : Int) else byText l) i) := by
  have hn : ∀ q ∈ ps, q.2 ≠ sub := by
    intro q hq e
    obtain ⟨j, hj, e'⟩ := List.getElem_of_mem hq
    have := (h.text (.string (F10.rg sub)) j).2 ⟨j, q, rfl, by simp [hj, e'], by rw [e]⟩
    rw [hk] at this
    cases this
  have get : ∀ {j : Nat} {q : List Iv × Rg}, (ps ++ [(([], sub) : List Iv × Rg)])[j]? = some q ↔ ps[j]? = some q ∨ (j = ps.length ∧ q = ([], sub)) := by
    intro j q
    by_cases c : j < ps.length
    · rw [List.getElem?_append_left c]
      exact ⟨.inl, fun k => k.elim id fun k => by omega⟩
    · rw [List.getElem?_append_right (by omega)]
      constructor
      · intro e
        have hj : j - ps.length = 0 := by have := (List.getElem?_eq_some_iff.1 e).1; simp at this; omega
        rw [hj] at e
        simp at e
        exact .inr ⟨by omega, e.symm⟩
      · rintro (e | ⟨rfl, rfl⟩)
        · have := (List.getElem?_eq_some_iff.1 e).1; omega
        · simp
  refine ⟨seek_new hs hn, fun hcnt => ⟨fun j j' q q' hq hq' e => ?_, fun q hq => ?_, hcnt, fun j e => ?_, fun q hq => ?_, fun x y k hx hy e => ?_, fun l k => ?_⟩⟩
  · rcases get.1 hq with hq | ⟨rfl, rfl⟩ <;> rcases get.1 hq' with hq' | ⟨rfl, rfl⟩
    · exact h.dist j j' q q' hq hq' e
    · exact absurd e (hn q (List.mem_of_getElem? hq))
    · exact absurd e.symm (hn q' (List.mem_of_getElem? hq'))
    · rfl
  · rcases List.mem_append.1 hq with hq | hq
    · exact h.canon q hq
    · simp only [List.mem_cons, List.not_mem_nil, or_false] at hq
      subst hq
      exact ⟨hc, hs⟩
  · obtain ⟨q, hq, hne⟩ := h.lst j e
    exact ⟨q, get.2 (.inl hq), hne⟩
  · rcases List.mem_append.1 hq with hq | hq
    · exact h.lens q hq
    · simp only [List.mem_cons, List.not_mem_nil, or_false] at hq
      subst hq
      simp
  · obtain ⟨s, h1, h2⟩ := h.know x y k hx hy e
    refine ⟨s, h1, h2.imp id ?_⟩
    rintro ⟨h3, j, q, e1, e2, e3⟩
    exact ⟨h3, j, q, e1, get.2 (.inl e2), e3⟩
  · by_cases c : l = .string (F10.rg sub)
    · subst c
      simp only [if_true]
      constructor
      · intro e
        cases e
        exact ⟨ps.length, ([], sub), rfl, get.2 (.inr ⟨rfl, rfl⟩), rfl⟩
      · rintro ⟨j, q, rfl, e2, e3⟩
        injection e3 with e3
        have e4 := F10.rg_eq e3
        rcases get.1 e2 with e2 | ⟨rfl, _⟩
        · exact absurd e4.symm (hn q (List.mem_of_getElem? e2))
        · rfl
    · simp only [c, if_false]
      rw [h.text]
      constructor
      · rintro ⟨j, q, e1, e2, e3⟩
        exact ⟨j, q, e1, get.2 (.inl e2), e3⟩
      · rintro ⟨j, q, e1, e2, e3⟩
        rcases get.1 e2 with e2 | ⟨_, rfl⟩
        · exact ⟨j, q, e1, e2, e3⟩
        · exact absurd e3 c

theorem shutLast_len : ∀ (l : List Iv) (p : Vl), (shutLast l p).length = l.length
  | [], _ => rfl
  | [_], _ => rfl
  | x :: y :: t, p => by
    have := shutLast_len (y :: t) p
    rw [shutLast, List.length_cons, this]
    rfl
theorem adj_len (last k : Option Nat) (p : Vl) (j : Nat) (l : List Iv) : (adj last k p j l).length ≤ l.length + 1 := by
  unfold adj
  simp only
  split
  · omega
  · split <;> split <;> simp [shutLast_len]
theorem shutLast_ne {l : List Iv} (p : Vl) (h : l ≠ []) : shutLast l p ≠ [] := by
  intro e
  have := shutLast_len l p
  rw [e] at this
  exact h (List.length_eq_zero_iff.1 this.symm)

theorem CS.step (h : CS op n a b ps last known byText i) {o : Option Nat} (ho : ∀ j, o = some j → j < ps.length) (p : Vl) : CS op n a b (stepPs ps last o p) o known byText (i + 1) := by
  have get : ∀ {j : Nat} {q : List Iv × Rg}, (stepPs ps last o p)[j]? = some q → ∃ q0, ps[j]? = some q0 ∧ q = (adj last o p j q0.1, q0.2) := by
    intro j q e
    rw [stepPs_get] at e
    obtain ⟨q0, h1, h2⟩ := Option.map_eq_some_iff.1 e
    exact ⟨q0, h1, h2.symm⟩
  have put : ∀ {j : Nat} {q0 : List Iv × Rg}, ps[j]? = some q0 → (stepPs ps last o p)[j]? = some (adj last o p j q0.1, q0.2) := by
    intro j q0 e
    rw [stepPs_get, e]
    rfl
  have mem : ∀ {q : List Iv × Rg}, q ∈ stepPs ps last o p → ∃ (j : Nat) (q0 : List Iv × Rg), q0 ∈ ps ∧ q = (adj last o p j q0.1, q0.2) := by
    intro q hq
    obtain ⟨j, hj, e⟩ := List.getElem_of_mem hq
    obtain ⟨q0, h1, h2⟩ := get (j := j) (q := q) (by simp [hj, e])
    exact ⟨j, q0, List.mem_of_getElem? h1, h2⟩
  refine ⟨fun j j' q q' hq hq' e => ?_, fun q hq => ?_, by rw [stepPs_cnt]; exact h.cnt, fun j e => ?_, fun q hq => ?_, fun x y k hx hy e => ?_, fun l k => ?_⟩
  · obtain ⟨q0, h1, rfl⟩ := get hq
    obtain ⟨q1, h2, rfl⟩ := get hq'
    exact h.dist j j' q0 q1 h1 h2 e
  · obtain ⟨j, q0, h1, rfl⟩ := mem hq
    exact h.canon q0 h1
  · have hj := ho j e
    refine ⟨_, put (List.getElem?_eq_getElem hj), ?_⟩
    show adj last o p j _ ≠ []
    unfold adj
    by_cases c : o = last
    · rw [if_pos c]
      obtain ⟨q, hq, hne⟩ := h.lst j (by rw [← c]; exact e)
      rw [List.getElem?_eq_getElem hj] at hq
      cases hq
      exact hne
    · rw [if_neg c]
      simp [e]
  · obtain ⟨j, q0, h1, rfl⟩ := mem hq
    have h2 := adj_len last o p j q0.1
    have h3 := h.lens q0 h1
    show (adj last o p j q0.1).length ≤ i + 1
    omega
  · obtain ⟨s, h1, h2⟩ := h.know x y k hx hy e
    refine ⟨s, h1, h2.imp id ?_⟩
    rintro ⟨h3, j, q, e1, e2, e3⟩
    exact ⟨h3, j, _, e1, put e2, e3⟩
  · rw [h.text]
    constructor
    · rintro ⟨j, q, e1, e2, e3⟩
      exact ⟨j, _, e1, put e2, e3⟩
    · rintro ⟨j, q, e1, e2, e3⟩
      obtain ⟨q0, h1, rfl⟩ := get e2
      exact ⟨j, q0, e1, h1, e3⟩
end

end Go.Proofs.YtbkgmahpfghheaaDoor
