/- Pure theory of the order of values. No conditions. -/
import Derived.Test.YtbkgmahpfghheaaDoorPsA
namespace Go.Proofs.YtbkgmahpfghheaaDoor.Ps

/-- Interval i of a canonical list. -/
def GoodIv (l : List Iv) (i : Nat) (x : Iv) : Prop :=
  x.lo.ok = true ∧ (x.op = true → i + 1 = l.length ∧ x.hi = Vl.zero) ∧ (x.op = false → x.hi.ok = true ∧ x.lo < x.hi ∧ ∀ y, l[i + 1]? = some y → x.hi < y.lo)

theorem ok_iff : ∀ (l : List Iv), Ok l ↔ ∀ (i : Nat) (x : Iv), l[i]? = some x → GoodIv l i x
  | [] => by simp [Ok]
  | [x] => by
    constructor
    · intro h i y hy
      have : i = 0 ∧ y = x := by
        cases i with
        | zero => simp at hy; exact ⟨rfl, hy.symm⟩
        | succ i => simp at hy
      obtain ⟨rfl, rfl⟩ := this
      rcases h with h | h
      · exact ⟨h.2.1, fun c => (by rw [h.1] at c; cases c), fun _ => ⟨h.2.2.1, h.2.2.2, by simp⟩⟩
      · exact ⟨h.2.1, fun _ => ⟨rfl, h.2.2⟩, fun c => (by rw [h.1] at c; cases c)⟩
    · intro h
      obtain ⟨h1, h2, h3⟩ := h 0 x rfl
      cases e : x.op
      · exact .inl ⟨e, h1, (h3 e).1, (h3 e).2.1⟩
      · exact .inr ⟨e, h1, (h2 e).2⟩
  | x :: y :: t => by
    have ih := ok_iff (y :: t)
    have sh : ∀ i u, GoodIv (x :: y :: t) (i + 1) u ↔ GoodIv (y :: t) i u := by
      intro i u
      simp [GoodIv]
    constructor
    · rintro ⟨h1, h2, h3⟩ i u hu
      cases i with
      | zero =>
        simp at hu
        subst hu
        exact ⟨h1.2.1, fun c => (by rw [h1.1] at c; cases c), fun _ => ⟨h1.2.2.1, h1.2.2.2, by simpa using h2⟩⟩
      | succ i =>
        rw [sh]
        exact ih.1 h3 i u (by simpa using hu)
    · intro h
      have h0 := h 0 x rfl
      refine ⟨?_, ?_, ih.2 fun i u hu => (sh i u).1 (h (i + 1) u (by simpa using hu))⟩
      · cases e : x.op
        · exact ⟨e, h0.1, (h0.2.2 e).1, (h0.2.2 e).2.1⟩
        · have := (h0.2.1 e).1; simp at this
      · cases e : x.op
        · exact (h0.2.2 e).2.2 y rfl
        · have := (h0.2.1 e).1; simp at this

end Go.Proofs.YtbkgmahpfghheaaDoor.Ps
