/- The region that combine is building, in memory; pairs as keys. -/
import Derived.Test.YtbkgmahpfghheaaDoorWp
import Derived.DeepKeys4
namespace Go.Proofs.YtbkgmahpfghheaaDoor
open Go.RowKit
open Ps
open Go.Maps (Keyed)

/-! ### The key: a pair of parts -/
set_option maxRecDepth 4000 in
theorem laidB : laidOutB Tryd.prog = true := by kernel_rfl
set_option maxRecDepth 4000 in
theorem kpair : Keyed Tryd.prog 62 := Go.Maps.Keyed.of_law (deep_law_laid laidB (m := 2) (by omega) (of_decide_eq_true (by kernel_rfl)) (by kernel_rfl) (by rw [show Tryd.prog.underlying 62 = some (.array 2 3) by kernel_rfl]))
def pairLit (i j : Int) : Lit := .string (keyBytes [.int .i64 i, .int .i64 j])
theorem key_pair (i j : Int) (hi : (Lit.int .i64 i).wf = true) (hj : (Lit.int .i64 j).wf = true) : keyOf Tryd.prog 62 (.agg #[.int .i64 i, .int .i64 j]) = some (pairLit i j) := by
  have u : Tryd.prog.underlying 62 = some (.array 2 3) := by kernel_rfl
  have u3 : Tryd.prog.underlying 3 = some (.int .i64) := by kernel_rfl
  have kt : Tryd.prog.keyType 62 = true := by kernel_rfl
  have c : Tryd.prog.cellsOf 62 = 2 := by kernel_rfl
  have c3 : Tryd.prog.cellsOf 3 = 1 := by kernel_rfl
  obtain ⟨n, hn⟩ : ∃ n, Tryd.prog.types.size + 1 = n + 2 := ⟨Tryd.prog.types.size - 1, by
    have : 1 ≤ Tryd.prog.types.size := of_decide_eq_true (by kernel_rfl)
    omega⟩
  unfold keyOf
  rw [u]
  simp only [kt, Bool.true_and]
  have f : (Value.agg #[Value.int .i64 i, Value.int .i64 j]).formed Tryd.prog 62 = true := by simp [Value.formed, u, c]
  rw [f, if_pos rfl, hn]
  simp [Program.keyLits, u, u3, c, c3, Value.cells, List.range_succ, hi, hj, pairLit]
theorem pair_inj {i j i' j' : Int} (hi : (Lit.int .i64 i).wf = true) (hj : (Lit.int .i64 j).wf = true) (hi' : (Lit.int .i64 i').wf = true) (hj' : (Lit.int .i64 j').wf = true) (h : pairLit i j = pairLit i' j') : i = i' ∧ j = j' := by
  have := kpair.inj (key_pair i j hi hj) (by rw [h]; exact key_pair i' j' hi' hj')
  simpa using this

/-! ### The region that is being built -/
def partCells (q : List Iv × Rg) (u : Value × Value) : List Value := [u.1, .int .i64 q.2.w, .bool q.2.full, u.2]
def outCells (ps : Pts) (us : List (Value × Value)) : List Value := (ps.zip us).flatMap fun x => partCells x.1 x.2

/-- No block that is written: those of fix, the row of parts, the rows of intervals. -/
def Free (B : Nat) (fix : List Nat) (v : Value) (us : List (Value × Value)) (k : Nat) : Prop := B ≤ k ∧ k ∉ fix ∧ v.ownBlock ≠ some k ∧ ∀ u ∈ us, u.1.ownBlock ≠ some k

structure OutAt (B : Nat) (fix : List Nat) (w : World) (v : Value) (ps : Pts) (us : List (Value × Value)) : Prop where
  len : us.length = ps.length
  own : w.ownsRow B 50 4 v ps.length (outCells ps us)
  vals : ∀ (j : Nat) q u, ps[j]? = some q → us[j]? = some u → w.ownsRow B 41 7 u.1 q.1.length (ivsCells q.1)
  apart : ∀ (i j : Nat) u u', i ≠ j → us[i]? = some u → us[j]? = some u' → ∀ k, u.1.ownBlock = some k → u'.1.ownBlock ≠ some k
  rests : ∀ (j : Nat) q u, ps[j]? = some q → us[j]? = some u → ∃ A m c, u.2 = .slice A m c ∧ m ≤ c ∧ c ≤ 9223372036854775807 ∧ RgAt (Free B fix v us) w q.2 A m
  fixne : ∀ k ∈ fix, v.ownBlock ≠ some k ∧ ∀ u ∈ us, u.1.ownBlock ≠ some k

theorem OutAt.nil (B : Nat) (fix : List Nat) (w : World) : OutAt B fix w (.slice none 0 0) [] [] :=
  ⟨rfl, World.ownsRow_nil _ _ _ _, by simp, by simp, by simp, fun _ _ => ⟨by simp [Value.ownBlock], by simp⟩⟩

theorem own_kept_of {w w' : World} {b size n : Nat} {e : TypeId} {v : Value} {xs : List Value} (h : w.ownsRow b e size v n xs) (hk : ∀ k, v.ownBlock = some k → w'.heap[k]? = w.heap[k]?) : w'.ownsRow b e size v n xs := by
  refine ⟨h.1, ?_⟩
  rcases h.2 with h | ⟨g, cap, cur, rfl, hb, hh, h1, h2, h3, h4⟩
  · exact .inl h
  · exact .inr ⟨g, cap, cur, rfl, hb, (hk g rfl).trans hh, h1, h2, h3, h4⟩

/-- Whatever leaves all old blocks but those of fix as they are. -/
theorem OutAt.frame {B : Nat} {fix : List Nat} {w w' : World} {v : Value} {ps : Pts} {us : List (Value × Value)} (h : OutAt B fix w v ps us) (hs : w.heap.size ≤ w'.heap.size) (hk : ∀ k, k < w.heap.size → k ∉ fix → w'.heap[k]? = w.heap[k]?) : OutAt B fix w' v ps us := by
  refine ⟨h.len, own_kept_of h.own fun k e => hk k (h.own.lt k e).2 fun c => (h.fixne k c).1 e, fun j q u hq hu => ?_, h.apart, fun j q u hq hu => ?_, h.fixne⟩
  · have hv := h.vals j q u hq hu
    exact own_kept_of hv fun k e => hk k (hv.lt k e).2 fun c => (h.fixne k c).2 u (List.mem_of_getElem? hu) e
  · obtain ⟨A, m, c, e, h1, h2, h3⟩ := h.rests j q u hq hu
    exact ⟨A, m, c, e, h1, h2, RgAt.keep ⟨hs, fun k o hl => hk k hl o.2.1⟩ _ h3⟩

theorem outCells_cons (q : List Iv × Rg) (ps : Pts) (u : Value × Value) (us : List (Value × Value)) : outCells (q :: ps) (u :: us) = [u.1, .int .i64 q.2.w, .bool q.2.full, u.2] ++ outCells ps us := rfl
theorem outCells_snoc {ps : Pts} {us : List (Value × Value)} (h : us.length = ps.length) (q : List Iv × Rg) (u : Value × Value) : outCells (ps ++ [q]) (us ++ [u]) = outCells ps us ++ partCells q u := by
  unfold outCells
  rw [List.zip_append h.symm, List.flatMap_append]
  simp
theorem outCells_put : ∀ {ps : Pts} {us : List (Value × Value)} {j : Nat} {q : List Iv × Rg} {u : Value × Value} (_ : ps[j]? = some q) (_ : us[j]? = some u) (l : List Iv) (x : Value),
    (outCells ps us).set (j * 4) x = outCells (ps.set j (l, q.2)) (us.set j (x, u.2))
  | [], _, _, _, _, h, _, _, _ => by simp at h
  | _ :: _, [], _, _, _, _, h, _, _ => by simp at h
  | p :: ps, y :: us, 0, q, u, h, h', l, x => by
    simp at h h'
    subst h h'
    rw [List.set_cons_zero, List.set_cons_zero, outCells_cons, outCells_cons]
    rfl
  | p :: ps, y :: us, j + 1, q, u, h, h', l, x => by
    rw [List.set_cons_succ, List.set_cons_succ, outCells_cons, outCells_cons, ← outCells_put (by simpa using h) (by simpa using h') l x]
    rw [show (j + 1) * 4 = j * 4 + 4 by omega]
    rfl
theorem outCells_same : ∀ {ps : Pts} {us : List (Value × Value)} {j : Nat} {q : List Iv × Rg} (_ : ps[j]? = some q) (l : List Iv), outCells (ps.set j (l, q.2)) us = outCells ps us
  | [], _, _, _, h, _ => by simp at h
  | _ :: _, [], _, _, _, _ => by unfold outCells; simp
  | p :: ps, y :: us, 0, q, h, l => by
    simp at h
    subst h
    rfl
  | p :: ps, y :: us, j + 1, q, h, l => by
    rw [List.set_cons_succ, outCells_cons, outCells_cons, outCells_same (by simpa using h) l]

theorem own_types {w : World} {b b' s s' n n' : Nat} {e e' : TypeId} {v v' : Value} {xs xs' : List Value} (h : w.ownsRow b e s v n xs) (h' : w.ownsRow b' e' s' v' n' xs') (hne : e ≠ e') {k : Nat} (hk : v.ownBlock = some k) : v'.ownBlock ≠ some k := by
  intro hk'
  rcases h.2 with ⟨rfl, _⟩ | ⟨g, cap, cur, rfl, _, hh, _⟩
  · cases hk
  · rcases h'.2 with ⟨rfl, _⟩ | ⟨g', cap', cur', rfl, _, hh', _⟩
    · cases hk'
    · have e1 : g = k := by simpa [Value.ownBlock] using hk
      have e2 : g' = k := by simpa [Value.ownBlock] using hk'
      subst e1
      subst e2
      rw [hh] at hh'
      injection hh' with hh'
      injection hh' with _ ht
      exact hne ht

/-- A new part, without values as yet. -/
theorem OutAt.more {B : Nat} {fix : List Nat} {w w1 : World} {v v1 : Value} {ps : Pts} {us : List (Value × Value)} (h : OutAt B fix w v ps us) {sub : Rg} {A : Option Addr} {m c : Nat} (hs : RgAt (Free B fix v us) w sub A m) (hm : m ≤ c) (hc : c ≤ 9223372036854775807)
    (hown : w1.ownsRow B 50 4 v1 (ps.length + 1) (outCells ps us ++ partCells ([], sub) (.slice none 0 0, .slice A m c))) (hg : w.grownBy w1 v.ownBlock) (hat : v1.ownBlock = v.ownBlock ∨ ∃ b, v1.ownBlock = some b ∧ w.heap.size ≤ b) (hfix : ∀ k ∈ fix, k < w.heap.size) :
    OutAt B fix w1 v1 (ps ++ [([], sub)]) (us ++ [(.slice none 0 0, .slice A m c)]) := by
  have hl := h.len
  have split : ∀ {j : Nat} {q : List Iv × Rg} {u : Value × Value}, (ps ++ [([], sub)])[j]? = some q → (us ++ [((.slice none 0 0, .slice A m c) : Value × Value)])[j]? = some u → (ps[j]? = some q ∧ us[j]? = some u) ∨ (q = ([], sub) ∧ u = (.slice none 0 0, .slice A m c)) := by
    intro j q u hq hu
    by_cases c : j < ps.length
    · rw [List.getElem?_append_left c] at hq
      rw [List.getElem?_append_left (by omega)] at hu
      exact .inl ⟨hq, hu⟩
    · rw [List.getElem?_append_right (by omega)] at hq hu
      have hj : j - ps.length = 0 := by
        have := (List.getElem?_eq_some_iff.1 hq).1
        simp at this
        omega
      rw [hj] at hq
      rw [hl, hj] at hu
      simp at hq hu
      exact .inr ⟨hq.symm, hu.symm⟩
  have new : ∀ k, k < w.heap.size → v.ownBlock ≠ some k → v1.ownBlock ≠ some k := by
    intro k hk hv
    rcases hat with e | ⟨b, e, hb⟩
    · rw [e]; exact hv
    · rw [e]; intro c; injection c with c; omega
  have free : ∀ {r : Rg} {A : Option Addr} {m : Nat}, RgAt (Free B fix v us) w r A m → RgAt (Free B fix v1 (us ++ [(.slice none 0 0, .slice A m c)])) w1 r A m := by
    intro r A' m' hr
    have h1 : RgAt (fun k => Free B fix v us k ∧ v1.ownBlock ≠ some k) w r A' m' := RgAt.mono (fun k hk o => ⟨o, new k hk o.2.2.1⟩) r hr
    have h2 := RgAt.keep (w' := w1) ⟨hg.size, fun k o hk => hg.block k hk (fun e => o.1.2.2.1 e.symm)⟩ r h1
    refine RgAt.mono (fun k _ o => ⟨o.1.1, o.1.2.1, o.2, fun u hu => ?_⟩) r h2
    rcases List.mem_append.1 hu with hu | hu
    · exact o.1.2.2.2 u hu
    · simp only [List.mem_cons, List.not_mem_nil, or_false] at hu
      subst hu
      simp [Value.ownBlock]
  refine ⟨by simp [hl], ?_, fun j q u hq hu => ?_, fun i j u u' hne hu hu' k hk => ?_, fun j q u hq hu => ?_, fun k hk => ⟨new k (hfix k hk) (h.fixne k hk).1, fun u hu => ?_⟩⟩
  · rw [outCells_snoc hl, List.length_append]
    exact hown
  · rcases split hq hu with ⟨hq, hu⟩ | ⟨rfl, rfl⟩
    · have hv := h.vals j q u hq hu
      refine own_kept_of hv fun k e => hg.block k (hv.lt k e).2 fun c => ?_
      exact own_types h.own hv (by decide) c.symm e
    · exact World.ownsRow_nil _ _ _ _
  · by_cases hi : i < us.length
    · rw [List.getElem?_append_left hi] at hu
      by_cases hj : j < us.length
      · rw [List.getElem?_append_left hj] at hu'
        exact h.apart i j u u' hne hu hu' k hk
      · rw [List.getElem?_append_right (by omega)] at hu'
        have : j - us.length = 0 := by have := (List.getElem?_eq_some_iff.1 hu').1; simp at this; omega
        rw [this] at hu'
        simp at hu'
        subst hu'
        simp [Value.ownBlock]
    · rw [List.getElem?_append_right (by omega)] at hu
      have : i - us.length = 0 := by have := (List.getElem?_eq_some_iff.1 hu).1; simp at this; omega
      rw [this] at hu
      simp at hu
      subst hu
      cases hk
  · rcases split hq hu with ⟨hq, hu⟩ | ⟨rfl, rfl⟩
    · obtain ⟨A', m', c', e, h1, h2, h3⟩ := h.rests j q u hq hu
      refine ⟨A', m', c', e, h1, h2, ?_⟩
      have := free (A := A') (m := m') h3
      exact RgAt.mono (fun k _ o => ⟨o.1, o.2.1, o.2.2.1, fun u hu => by
        rcases List.mem_append.1 hu with hu | hu
        · exact o.2.2.2 u (List.mem_append_left _ hu)
        · simp only [List.mem_cons, List.not_mem_nil, or_false] at hu
          subst hu
          simp [Value.ownBlock]⟩) _ this
    · exact ⟨A, m, c, rfl, hm, hc, free hs⟩
  · rcases List.mem_append.1 hu with hu | hu
    · exact (h.fixne k hk).2 u hu
    · simp only [List.mem_cons, List.not_mem_nil, or_false] at hu
      subst hu
      simp [Value.ownBlock]

/-- Part j has another list of intervals. -/
theorem OutAt.update {B : Nat} {fix : List Nat} {w w2 : World} {v : Value} {ps : Pts} {us : List (Value × Value)} (h : OutAt B fix w v ps us) {j : Nat} {q : List Iv × Rg} {u : Value × Value} (hq : ps[j]? = some q) (hu : us[j]? = some u) {l : List Iv} {x : Value}
    (hown : w2.ownsRow B 50 4 v ps.length (outCells (ps.set j (l, q.2)) (us.set j (x, u.2)))) (hval : w2.ownsRow B 41 7 x l.length (ivsCells l)) (hsz : w.heap.size ≤ w2.heap.size)
    (hk : ∀ k, k < w.heap.size → v.ownBlock ≠ some k → u.1.ownBlock ≠ some k → w2.heap[k]? = w.heap[k]?) (hat : x.ownBlock = u.1.ownBlock ∨ ∃ b, x.ownBlock = some b ∧ w.heap.size ≤ b) (hfix : ∀ k ∈ fix, k < w.heap.size) :
    OutAt B fix w2 v (ps.set j (l, q.2)) (us.set j (x, u.2)) := by
  have hj : j < ps.length := (List.getElem?_eq_some_iff.1 hq).1
  have hj' : j < us.length := (List.getElem?_eq_some_iff.1 hu).1
  have new : ∀ k, k < w.heap.size → u.1.ownBlock ≠ some k → x.ownBlock ≠ some k := by
    intro k hk hv
    rcases hat with e | ⟨b, e, hb⟩
    · rw [e]; exact hv
    · rw [e]; intro c; injection c with c; omega
  have memset : ∀ {y : Value × Value}, y ∈ us.set j (x, u.2) → y ∈ us ∨ y = (x, u.2) := fun hy => List.mem_or_eq_of_mem_set hy
  refine ⟨by simp [h.len], by rw [List.length_set]; exact hown, fun i q' u' hq' hu' => ?_, fun i i' y y' hne hy hy' k hk' => ?_, fun i q' u' hq' hu' => ?_, fun k hk' => ⟨(h.fixne k hk').1, fun y hy => ?_⟩⟩
  · by_cases e : i = j
    · subst e
      rw [List.getElem?_set_self hj] at hq'
      rw [List.getElem?_set_self hj'] at hu'
      cases hq'
      cases hu'
      exact hval
    · rw [List.getElem?_set_ne (fun c => e c.symm)] at hq' hu'
      have hv := h.vals i q' u' hq' hu'
      exact own_kept_of hv fun k ek => hk k (hv.lt k ek).2 (fun c => own_types h.own hv (by decide) c ek) (h.apart i j u' u e hu' hu k ek)
  · by_cases e : i = j
    · subst e
      rw [List.getElem?_set_self hj'] at hy
      cases hy
      rw [List.getElem?_set_ne hne] at hy'
      obtain ⟨q', hq'⟩ : ∃ q', ps[i']? = some q' := by
        have := (List.getElem?_eq_some_iff.1 hy').1
        exact ⟨ps[i']'(by have := h.len; omega), List.getElem?_eq_getElem _⟩
      have hv := h.vals i' q' y' hq' hy'
      intro c
      rcases hat with e | ⟨b, e, hb⟩
      · have e1 : u.1.ownBlock = some k := by rw [← e]; exact hk'
        exact h.apart i i' u y' hne hu hy' k e1 c
      · have := (hv.lt k c).2
        rw [e] at hk'
        injection hk' with hk'
        omega
    · rw [List.getElem?_set_ne (fun c => e c.symm)] at hy
      by_cases e' : i' = j
      · subst e'
        rw [List.getElem?_set_self hj'] at hy'
        cases hy'
        obtain ⟨q', hq'⟩ : ∃ q', ps[i]? = some q' := by
          have := (List.getElem?_eq_some_iff.1 hy).1
          exact ⟨ps[i]'(by have := h.len; omega), List.getElem?_eq_getElem _⟩
        have hv := h.vals i q' y hq' hy
        exact new k (hv.lt k hk').2 (h.apart i i' y u hne hy hu k hk')
      · rw [List.getElem?_set_ne (fun c => e' c.symm)] at hy'
        exact h.apart i i' y y' hne hy hy' k hk'
  · have key : ∀ (i : Nat) (q0 : List Iv × Rg) (u0 : Value × Value), ps[i]? = some q0 → us[i]? = some u0 → ∃ A m c, u0.2 = .slice A m c ∧ m ≤ c ∧ c ≤ 9223372036854775807 ∧ RgAt (Free B fix v (us.set j (x, u.2))) w2 q0.2 A m := by
      intro i q0 u0 hq0 hu0
      obtain ⟨A, m, c, e, h1, h2, h3⟩ := h.rests i q0 u0 hq0 hu0
      refine ⟨A, m, c, e, h1, h2, ?_⟩
      have h4 : RgAt (fun k => Free B fix v us k ∧ x.ownBlock ≠ some k) w q0.2 A m := RgAt.mono (fun k hk o => ⟨o, new k hk (o.2.2.2 u (List.mem_of_getElem? hu))⟩) _ h3
      have h5 := RgAt.keep (w' := w2) ⟨hsz, fun k o hl => hk k hl o.1.2.2.1 (o.1.2.2.2 u (List.mem_of_getElem? hu))⟩ _ h4
      refine RgAt.mono (fun k _ o => ⟨o.1.1, o.1.2.1, o.1.2.2.1, fun y hy => ?_⟩) _ h5
      rcases memset hy with hy | rfl
      · exact o.1.2.2.2 y hy
      · exact o.2
    by_cases e : i = j
    · subst e
      rw [List.getElem?_set_self hj] at hq'
      rw [List.getElem?_set_self hj'] at hu'
      cases hq'
      cases hu'
      exact key i q u hq hu
    · rw [List.getElem?_set_ne (fun c => e c.symm)] at hq' hu'
      exact key i q' u' hq' hu'
  · rcases memset hy with hy | rfl
    · exact (h.fixne k hk').2 y hy
    · exact new k (hfix k hk') ((h.fixne k hk').2 u (List.mem_of_getElem? hu))

end Go.Proofs.YtbkgmahpfghheaaDoor
