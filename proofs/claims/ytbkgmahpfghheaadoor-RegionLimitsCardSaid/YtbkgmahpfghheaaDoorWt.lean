/- The memory of combine between its steps. -/
import Derived.Test.YtbkgmahpfghheaaDoorWr
import Derived.Deep.AppendLies
namespace Go.Proofs.YtbkgmahpfghheaaDoor
open Go.RowKit
open Ps
open Go.Maps (Keyed)

def CombPost (o : Option Rg) (w : World) (e : Ending) (w' : World) : Prop :=
  Below w.heap.size w w' ∧ match o with
    | none => e = .returned (.tuple #[.agg #[.int .i64 0, .bool false, .slice none 0 0], .bool false])
    | some r => ∃ A m c, e = .returned (.tuple #[.agg #[.int .i64 r.w, .bool r.full, .slice A m c], .bool true]) ∧ RgAt (w.heap.size ≤ ·) w' r A m ∧ m ≤ c ∧ c ≤ 9223372036854775807

abbrev holdsV (b f s n : Bool) : Value := .func (.func 19) #[.agg #[.bool b, .bool f, .bool s, .bool n]] #[]

/-- The variables of combine. -/
structure CBox (b0 : Nat) (n1 : Int) (ac bc : List Value) (W : World) (v : Value) : Prop where
  a : W.heap[b0]? = some (.cells ac.toArray 24 (0, 0))
  b : W.heap[b0 + 1]? = some (.cells bc.toArray 24 (0, 0))
  r : W.heap[b0 + 1 + 1]? = some (.cells #[.int .i64 0, .bool false, .slice none 0 0] 24 (0, 0))
  o : W.heap[b0 + 1 + 1 + 1]? = some (.cells #[.int .i64 n1, .bool false, v] 24 (0, 0))
theorem CBox.below {b0 : Nat} {n1 : Int} {ac bc : List Value} {W W' : World} {v : Value} (h : CBox b0 n1 ac bc W v) (k : Below W.heap.size W W') : CBox b0 n1 ac bc W' v :=
  ⟨(k.block _ (Array.getElem?_eq_some_iff.1 h.a).1).trans h.a, (k.block _ (Array.getElem?_eq_some_iff.1 h.b).1).trans h.b, (k.block _ (Array.getElem?_eq_some_iff.1 h.r).1).trans h.r, (k.block _ (Array.getElem?_eq_some_iff.1 h.o).1).trans h.o⟩

/-- Blocks that combine writes beside the rows of `out`. -/
abbrev fixOf (b0 M1 : Nat) : List Nat := [b0, b0 + 1, b0 + 1 + 1, b0 + 1 + 1 + 1, M1, M1 + 1]

/-- What is kept since the maps were made in w4. -/
structure Low (b0 M1 : Nat) (w4 wr : World) : Prop where
  os : wr.os = w4.os
  tape : wr.tape = w4.tape
  output : wr.output = w4.output
  size : w4.heap.size ≤ wr.heap.size
  block : ∀ k, k < M1 + 1 + 1 → k ∉ fixOf b0 M1 → wr.heap[k]? = w4.heap[k]?


theorem MI.mono {k : TypeId} {w : World} {M n n' : Nat} {S : Lit → Option Int} (h : MI k w M n S) (hn : n ≤ n') : MI k w M n' S := by
  obtain ⟨D, ⟨es, cl, a, b, c, d⟩, e⟩ := h
  exact ⟨D, ⟨es, cl, a, b, Nat.le_trans c hn, d⟩, e⟩

/-- All blocks outside X are as they were. -/
structure Kb (X : Nat → Prop) (w w' : World) : Prop where
  os : w'.os = w.os
  tape : w'.tape = w.tape
  output : w'.output = w.output
  size : w.heap.size ≤ w'.heap.size
  block : ∀ k, k < w.heap.size → ¬ X k → w'.heap[k]? = w.heap[k]?
theorem Kb.of_below {w w' : World} (h : Below w.heap.size w w') : Kb (fun _ => False) w w' := ⟨h.os, h.tape, h.output, h.size, fun k hk _ => h.block k hk⟩
theorem Kb.of_grown {w w' : World} {row : Option Nat} (h : w.grownBy w' row) : Kb (fun k => row = some k) w w' := ⟨h.os, h.tape, h.output, h.size, fun k hk hx => h.block k hk (fun e => hx e.symm)⟩
theorem Kb.put {X : Nat → Prop} {w w' : World} (h : Kb X w w') {b : Nat} (hb : X b) (off : Nat) (u : Value) : Kb X w (w'.setCell ⟨b, off, none⟩ u) :=
  ⟨h.os, h.tape, h.output, by simpa [World.setCell] using h.size, fun k hk hx => (Below.heap_setCell _ _ _ _ (fun e => hx (by rw [e]; exact hb))).trans (h.block k hk hx)⟩
theorem Kb.mono {X Y : Nat → Prop} {w w' : World} (h : Kb X w w') (hXY : ∀ k, X k → Y k) : Kb Y w w' := ⟨h.os, h.tape, h.output, h.size, fun k hk hy => h.block k hk (fun hx => hy (hXY k hx))⟩
theorem Kb.low {X : Nat → Prop} {b0 M1 : Nat} {w4 wr w' : World} (h : Low b0 M1 w4 wr) (k : Kb X wr w') (hM : M1 + 1 + 1 ≤ w4.heap.size) (hX : ∀ k, X k → k ∈ fixOf b0 M1 ∨ M1 + 1 + 1 ≤ k) : Low b0 M1 w4 w' :=
  ⟨k.os.trans h.os, k.tape.trans h.tape, k.output.trans h.output, Nat.le_trans h.size k.size, fun i hi hf => (k.block i (by have := h.size; omega) (fun hx => by rcases hX i hx with c | c; exact hf c; omega)).trans (h.block i hi hf)⟩
theorem CBox.kb {X : Nat → Prop} {b0 : Nat} {n1 : Int} {ac bc : List Value} {W W' : World} {v : Value} (h : CBox b0 n1 ac bc W v) (k : Kb X W W') (hX : ∀ k, X k → b0 + 1 + 1 + 1 < k) : CBox b0 n1 ac bc W' v := by
  refine ⟨(k.block _ (Array.getElem?_eq_some_iff.1 h.a).1 fun c => ?_).trans h.a, (k.block _ (Array.getElem?_eq_some_iff.1 h.b).1 fun c => ?_).trans h.b, (k.block _ (Array.getElem?_eq_some_iff.1 h.r).1 fun c => ?_).trans h.r, (k.block _ (Array.getElem?_eq_some_iff.1 h.o).1 fun c => ?_).trans h.o⟩ <;> (have := hX _ c; omega)
theorem CBox.put {b0 : Nat} {n1 : Int} {ac bc : List Value} {W : World} {v : Value} (h : CBox b0 n1 ac bc W v) (u : Value) : CBox b0 n1 ac bc (W.setCell ⟨b0 + 1 + 1 + 1, 2, none⟩ u) u := by
  refine ⟨?_, ?_, ?_, ?_⟩
  · rw [Below.heap_setCell _ _ _ _ (by show b0 ≠ b0 + 1 + 1 + 1; omega)]; exact h.a
  · rw [Below.heap_setCell _ _ _ _ (by show b0 + 1 ≠ b0 + 1 + 1 + 1; omega)]; exact h.b
  · rw [Below.heap_setCell _ _ _ _ (by show b0 + 1 + 1 ≠ b0 + 1 + 1 + 1; omega)]; exact h.r
  · rw [heap_setCell_same _ _ _ _ _ _ h.o]; rfl

/-- What lies in memory while combine runs. -/
structure MW (b0 M1 : Nat) (n1 : Int) (ac bc : List Value) (w4 : World) (i1 i2 : Nat) (ps : Pts) (us : List (Value × Value)) (v : Value) (known byText : Lit → Option Int) (wr : World) : Prop where
  box : CBox b0 n1 ac bc wr v
  out : OutAt (M1 + 1 + 1) (fixOf b0 M1) wr v ps us
  m1 : MI 62 wr M1 i1 known
  m2 : MI 9 wr (M1 + 1) i2 byText
  low : Low b0 M1 w4 wr
  sz : M1 + 1 + 1 ≤ w4.heap.size
  b4 : b0 + 1 + 1 + 1 < M1

section
variable {b0 M1 : Nat} {n1 : Int} {ac bc : List Value} {w4 : World} {i1 i2 : Nat} {ps : Pts} {us : List (Value × Value)} {v : Value} {known byText : Lit → Option Int} {wr : World}

theorem fix_iff {k : Nat} : k ∈ fixOf b0 M1 ↔ k = b0 ∨ k = b0 + 1 ∨ k = b0 + 1 + 1 ∨ k = b0 + 1 + 1 + 1 ∨ k = M1 ∨ k = M1 + 1 := by
  simp [fixOf]
theorem MW.size (h : MW b0 M1 n1 ac bc w4 i1 i2 ps us v known byText wr) : M1 + 1 + 1 ≤ wr.heap.size := Nat.le_trans h.sz h.low.size
theorem MW.fixlt (h : MW b0 M1 n1 ac bc w4 i1 i2 ps us v known byText wr) : ∀ k ∈ fixOf b0 M1, k < wr.heap.size := by
  intro k hk
  have h1 := h.size
  have h2 := h.b4
  rw [fix_iff] at hk
  omega

theorem MW.kb {X : Nat → Prop} {i1' i2' : Nat} {known' byText' : Lit → Option Int} {w' : World} (h : MW b0 M1 n1 ac bc w4 i1 i2 ps us v known byText wr) (k : Kb X wr w') (hX : ∀ k, X k → k = M1 ∨ k = M1 + 1)
    (h1 : MI 62 w' M1 i1' known') (h2 : MI 9 w' (M1 + 1) i2' byText') : MW b0 M1 n1 ac bc w4 i1' i2' ps us v known' byText' w' := by
  have hb4 := h.b4
  refine ⟨h.box.kb k (fun i hi => by have := hX i hi; omega), h.out.frame k.size fun i hi hf => k.block i hi fun hx => hf (fix_iff.2 (by have := hX i hx; omega)), h1, h2, Kb.low h.low k h.sz fun i hi => .inl (fix_iff.2 (by have := hX i hi; omega)), h.sz, h.b4⟩
theorem MW.below {w' : World} (h : MW b0 M1 n1 ac bc w4 i1 i2 ps us v known byText wr) (k : Below wr.heap.size wr w') : MW b0 M1 n1 ac bc w4 i1 i2 ps us v known byText w' := by
  have := h.size
  exact h.kb (Kb.of_below k) (fun _ c => c.elim) (h.m1.kept (k.block _ (by omega))) (h.m2.kept (k.block _ (by omega)))
theorem MW.put1 {i : Nat} {known' : Lit → Option Int} {w' : World} (h : MW b0 M1 n1 ac bc w4 i1 i2 ps us v known byText wr) (hm : MI 62 w' M1 i known') (hg : wr.grownBy w' (some M1)) : MW b0 M1 n1 ac bc w4 i i2 ps us v known' byText w' := by
  have := h.size
  exact h.kb (Kb.of_grown hg) (fun k c => by injection c with c; omega) hm (h.m2.kept (hg.block _ (by omega) (by simp)))
theorem MW.put2 {i : Nat} {byText' : Lit → Option Int} {w' : World} (h : MW b0 M1 n1 ac bc w4 i1 i2 ps us v known byText wr) (hm : MI 9 w' (M1 + 1) i byText') (hg : wr.grownBy w' (some (M1 + 1))) : MW b0 M1 n1 ac bc w4 i1 i ps us v known byText' w' := by
  have := h.size
  exact h.kb (Kb.of_grown hg) (fun k c => by injection c with c; omega) (h.m1.kept (hg.block _ (by omega) (by simp))) hm

theorem MW.vb (h : MW b0 M1 n1 ac bc w4 i1 i2 ps us v known byText wr) : ∀ k, v.ownBlock = some k → M1 + 1 + 1 ≤ k ∧ k < wr.heap.size := fun k e => h.out.own.lt k e
theorem MW.ub (h : MW b0 M1 n1 ac bc w4 i1 i2 ps us v known byText wr) {j : Nat} {q : List Iv × Rg} {u : Value × Value} (hq : ps[j]? = some q) (hu : us[j]? = some u) : ∀ k, u.1.ownBlock = some k → M1 + 1 + 1 ≤ k ∧ k < wr.heap.size := fun k e => (h.out.vals j q u hq hu).lt k e

theorem MW.more {w1 : World} {v1 : Value} (h : MW b0 M1 n1 ac bc w4 i1 i2 ps us v known byText wr) {sub : Rg} {A : Option Addr} {m c : Nat} (hs : RgAt (Free (M1 + 1 + 1) (fixOf b0 M1) v us) wr sub A m) (hm : m ≤ c) (hc : c ≤ 9223372036854775807)
    (hown : w1.ownsRow (M1 + 1 + 1) 50 4 v1 (ps.length + 1) (outCells ps us ++ partCells ([], sub) (.slice none 0 0, .slice A m c))) (hg : wr.grownBy w1 v.ownBlock) (hat : v1.ownBlock = v.ownBlock ∨ ∃ b, v1.ownBlock = some b ∧ wr.heap.size ≤ b) :
    MW b0 M1 n1 ac bc w4 i1 i2 (ps ++ [([], sub)]) (us ++ [(.slice none 0 0, .slice A m c)]) v1 known byText (w1.setCell ⟨b0 + 1 + 1 + 1, 2, none⟩ v1) := by
  have hsz := h.size
  have hb4 := h.b4
  have hvb := h.vb
  have k := Kb.of_grown hg
  have ho := h.out.more hs hm hc hown hg hat h.fixlt
  have hbx := h.box.kb k (fun i hi => by have := hvb i hi; omega)
  have k2 : Kb (fun i => v.ownBlock = some i ∨ i = b0 + 1 + 1 + 1) wr (w1.setCell ⟨b0 + 1 + 1 + 1, 2, none⟩ v1) := (k.mono fun i hi => .inl hi).put (.inr rfl) 2 v1
  refine ⟨hbx.put v1, ho.frame (by simp [World.setCell]) fun i _ hf => Below.heap_setCell _ _ _ _ (fun e => hf (fix_iff.2 (by have e' : i = b0 + 1 + 1 + 1 := e; omega))), h.m1.kept (k2.block _ (by omega) ?_), h.m2.kept (k2.block _ (by omega) ?_), Kb.low h.low k2 h.sz ?_, h.sz, h.b4⟩
  · rintro (e | e)
    · have := hvb _ e; omega
    · omega
  · rintro (e | e)
    · have := hvb _ e; omega
    · omega
  · rintro i (e | e)
    · exact .inr (hvb i e).1
    · exact .inl (fix_iff.2 (by omega))

theorem MW.shut {w' : World} (h : MW b0 M1 n1 ac bc w4 i1 i2 ps us v known byText wr) {j : Nat} {q : List Iv × Rg} {u : Value × Value} (hq : ps[j]? = some q) (hu : us[j]? = some u) {l : List Iv}
    (hval : w'.ownsRow (M1 + 1 + 1) 41 7 u.1 l.length (ivsCells l)) (hg : wr.grownBy w' u.1.ownBlock) :
    MW b0 M1 n1 ac bc w4 i1 i2 (ps.set j (l, q.2)) us v known byText w' := by
  have hsz := h.size
  have hb4 := h.b4
  have hub := h.ub hq hu
  have k := Kb.of_grown hg
  have hj : j < us.length := (List.getElem?_eq_some_iff.1 hu).1
  have eu : us.set j (u.1, u.2) = us := by
    refine List.ext_getElem? fun i => ?_
    by_cases e : j = i
    · subst e; rw [List.getElem?_set_self hj, hu]
    · rw [List.getElem?_set_ne e]
  have hv : ∀ i, v.ownBlock = some i → u.1.ownBlock ≠ some i := fun i e => own_types h.out.own (h.out.vals j q u hq hu) (by decide) e
  have hown : w'.ownsRow (M1 + 1 + 1) 50 4 v ps.length (outCells (ps.set j (l, q.2)) us) := by
    rw [outCells_same hq]
    exact own_kept_of h.out.own fun i e => k.block i (h.vb i e).2 (hv i e)
  have := h.out.update hq hu (l := l) (x := u.1) (by rw [eu]; exact hown) hval hg.size (fun i hi _ hx => k.block i hi hx) (.inl rfl) h.fixlt
  rw [eu] at this
  exact ⟨h.box.kb k (fun i hi => by have := hub i hi; omega), this, h.m1.kept (k.block _ (by omega) fun e => by have := hub _ e; omega), h.m2.kept (k.block _ (by omega) fun e => by have := hub _ e; omega), Kb.low h.low k h.sz fun i hi => .inr (hub i hi).1, h.sz, h.b4⟩

theorem MW.form (h : MW b0 M1 n1 ac bc w4 i1 i2 ps us v known byText wr) {j : Nat} {q : List Iv × Rg} (hq : ps[j]? = some q) : ∃ g cap, v = .slice (some ⟨g, 0, none⟩) ps.length cap ∧ ps.length ≤ cap ∧ cap ≤ 9223372036854775807 ∧ M1 + 1 + 1 ≤ g ∧ g < wr.heap.size := by
  rcases h.out.own.2 with ⟨_, h0⟩ | ⟨g, cap, cur, e, _, _, c1, c2, _⟩
  · have := (List.getElem?_eq_some_iff.1 hq).1
    omega
  · exact ⟨g, cap, e, c1, c2, h.vb g (by rw [e]; rfl)⟩

theorem MW.push {w5 : World} {v1 : Value} (h : MW b0 M1 n1 ac bc w4 i1 i2 ps us v known byText wr) {j : Nat} {q : List Iv × Rg} {u : Value × Value} (hq : ps[j]? = some q) (hu : us[j]? = some u) {l : List Iv}
    (hval : w5.ownsRow (M1 + 1 + 1) 41 7 v1 l.length (ivsCells l)) (hg : wr.grownBy w5 u.1.ownBlock) (hat : v1.ownBlock = u.1.ownBlock ∨ ∃ b, v1.ownBlock = some b ∧ wr.heap.size ≤ b) {g cap : Nat} (ev : v = .slice (some ⟨g, 0, none⟩) ps.length cap) :
    MW b0 M1 n1 ac bc w4 i1 i2 (ps.set j (l, q.2)) (us.set j (v1, u.2)) v known byText (w5.setCell ⟨g, j * 4, none⟩ v1) := by
  have hsz := h.size
  have hb4 := h.b4
  have hub := h.ub hq hu
  have hgb := h.vb g (by rw [ev]; rfl)
  have k := Kb.of_grown hg
  have hug : u.1.ownBlock ≠ some g := fun e => own_types h.out.own (h.out.vals j q u hq hu) (by decide) (by rw [ev]; rfl) e
  have hv1g : v1.ownBlock ≠ some g := by
    rcases hat with e | ⟨b, e, hb⟩
    · rw [e]; exact hug
    · rw [e]; intro c; injection c with c; omega
  have ho5 : w5.ownsRow (M1 + 1 + 1) 50 4 (.slice (some ⟨g, 0, none⟩) ps.length cap) ps.length (outCells ps us) := by
    have := h.out.own
    rw [ev] at this
    exact own_kept_of this fun i e => k.block i (this.lt i e).2 (by have e' : g = i := by simpa [Value.ownBlock] using e
                                                                    rw [← e']; exact hug)
  obtain ⟨s1, t1⟩ := ho5.stored (j * 4) v1
  rw [outCells_put hq hu l v1] at s1
  have k2 : Kb (fun i => u.1.ownBlock = some i ∨ i = g) wr (w5.setCell ⟨g, j * 4, none⟩ v1) := (k.mono fun i hi => .inl hi).put (.inr rfl) _ v1
  have hval2 : (w5.setCell ⟨g, j * 4, none⟩ v1).ownsRow (M1 + 1 + 1) 41 7 v1 l.length (ivsCells l) := own_kept_of hval fun i e => t1.block i (hval.lt i e).2 (fun c => hv1g (by rw [e]; exact c))
  have hX : ∀ i, (u.1.ownBlock = some i ∨ i = g) → M1 + 1 + 1 ≤ i := by
    rintro i (e | e)
    · exact (hub i e).1
    · omega
  have hout := h.out.update hq hu (l := l) (x := v1) (by rw [ev]; exact s1) hval2 k2.size (fun i hi hvi hx => k2.block i hi (by
    rintro (e | e)
    · exact hx e
    · exact hvi (by rw [ev, e]; rfl))) hat h.fixlt
  exact ⟨h.box.kb k2 (fun i hi => by have := hX i hi; omega), hout, h.m1.kept (k2.block _ (by omega) fun e => by have := hX _ e; omega), h.m2.kept (k2.block _ (by omega) fun e => by have := hX _ e; omega), Kb.low h.low k2 h.sz fun i hi => .inr (hX i hi), h.sz, h.b4⟩

theorem MW.val_cell (h : MW b0 M1 n1 ac bc w4 i1 i2 ps us v known byText wr) {j : Nat} {q : List Iv × Rg} {u : Value × Value} (hq : ps[j]? = some q) (hu : us[j]? = some u) {g cap : Nat} (ev : v = .slice (some ⟨g, 0, none⟩) ps.length cap) :
    wr.cell? ⟨g, j * 4, none⟩ = some u.1 ∧ wr.frozen? ⟨g, j * 4, none⟩ = false := by
  have hown := h.out.own
  rw [ev] at hown
  have hj := (List.getElem?_eq_some_iff.1 hq).1
  refine ⟨?_, hown.frozenAt _⟩
  have hz : (ps.zip us)[j]? = some (q, u) := by
    rw [List.getElem?_zip_eq_some]
    exact ⟨hq, hu⟩
  have get := flatMap_get (f := fun x : (List Iv × Rg) × (Value × Value) => partCells x.1 x.2) (k := 4) (fun _ => rfl) hz 0 (by omega)
  exact (hown.cellAt (j * 4) (by omega)).trans get
end

/-- The pure step of the sweep. -/
theorem lsweep_go {f : Vl → Option Rg} {p : Vl} {l : List Vl} {ps ps' : Pts} {last o : Option Nat} {sub : Rg} {R : Option Pts} (h : lsweep f (p :: l) ps last = R) (hf : f p = some sub) (hs : seek ps sub = (ps', o)) (hc : cntL ps' ≤ 64) : lsweep f l (stepPs ps' last o p) o = R := by
  rw [lsweep, hf] at h
  simp only [hs] at h
  rwa [if_neg (by omega)] at h
theorem lsweep_stop {f : Vl → Option Rg} {p : Vl} {l : List Vl} {ps : Pts} {last : Option Nat} {R : Option Pts} (h : lsweep f (p :: l) ps last = R) (hf : f p = none) : R = none := by
  rw [lsweep, hf] at h
  exact h.symm
theorem lsweep_full {f : Vl → Option Rg} {p : Vl} {l : List Vl} {ps ps' : Pts} {last o : Option Nat} {sub : Rg} {R : Option Pts} (h : lsweep f (p :: l) ps last = R) (hf : f p = some sub) (hs : seek ps sub = (ps', o)) (hc : 64 < cntL ps') : R = none := by
  rw [lsweep, hf] at h
  simp only [hs] at h
  rw [if_pos hc] at h
  exact h.symm

theorem modify_set {α : Type} {l : List α} {j : Nat} {q : α} (h : l[j]? = some q) (f : α → α) : l.modify j f = l.set j (f q) := by
  refine List.ext_getElem? fun i => ?_
  have hj := (List.getElem?_eq_some_iff.1 h).1
  rw [List.getElem?_modify]
  by_cases e : j = i
  · subst e
    rw [List.getElem?_set_self hj, h]
    simp
  · rw [List.getElem?_set_ne e]
    simp [e]

/-- The state of combine's loop over the points: i of them are done. -/
structure LS (op : Bool → Bool → Bool) (n : Nat) (a b : Rg) (L1 L2 : List Sp) (pts : List Vl) (R : Option Pts) (i : Nat) (last : Option Nat) (ps : Pts) (known byText : Lit → Option Int) (LA LB : List Sp) : Prop where
  cs : CS op n a b ps last known byText i
  la : ∀ p ∈ pts.drop i, atL p LA = atL p L1
  lb : ∀ p ∈ pts.drop i, atL p LB = atL p L2
  res : lsweep (fun v => lform op n (restAt a v) (restAt b v)) (pts.drop i) ps last = R

theorem ins_len (v : Vl) : ∀ l, (ins v l).length ≤ l.length + 1
  | [] => by simp [ins]
  | u :: l => by
    have := ins_len v l
    rw [ins]
    split
    · simp
    · split
      · simp
      · simp only [List.length_cons]; omega
theorem sortU_len : ∀ l, (sortU l).length ≤ l.length
  | [] => by simp [sortU]
  | v :: l => by
    have h1 := sortU_len l
    have h2 := ins_len v (sortU l)
    rw [sortU]
    simp only [List.length_cons]
    omega
theorem points_len {a b : Rg} {L M : List Sp} (hL : L.Perm (flatS 0 a.ps)) (hM : M.Perm (flatS 0 b.ps)) (h1 : L.length ≤ 4096) (h2 : M.length ≤ 4096) : (points a b).length ≤ 20000 := by
  rw [← sends_points hL hM]
  have a1 := sortU_len (Vl.least :: (sends L ++ sends M))
  have a2 := sends_len L
  have a3 := sends_len M
  rw [List.length_cons, List.length_append] at a1
  omega

theorem fits_rest {a : Rg} (h : Fits a) (i : Int) : Fits (restI a i) := by
  have z : Fits (.mk (a.w - 1) false []) := ⟨by simp [Rg.cnt, cntL], by simp [Rg.slim, slimL]⟩
  unfold restI
  split
  · exact z
  · split
    · rename_i p hp
      have hm := List.mem_of_getElem? hp
      obtain ⟨h1, h2⟩ := h
      rw [Rg.cnt_ps] at h1
      have := cnt_le_of_mem hm
      exact ⟨by omega, ((Rg.slim_iff a).1 h2 p hm).2⟩
    · exact z
theorem lform_canon {op : Bool → Bool → Bool} {n : Nat} (hn : n ≤ 12) {a b sub : Rg} (ha : Ps.Form n a) (hb : Ps.Form n b) (h : lform op n a b = some sub) : Canon sub := by
  rw [lform_is] at h
  split at h
  · rename_i hF
    cases h
    exact ⟨n, hn, (form_is op n a b ha hb).1, hF⟩
  · cases h

/-- The boxes of the point and of the pair. -/
structure PB (P : Nat) (p : Vl) (x y : Int) (w : World) : Prop where
  p : w.heap[P]? = some (.cells #[.int .i64 p.kind, .int .i64 p.num, .string p.text] 39 (0, 0))
  q : w.heap[P + 1]? = some (.cells #[.int .i64 x, .int .i64 y] 62 (0, 0))
theorem PB.made (w : World) (p : Vl) : PB w.heap.size p 0 0 ((w.alloc (.cells #[.int .i64 p.kind, .int .i64 p.num, .string p.text] 39)).alloc (.cells #[.int .i64 0, .int .i64 0] 62)) := by
  refine ⟨?_, ?_⟩
  · rw [Below.heap_alloc _ _ _ (by simp)]
    exact heap_alloc_new _ _
  · have := heap_alloc_new (w.alloc (.cells #[.int .i64 p.kind, .int .i64 p.num, .string p.text] 39)) (.cells #[.int .i64 0, .int .i64 0] 62)
    simpa using this
theorem PB.kb {X : Nat → Prop} {P : Nat} {p : Vl} {x y : Int} {w w' : World} (h : PB P p x y w) (k : Kb X w w') (h1 : ¬ X P) (h2 : ¬ X (P + 1)) : PB P p x y w' :=
  ⟨(k.block _ (Array.getElem?_eq_some_iff.1 h.p).1 h1).trans h.p, (k.block _ (Array.getElem?_eq_some_iff.1 h.q).1 h2).trans h.q⟩
theorem PB.below {P : Nat} {p : Vl} {x y : Int} {w w' : World} (h : PB P p x y w) (k : Below w.heap.size w w') : PB P p x y w' := h.kb (Kb.of_below k) id id
theorem PB.lt {P : Nat} {p : Vl} {x y : Int} {w : World} (h : PB P p x y w) : P + 1 < w.heap.size := (Array.getElem?_eq_some_iff.1 h.q).1
theorem PB.set0 {P : Nat} {p : Vl} {x y : Int} {w : World} (h : PB P p x y w) (u : Int) : PB P p u y (w.setCell ⟨P + 1, 0, none⟩ (.int .i64 u)) := by
  refine ⟨?_, ?_⟩
  · rw [Below.heap_setCell _ _ _ _ (by show P ≠ P + 1; omega)]; exact h.p
  · rw [heap_setCell_same _ _ _ _ _ _ h.q]; rfl
theorem PB.set1 {P : Nat} {p : Vl} {x y : Int} {w : World} (h : PB P p x y w) (u : Int) : PB P p x u (w.setCell ⟨P + 1, 1, none⟩ (.int .i64 u)) := by
  refine ⟨?_, ?_⟩
  · rw [Below.heap_setCell _ _ _ _ (by show P ≠ P + 1; omega)]; exact h.p
  · rw [heap_setCell_same _ _ _ _ _ _ h.q]; rfl
theorem PB.cells {P : Nat} {p : Vl} {x y : Int} {w : World} (h : PB P p x y w) : w.cell? ⟨P, 0, none⟩ = some (.int .i64 p.kind) ∧ w.cell? ⟨P, 1, none⟩ = some (.int .i64 p.num) ∧ w.cell? ⟨P, 2, none⟩ = some (.string p.text) ∧
    w.cell? ⟨P + 1, 0, none⟩ = some (.int .i64 x) ∧ w.cell? ⟨P + 1, 1, none⟩ = some (.int .i64 y) ∧ w.frozen? ⟨P + 1, 0, none⟩ = false ∧ w.frozen? ⟨P + 1, 1, none⟩ = false := by
  simp [World.cell?, World.frozen?, h.p, h.q]
theorem PB.facts {P : Nat} {p : Vl} {x y : Int} {w : World} (h : PB P p x y w) (u : Int) : w.cell? ⟨P + 1, 0, none⟩ = some (.int .i64 x) ∧ w.frozen? ⟨P + 1, 0, none⟩ = false ∧
    (w.setCell ⟨P + 1, 0, none⟩ (.int .i64 u)).cell? ⟨P, 0, none⟩ = some (.int .i64 p.kind) ∧ (w.setCell ⟨P + 1, 0, none⟩ (.int .i64 u)).cell? ⟨P, 1, none⟩ = some (.int .i64 p.num) ∧ (w.setCell ⟨P + 1, 0, none⟩ (.int .i64 u)).cell? ⟨P, 2, none⟩ = some (.string p.text) ∧
    (w.setCell ⟨P + 1, 0, none⟩ (.int .i64 u)).cell? ⟨P + 1, 0, none⟩ = some (.int .i64 u) ∧ (w.setCell ⟨P + 1, 0, none⟩ (.int .i64 u)).cell? ⟨P + 1, 1, none⟩ = some (.int .i64 y) := by
  obtain ⟨_, _, _, a, b, c, d⟩ := h.cells
  obtain ⟨e, f, g, i, j, _⟩ := (h.set0 u).cells
  exact ⟨a, c, e, f, g, i, j⟩

theorem wfI_of {x : Int} (h1 : -9223372036854775808 ≤ x) (h2 : x ≤ 9223372036854775807) : wfI x := by
  unfold wfI
  have e1 : IntKind.i64.min = -9223372036854775808 := by decide
  have e2 : IntKind.i64.max = 9223372036854775807 := by decide
  simp only [Lit.wf, e1, e2, Bool.and_eq_true, decide_eq_true_eq]
  omega
theorem SpAt.kb {X ok : Nat → Prop} {w w' : World} (k : Kb X w w') (hX : ∀ i, X i → ¬ ok i) {A : Option Addr} {n : Nat} {l : List Sp} (h : SpAt ok w A n l) : SpAt ok w' A n l := ⟨h.1, h.2.keep ⟨k.size, fun i o hl => k.block i hl fun c => hX i c o⟩⟩
theorem atI_congr {v : Vl} {l l' : List Sp} (h : atL v l = atL v l') : atI v l = atI v l' := by rw [atI, atI, h]
theorem umap_pi : Tryd.prog.underlying 60 = some (.map 62 3) := by kernel_rfl
theorem umap_si : Tryd.prog.underlying 61 = some (.map 9 3) := by kernel_rfl
theorem points_lt {a b : Rg} {k : Nat} {p : Vl} {l : List Vl} (h : (points a b).drop k = p :: l) {u : Vl} (hu : u ∈ l) : p ≤ u := by
  have h1 : ((points a b).drop k).Pairwise (· < ·) := (sortU_sorted _).sublist (List.drop_sublist _ _)
  rw [h, List.pairwise_cons] at h1
  have := h1.1 u hu
  grind

theorem PB.facts1 {P : Nat} {p : Vl} {x y : Int} {w : World} (h : PB P p x y w) (u : Int) : w.cell? ⟨P + 1, 1, none⟩ = some (.int .i64 y) ∧ w.frozen? ⟨P + 1, 1, none⟩ = false ∧
    (w.setCell ⟨P + 1, 1, none⟩ (.int .i64 u)).cell? ⟨P + 1, 0, none⟩ = some (.int .i64 x) ∧ (w.setCell ⟨P + 1, 1, none⟩ (.int .i64 u)).cell? ⟨P + 1, 1, none⟩ = some (.int .i64 u) := by
  obtain ⟨_, _, _, a, b, c, d⟩ := h.cells
  obtain ⟨_, _, _, i, j, _⟩ := (h.set1 u).cells
  exact ⟨b, d, i, j⟩
theorem Kb.set (w : World) (b off : Nat) (u : Value) : Kb (fun i => i = b) w (w.setCell ⟨b, off, none⟩ u) := Kb.put (X := fun i => i = b) ⟨rfl, rfl, rfl, Nat.le_refl _, fun _ _ _ => rfl⟩ rfl off u

/-! ### The recursive call's region -/
def ZB (D : Nat) (w : World) : Prop := w.heap[D]? = some (.cells #[.int .i64 0, .bool false, .slice none 0 0] 24 (0, 0))
theorem ZB.made (w : World) : ZB w.heap.size (w.alloc (.cells #[.int .i64 0, .bool false, .slice none 0 0] 24)) := heap_alloc_new _ _
theorem ZB.lt {D : Nat} {w : World} (h : ZB D w) : D < w.heap.size := (Array.getElem?_eq_some_iff.1 h).1
theorem ZB.below {D : Nat} {w w' : World} (k : Below w.heap.size w w') (h : ZB D w) : ZB D w' := (k.block _ h.lt).trans h
theorem ZB.cells {D : Nat} {w : World} (h : ZB D w) : w.cell? ⟨D, 0, none⟩ = some (.int .i64 0) ∧ w.cell? ⟨D, 1, none⟩ = some (.bool false) ∧ w.cell? ⟨D, 2, none⟩ = some (.slice none 0 0) ∧ w.frozen? ⟨D, 0, none⟩ = false ∧ w.frozen? ⟨D, 1, none⟩ = false ∧ w.frozen? ⟨D, 2, none⟩ = false := by
  unfold ZB at h
  simp [World.cell?, World.frozen?, h]
theorem ZB.fill {D : Nat} {w : World} (h : ZB D w) (a b c : Value) : (((w.setCell ⟨D, 0, none⟩ a).setCell ⟨D, 1, none⟩ b).setCell ⟨D, 2, none⟩ c).heap[D]? = some (.cells #[a, b, c] 24 (0, 0)) := by
  have h1 := heap_setCell_same w D 0 _ _ a h
  have h2 := heap_setCell_same _ D 1 _ _ b h1
  have h3 := heap_setCell_same _ D 2 _ _ c h2
  exact h3

/-- The result of a call of combine, in one form for both answers. -/
def SubRes (r : Option Rg) (u wC : World) (wd : Int) (fd : Bool) (A : Option Addr) (m c : Nat) (ok : Bool) : Prop :=
  Below u.heap.size u wC ∧ ((r = none ∧ ok = false) ∨ ∃ sub, r = some sub ∧ ok = true ∧ wd = sub.w ∧ fd = sub.full ∧ RgAt (u.heap.size ≤ ·) wC sub A m ∧ m ≤ c ∧ c ≤ 9223372036854775807)
theorem CombPost.res {r : Option Rg} {u : World} {e : Ending} {wC : World} (h : CombPost r u e wC) : ∃ wd fd A m c ok, e = .returned (.tuple #[.agg #[.int .i64 wd, .bool fd, .slice A m c], .bool ok]) ∧ SubRes r u wC wd fd A m c ok := by
  obtain ⟨hb, h⟩ := h
  cases r with
  | none => exact ⟨0, false, none, 0, 0, false, h, hb, .inl ⟨rfl, rfl⟩⟩
  | some sub =>
    obtain ⟨A, m, c, e, h1, h2, h3⟩ := h
    exact ⟨sub.w, sub.full, A, m, c, true, e, hb, .inr ⟨sub, rfl, rfl, rfl, rfl, h1, h2, h3⟩⟩

def SubEnd (w9 : World) (r : Option Rg) (D : Nat) (wx : World) (ok : Bool) : Prop :=
  Below w9.heap.size w9 wx ∧ w9.heap.size ≤ D ∧ ((r = none ∧ ok = false) ∨ ∃ sub, r = some sub ∧ ok = true ∧ ∃ A m c, wx.heap[D]? = some (.cells #[.int .i64 sub.w, .bool sub.full, .slice A m c] 24 (0, 0)) ∧ RgAt (w9.heap.size ≤ ·) wx sub A m ∧ m ≤ c ∧ c ≤ 9223372036854775807)
theorem sub_end {w9 u wC : World} {D : Nat} {r : Option Rg} {wd : Int} {fd : Bool} {A : Option Addr} {m c : Nat} {ok : Bool} (h9 : Below w9.heap.size w9 u) (hz : ZB D u) (hD : w9.heap.size ≤ D) (hr : SubRes r u wC wd fd A m c ok) :
    SubEnd w9 r D (((wC.setCell ⟨D, 0, none⟩ (.int .i64 wd)).setCell ⟨D, 1, none⟩ (.bool fd)).setCell ⟨D, 2, none⟩ (.slice A m c)) ok := by
  obtain ⟨hb, hr⟩ := hr
  have k : Kb (fun i => i = D) wC (((wC.setCell ⟨D, 0, none⟩ (.int .i64 wd)).setCell ⟨D, 1, none⟩ (.bool fd)).setCell ⟨D, 2, none⟩ (.slice A m c)) := ((Kb.set wC D 0 (.int .i64 wd)).put rfl 1 _).put rfl 2 _
  refine ⟨(((below_call h9 hb).setCell hD _).setCell hD _).setCell hD _, hD, hr.imp id ?_⟩
  rintro ⟨sub, e1, e2, rfl, rfl, h1, h2, h3⟩
  refine ⟨sub, e1, e2, A, m, c, (hz.below hb).fill _ _ _, ?_, h2, h3⟩
  have h4 : RgAt (fun i => w9.heap.size ≤ i ∧ i ≠ D) wC sub A m := RgAt.mono (fun i _ hi => ⟨Nat.le_trans h9.size hi, by have := hz.lt; omega⟩) _ h1
  exact RgAt.mono (fun i _ hi => hi.1) _ (RgAt.keep ⟨k.size, fun i o hl => k.block i hl o.2⟩ _ h4)
theorem sub_end' {w9 u wC : World} {r : Option Rg} {wd : Int} {fd : Bool} {A : Option Addr} {m c : Nat} {ok : Bool} (h9 : Below w9.heap.size w9 u) (hr : SubRes r u wC wd fd A m c ok) :
    SubEnd w9 r wC.heap.size (wC.alloc (.cells #[.int .i64 wd, .bool fd, .slice A m c] 24)) ok := by
  obtain ⟨hb, hr⟩ := hr
  have hb9 := below_call h9 hb
  refine ⟨hb9.alloc hb9.size _, hb9.size, hr.imp id ?_⟩
  rintro ⟨sub, e1, e2, rfl, rfl, h1, h2, h3⟩
  refine ⟨sub, e1, e2, A, m, c, heap_alloc_new _ _, ?_, h2, h3⟩
  have h4 : RgAt (w9.heap.size ≤ ·) wC sub A m := RgAt.mono (fun i _ hi => Nat.le_trans h9.size hi) _ h1
  exact RgAt.keep ⟨by simp, fun i _ hl => Below.heap_alloc _ _ _ hl⟩ _ h4

/-- What combine's recursive call reads. -/
def CallS (b0 P : Nat) (n1 : Int) (af bf : Bool) (A B : Option Addr) (m c m' c' : Nat) (x y : Int) (w9 w' : World) : Prop :=
  Below w9.heap.size w9 w' ∧ w'.cell? ⟨b0, 0, none⟩ = some (.int .i64 n1) ∧ w'.cell? ⟨b0, 1, none⟩ = some (.bool af) ∧ w'.cell? ⟨b0, 2, none⟩ = some (.slice A m c) ∧
    w'.cell? ⟨b0 + 1, 0, none⟩ = some (.int .i64 n1) ∧ w'.cell? ⟨b0 + 1, 1, none⟩ = some (.bool bf) ∧ w'.cell? ⟨b0 + 1, 2, none⟩ = some (.slice B m' c') ∧ w'.cell? ⟨P + 1, 0, none⟩ = some (.int .i64 x) ∧ w'.cell? ⟨P + 1, 1, none⟩ = some (.int .i64 y)
section
variable {b0 P : Nat} {n1 : Int} {af bf : Bool} {A B : Option Addr} {m c m' c' : Nat} {x y : Int} {w9 u u' : World}
theorem CallS.call (k : Below u.heap.size u u') (h : CallS b0 P n1 af bf A B m c m' c' x y w9 u) : CallS b0 P n1 af bf A B m c m' c' x y w9 u' := by
  have key : ∀ {a : Addr} {v : Value}, u.cell? a = some v → u'.cell? a = some v := fun hc => (k.cell (World.block_lt_of_cell? u _ hc)).trans hc
  obtain ⟨h0, h1, h2, h3, h4, h5, h6, h7, h8⟩ := h
  exact ⟨below_call h0 k, key h1, key h2, key h3, key h4, key h5, key h6, key h7, key h8⟩
theorem CallS.drew (h : CallS b0 P n1 af bf A B m c m' c' x y w9 u) : CallS b0 P n1 af bf A B m c m' c' x y w9 u.drew := CallS.call (u := u) (u' := u.drew) (show Below u.heap.size u u.drew from ⟨rfl, rfl, rfl, Nat.le_refl _, fun _ _ => rfl⟩) h
theorem CallS.alloc (h : CallS b0 P n1 af bf A B m c m' c' x y w9 u) (o : Obj) : CallS b0 P n1 af bf A B m c m' c' x y w9 (u.alloc o) := h.call ((Below.refl _ _).alloc (Nat.le_refl _) o)
theorem CallS.set (h : CallS b0 P n1 af bf A B m c m' c' x y w9 u) (hP : P + 1 < w9.heap.size) (hb : b0 + 1 < w9.heap.size) {D : Nat} (hD : w9.heap.size ≤ D) (off : Nat) (v : Value) : CallS b0 P n1 af bf A B m c m' c' x y w9 (u.setCell ⟨D, off, none⟩ v) := by
  have k := Kb.set u D off v
  have key : ∀ {b o : Nat} {z : Value}, b < w9.heap.size → u.cell? ⟨b, o, none⟩ = some z → (u.setCell ⟨D, off, none⟩ v).cell? ⟨b, o, none⟩ = some z := by
    intro b o z hb hc
    rw [← hc]
    exact World.cell?_of_block (k.block b (World.block_lt_of_cell? u _ hc) (by omega))
  obtain ⟨h0, h1, h2, h3, h4, h5, h6, h7, h8⟩ := h
  exact ⟨h0.setCell hD v, key (by omega) h1, key (by omega) h2, key (by omega) h3, key hb h4, key hb h5, key hb h6, key hP h7, key hP h8⟩
theorem CallS.start {v : Value} (X : CBox b0 n1 [.int .i64 n1, .bool af, .slice A m c] [.int .i64 n1, .bool bf, .slice B m' c'] w9 v) {p : Vl} (hP : PB P p x y w9) : CallS b0 P n1 af bf A B m c m' c' x y w9 w9 := by
  refine ⟨Below.refl _ _, ?_⟩
  simp [World.cell?, X.a, X.b, hP.q]
end

theorem CallS.b0 {b0 P : Nat} {n1 : Int} {af bf : Bool} {A B : Option Addr} {m c m' c' : Nat} {x y : Int} {w9 u : World} (h : CallS b0 P n1 af bf A B m c m' c' x y w9 u) : Below w9.heap.size w9 u := h.1
theorem CallS.ge {b0 P : Nat} {n1 : Int} {af bf : Bool} {A B : Option Addr} {m c m' c' : Nat} {x y : Int} {w9 u : World} (h : CallS b0 P n1 af bf A B m c m' c' x y w9 u) : w9.heap.size ≤ u.heap.size := h.1.size
theorem MW.mono {b0 M1 : Nat} {n1 : Int} {ac bc : List Value} {w4 : World} {i1 i2 i1' i2' : Nat} {ps : Pts} {us : List (Value × Value)} {v : Value} {known byText : Lit → Option Int} {wr : World} (h : MW b0 M1 n1 ac bc w4 i1 i2 ps us v known byText wr) (h1 : i1 ≤ i1') (h2 : i2 ≤ i2') : MW b0 M1 n1 ac bc w4 i1' i2' ps us v known byText wr :=
  ⟨h.box, h.out, h.m1.mono h1, h.m2.mono h2, h.low, h.sz, h.b4⟩
theorem MW.old {w : World} {M1 : Nat} {n1 : Int} {ac bc : List Value} {w4 : World} {i1 i2 : Nat} {ps : Pts} {us : List (Value × Value)} {v : Value} {known byText : Lit → Option Int} {wr : World} (h : MW w.heap.size M1 n1 ac bc w4 i1 i2 ps us v known byText wr) (hb : Below w.heap.size w w4) : Below w.heap.size w wr := by
  have h4 := h.b4
  refine ⟨h.low.os.trans hb.os, h.low.tape.trans hb.tape, h.low.output.trans hb.output, Nat.le_trans hb.size h.low.size, fun k hk => ?_⟩
  exact (h.low.block k (by omega) (by rw [fix_iff]; omega)).trans (hb.block k hk)

theorem rg_alloc {ok : Nat → Prop} {w : World} (o : Obj) {r : Rg} {A : Option Addr} {n : Nat} (h : RgAt ok w r A n) : RgAt ok (w.alloc o) r A n := RgAt.below ((Below.refl _ _).alloc (Nat.le_refl _) o) h

/-! ### What has been built, as a region -/
theorem psAt_of {ok : Nat → Prop} {w : World} {b : Nat} : ∀ (ps : Pts) (off : Nat), (∀ (j : Nat) (q : List Iv × Rg), ps[j]? = some q → ∃ A n c A' n' c', w.cell? ⟨b, off + j * 4, none⟩ = some (.slice A n c) ∧ w.cell? ⟨b, off + j * 4 + 1, none⟩ = some (.int .i64 q.2.w) ∧ w.cell? ⟨b, off + j * 4 + 2, none⟩ = some (.bool q.2.full) ∧
    w.cell? ⟨b, off + j * 4 + 3, none⟩ = some (.slice A' n' c') ∧ n ≤ c ∧ n' ≤ c' ∧ c ≤ 9223372036854775807 ∧ c' ≤ 9223372036854775807 ∧ IvsAt ok w A n q.1 ∧ RgAt ok w q.2 A' n') → PsAt ok w ps b off
  | [], _, _ => by rw [PsAt]; trivial
  | (vs, r) :: t, off, h => by
    rw [PsAt]
    refine ⟨?_, psAt_of t (off + 4) fun j q hq => ?_⟩
    · have := h 0 (vs, r) rfl
      simpa using this
    · have := h (j + 1) q (by simpa using hq)
      have e : off + (j + 1) * 4 = off + 4 + j * 4 := by omega
      rw [e] at this
      exact this

theorem OutAt.rg {B : Nat} {fix : List Nat} {w : World} {v : Value} {ps : Pts} {us : List (Value × Value)} (h : OutAt B fix w v ps us) (wd : Int) (f : Bool) : ∃ A c, v = .slice A ps.length c ∧ ps.length ≤ c ∧ c ≤ 9223372036854775807 ∧ RgAt (B ≤ ·) w (.mk wd f ps) A ps.length := by
  rcases h.own.2 with ⟨rfl, h0⟩ | ⟨g, cap, cur, e, _, _, c1, c2, _⟩
  · refine ⟨none, 0, by rw [h0], by omega, by omega, ?_⟩
    rw [RgAt]
    exact ⟨rfl, .inl h0⟩
  · refine ⟨some ⟨g, 0, none⟩, cap, e, c1, c2, ?_⟩
    rw [RgAt]
    have hown := h.own
    rw [e] at hown
    have hg := hown.lt g rfl
    refine ⟨rfl, .inr ⟨g, 0, rfl, hg.1, hg.2, psAt_of _ _ fun j q hq => ?_⟩⟩
    have hj := (List.getElem?_eq_some_iff.1 hq).1
    obtain ⟨u, hu⟩ : ∃ u, us[j]? = some u := ⟨us[j]'(by have := h.len; omega), List.getElem?_eq_getElem _⟩
    have hz : (ps.zip us)[j]? = some (q, u) := by
      rw [List.getElem?_zip_eq_some]
      exact ⟨hq, hu⟩
    have get := fun i hi => flatMap_get (f := fun x : (List Iv × Rg) × (Value × Value) => partCells x.1 x.2) (k := 4) (fun _ => rfl) hz i hi
    have cell := fun i (hi : i < 4) => (hown.cellAt (j * 4 + i) (by omega)).trans (get i hi)
    obtain ⟨A, m, c, e2, r1, r2, r3⟩ := h.rests j q u hq hu
    have hv := h.vals j q u hq hu
    have c0 := cell 0 (by omega)
    have c3 := cell 3 (by omega)
    simp only [partCells] at c0 c3
    rw [Nat.zero_add]
    obtain ⟨Av, nv, cv, ev, v1, v2, v3⟩ : ∃ Av nv cv, u.1 = .slice Av nv cv ∧ nv ≤ cv ∧ cv ≤ 9223372036854775807 ∧ IvsAt (B ≤ ·) w Av nv q.1 := by
      have hl : (ivsCells q.1).length = q.1.length * 7 := flatMap_len (f := Iv.cells) (k := 7) (fun _ => rfl) q.1
      rcases hv.2 with ⟨ev, h0⟩ | ⟨gv, cv, _, ev, _, _, d1, d2, _⟩
      · have : q.1 = [] := List.eq_nil_of_length_eq_zero h0
        exact ⟨none, 0, 0, ev, by omega, by omega, by rw [this]; exact ⟨rfl, .inl rfl⟩⟩
      · rw [ev] at hv
        have hgv := hv.lt gv rfl
        refine ⟨some ⟨gv, 0, none⟩, q.1.length, cv, ev, d1, d2, rfl, .inr ⟨gv, 0, rfl, hgv.1, hgv.2, fun i c hc => ?_⟩⟩
        have hi : i < q.1.length * 7 := by
          rw [← hl]
          exact (List.getElem?_eq_some_iff.1 hc).1
        rw [Nat.zero_add]
        exact (hv.cellAt i hi).trans hc
    refine ⟨Av, nv, cv, A, m, c, ?_, cell 1 (by omega), cell 2 (by omega), ?_, v1, r1, v2, r2, v3, RgAt.mono (fun _ _ o => o.1) _ r3⟩
    · have : (j * 4 + 0) = j * 4 := by omega
      rw [this] at c0
      rw [c0, ← ev]
      rfl
    · rw [c3, ← e2]
      rfl

theorem CBox.rcells {b0 : Nat} {n1 : Int} {ac bc : List Value} {W : World} {v : Value} (h : CBox b0 n1 ac bc W v) : W.cell? ⟨b0 + 1 + 1, 0, none⟩ = some (.int .i64 0) ∧ W.cell? ⟨b0 + 1 + 1, 1, none⟩ = some (.bool false) ∧ W.cell? ⟨b0 + 1 + 1, 2, none⟩ = some (.slice none 0 0) ∧
    W.frozen? ⟨b0 + 1 + 1, 0, none⟩ = false ∧ W.frozen? ⟨b0 + 1 + 1, 1, none⟩ = false ∧ W.frozen? ⟨b0 + 1 + 1, 2, none⟩ = false := by
  simp [World.cell?, World.frozen?, h.r]
theorem CBox.ocells {b0 : Nat} {n1 : Int} {ac bc : List Value} {W : World} {v : Value} (h : CBox b0 n1 ac bc W v) : W.cell? ⟨b0 + 1 + 1 + 1, 0, none⟩ = some (.int .i64 n1) ∧ W.cell? ⟨b0 + 1 + 1 + 1, 1, none⟩ = some (.bool false) ∧ W.cell? ⟨b0 + 1 + 1 + 1, 2, none⟩ = some v ∧
    W.frozen? ⟨b0 + 1 + 1 + 1, 2, none⟩ = false := by
  simp [World.cell?, World.frozen?, h.o]
theorem blk3 {W : World} {D : Nat} {x : Int} {y : Bool} {z : Value} (h : W.heap[D]? = some (.cells #[.int .i64 x, .bool y, z] 24 (0, 0))) : W.cell? ⟨D, 0, none⟩ = some (.int .i64 x) ∧ W.cell? ⟨D, 1, none⟩ = some (.bool y) ∧ W.cell? ⟨D, 2, none⟩ = some z := by
  simp [World.cell?, h]
theorem info_pt : (Tryd.prog.info? 50).map (fun i => (i.zero, i.size, i.bytes)) = some (some (.agg #[.slice none 0 0, .int .i64 0, .bool false, .slice none 0 0]), 4, 64) := by kernel_rfl

theorem rg_kb {X ok : Nat → Prop} {w w' : World} (k : Kb X w w') (hX : ∀ i, X i → ¬ ok i) {r : Rg} {A : Option Addr} {n : Nat} (h : RgAt ok w r A n) : RgAt ok w' r A n := RgAt.keep ⟨k.size, fun i o hl => k.block i hl fun c => hX i c o⟩ r h
theorem len_cnt (ps : Pts) : ps.length ≤ cntL ps := by
  induction ps with
  | nil => simp
  | cons q t ih => rw [cntL_cons]; simp only [List.length_cons]; omega
theorem bytes64 {n : Nat} (h : n ≤ 9000000) : (n + 1) * 64 ≤ 140737488355328 := by omega
theorem cnt_snoc (ps : Pts) (sub : Rg) : cntL (ps ++ [([], sub)]) = cntL ps + (1 + sub.cnt) := by
  rw [cntL_append, cntL_cons]
  simp [cntL]
theorem MW.free {b0 M1 : Nat} {n1 : Int} {ac bc : List Value} {w4 : World} {i1 i2 : Nat} {ps : Pts} {us : List (Value × Value)} {v : Value} {known byText : Lit → Option Int} {wr : World} (h : MW b0 M1 n1 ac bc w4 i1 i2 ps us v known byText wr) : ∀ i, wr.heap.size ≤ i → Free (M1 + 1 + 1) (fixOf b0 M1) v us i := by
  intro i hi
  have hs := h.size
  refine ⟨by omega, fun c => by have := h.fixlt i c; omega, fun e => by have := h.vb i e; omega, fun u hu e => ?_⟩
  obtain ⟨j, hj, e'⟩ := List.getElem_of_mem hu
  have hj' : j < ps.length := by have := h.out.len; omega
  have := h.ub (List.getElem?_eq_getElem hj') (by rw [← e']; exact List.getElem?_eq_getElem hj) i e
  omega
theorem CBox.okb {X : Nat → Prop} {b0 : Nat} {n1 : Int} {ac bc : List Value} {W W' : World} {v : Value} (h : CBox b0 n1 ac bc W v) (k : Kb X W W') (hX : ¬ X (b0 + 1 + 1 + 1)) : W'.cell? ⟨b0 + 1 + 1 + 1, 2, none⟩ = some v ∧ W'.frozen? ⟨b0 + 1 + 1 + 1, 2, none⟩ = false := by
  have e := (k.block _ (Array.getElem?_eq_some_iff.1 h.o).1 hX).trans h.o
  simp [World.cell?, World.frozen?, e]

theorem step_append_el {P : Program} {ops : Array Oper} {o : Oper} {a : Act} {K : Act → World → Prop} {Q : Exit → Act → World → Prop} {E : Prop} {W : World} (base : Nat) (hgd : o.guard = none) (s x : Operand) (t e : TypeId) (z : Value) (size bytes : Nat)
    (ho : o.op = .call { callee := .builtin .append, args := #[s, x], argTypes := #[t, t] })
    (ht : P.underlying t = some (.slice e)) (hinfo : (P.info? e).map (fun i => (i.zero, i.size, i.bytes)) = some (some z, size, bytes)) (hzs : z.cells.size = size) (hsz : 0 < size) (hby : 0 < bytes)
    (v : Value) (n : Nat) (xs cs : List Value) (hs : a.eval s = v) (N : Nat) (hx : a.eval x = .slice (some ⟨N, 0, none⟩) 1 1) (hN : N = W.heap.size) (hcs : cs.length = size) (h1 : ∀ u ∈ cs, u.oneCell' = true)
    (HO : W.ownsRow base e size v n xs) (hbase : base ≤ W.heap.size) (hl : (n + 1) * bytes ≤ 140737488355328)
    (h : ∀ v1 w1, w1.ownsRow base e size v1 (n + 1) (xs ++ cs) → W.grownBy w1 v.ownBlock → (v1.ownBlock = v.ownBlock ∨ ∃ b, v1.ownBlock = some b ∧ W.heap.size ≤ b) → K (a.put o.dst v1) w1) :
    if Region.wanted o (yielded ops a.tmps) = true then Oper.wp P o a (W.alloc (.cells cs.toArray e)) K Q else E := by
  subst hN
  obtain ⟨i0, hi, hzz⟩ := Option.map_eq_some_iff.1 hinfo
  simp only [Prod.mk.injEq] at hzz
  obtain ⟨hz0, hz1, hz2⟩ := hzz
  have hlen : n + 1 ≤ 140737488355328 := Nat.le_trans (Nat.le_mul_of_pos_right _ hby) hl
  refine step_append_lies (w := W.alloc (.cells cs.toArray e)) hgd s x t ho base e i0 z size bytes ht hi hz0 hz1 hz2 hzs hsz v n xs hs (HO.alloc _) ⟨W.heap.size, 0, none⟩ 1 1 cs hx (by omega)
    (World.news_of_block (heap_alloc_new W _)) h1 (by omega) (by unfold maxLen; omega) hl (Nat.le_trans hbase (by simp)) (W.heap.size + 1) (by simp) (fun g cap w' a1 a2 a3 _ => h _ _ a1 ⟨a2.os, a2.tape, a2.output, Nat.le_trans (by simp) a2.size, fun k hk hr => (a2.block k (by simp; omega) hr).trans (Below.heap_alloc _ _ _ hk)⟩ ?_)
  rcases a3 with a3 | a3
  · exact .inl a3.symm
  · exact .inr ⟨g, rfl, by omega⟩

/-- The parts after the last one has been shut. -/
def midPs (ps : Pts) (last : Option Nat) (p : Vl) : Pts := match last with
  | none => ps
  | some j => ps.modify j fun q => (shutLast q.1 p, q.2)
theorem stepPs_same (ps : Pts) (last : Option Nat) (p : Vl) : stepPs ps last last p = ps := by unfold stepPs; rw [if_pos rfl]
def endPs (m : Pts) (o : Option Nat) (p : Vl) : Pts := match o with
  | none => m
  | some j => m.modify j fun q => (q.1 ++ [⟨p, .zero, true⟩], q.2)
theorem stepPs_mid {ps : Pts} {last o : Option Nat} (h : o ≠ last) (p : Vl) : stepPs ps last o p = endPs (midPs ps last p) o p := by
  unfold stepPs
  rw [if_neg h]
  cases o <;> rfl
theorem endPs_some {m : Pts} {j : Nat} {q : List Iv × Rg} (hq : m[j]? = some q) (p : Vl) : endPs m (some j) p = m.set j (q.1 ++ [⟨p, .zero, true⟩], q.2) := by
  show m.modify j _ = _
  rw [modify_set hq]
theorem midPs_length (ps : Pts) (last : Option Nat) (p : Vl) : (midPs ps last p).length = ps.length := by
  unfold midPs
  cases last <;> simp
theorem midPs_lens {ps : Pts} {last : Option Nat} {p : Vl} {k : Nat} (h : ∀ q ∈ ps, q.1.length ≤ k) : ∀ q ∈ midPs ps last p, q.1.length ≤ k := by
  intro q hq
  unfold midPs at hq
  cases last with
  | none => exact h q hq
  | some j =>
    simp only at hq
    obtain ⟨i, hi, e⟩ := List.getElem_of_mem hq
    have hi' : i < ps.length := by simpa using hi
    have e2 : (ps.modify j fun q => (shutLast q.1 p, q.2))[i]? = some q := by rw [List.getElem?_eq_getElem hi, e]
    rw [List.getElem?_modify] at e2
    have h0 := h ps[i] (List.getElem_mem hi')
    by_cases c : j = i
    · simp [c, hi'] at e2
      rw [← e2]
      show (shutLast _ _).length ≤ k
      rw [shutLast_len]
      exact h0
    · simp [c, hi'] at e2
      rw [← e2]
      exact h0
theorem setSame {α : Type} {l : List α} {j : Nat} {q : α} (h : l[j]? = some q) : l.set j q = l := by
  refine List.ext_getElem? fun i => ?_
  have hj := (List.getElem?_eq_some_iff.1 h).1
  by_cases e : j = i
  · subst e; rw [List.getElem?_set_self hj, h]
  · rw [List.getElem?_set_ne e]

/-- What the append of region 37 leaves behind. -/
theorem push_facts {b0 M1 : Nat} {n1 : Int} {ac bc : List Value} {w4 : World} {i1 i2 : Nat} {ps : Pts} {us : List (Value × Value)} {known byText : Lit → Option Int} {w12 w13 : World} {P j : Nat} {p : Vl} {x y : Int} {q : List Iv × Rg} {ua ub v2 : Value} {g cap : Nat}
    (hX : MW b0 M1 n1 ac bc w4 i1 i2 ps us (.slice (some ⟨g, 0, none⟩) ps.length cap) known byText w12) (hPB : PB P p x y w12) (hq : ps[j]? = some q) (hu : us[j]? = some (ua, ub))
    (hvu : ∀ i, ua.ownBlock = some i → M1 + 1 + 1 ≤ i ∧ (Value.slice (some ⟨g, 0, none⟩) ps.length cap).ownBlock ≠ some i) (huP : ∀ i, ua.ownBlock = some i → i ≠ P ∧ i ≠ P + 1) (hgP : g ≠ P ∧ g ≠ P + 1)
    (hown : w13.ownsRow (M1 + 1 + 1) 41 7 v2 (q.1.length + 1) (ivsCells q.1 ++ Iv.cells ⟨p, .zero, true⟩)) (hgr' : w12.drew.grownBy w13 ua.ownBlock) (hat' : v2.ownBlock = ua.ownBlock ∨ ∃ b, v2.ownBlock = some b ∧ w12.drew.heap.size ≤ b) :
    w13.cell? ⟨b0 + 1 + 1 + 1, 2, none⟩ = some (.slice (some ⟨g, 0, none⟩) ps.length cap) ∧ w13.cell? ⟨g, j * 4, none⟩ = some ua ∧ w13.frozen? ⟨g, j * 4, none⟩ = false ∧ b0 + 1 + 1 + 1 ≠ g ∧
    (∃ us2, Hid (PB P p x y (w13.setCell ⟨g, j * 4, none⟩ v2)) ∧ Hid (MW b0 M1 n1 ac bc w4 i1 i2 (ps.set j (q.1 ++ [⟨p, .zero, true⟩], q.2)) us2 (.slice (some ⟨g, 0, none⟩) ps.length cap) known byText (w13.setCell ⟨g, j * 4, none⟩ v2)) ∧
      Kb (fun i => M1 + 1 + 1 ≤ i) w12 (w13.setCell ⟨g, j * 4, none⟩ v2)) := by
  have hgr : w12.grownBy w13 ua.ownBlock := ⟨hgr'.os, hgr'.tape, hgr'.output, hgr'.size, hgr'.block⟩
  have hat : v2.ownBlock = ua.ownBlock ∨ ∃ b, v2.ownBlock = some b ∧ w12.heap.size ≤ b := hat'
  have hgb := hX.vb g rfl
  have hb4 := hX.b4
  have K := Kb.of_grown hgr
  have e0 := (K.block _ (Array.getElem?_eq_some_iff.1 hX.box.o).1 (fun e => by have := (hvu _ e).1; omega)).trans hX.box.o
  obtain ⟨val, vfr⟩ := hX.val_cell hq hu rfl
  have eg : w13.heap[g]? = w12.heap[g]? := K.block _ hgb.2 (fun e => (hvu _ e).2 rfl)
  have hval : w13.ownsRow (M1 + 1 + 1) 41 7 v2 (q.1 ++ [(⟨p, .zero, true⟩ : Iv)]).length (ivsCells (q.1 ++ [(⟨p, .zero, true⟩ : Iv)])) := by
    rw [← ivs_append, List.length_append]
    exact hown
  have K2 : Kb (fun i => ua.ownBlock = some i ∨ i = g) w12 (w13.setCell ⟨g, j * 4, none⟩ v2) := (K.mono fun i hi => .inl hi).put (.inr rfl) _ v2
  refine ⟨by simp [World.cell?, e0], (World.cell?_of_block eg).trans val, (World.frozen?_of_block eg).trans vfr, by omega, _, hPB.kb K2 ?_ ?_, hX.push hq hu hval hgr hat rfl, K2.mono ?_⟩
  · rintro (e | e)
    · exact (huP _ e).1 rfl
    · exact hgP.1 e.symm
  · rintro (e | e)
    · exact (huP _ e).2 rfl
    · exact hgP.2 e.symm
  · rintro i (e | e)
    · exact (hvu i e).1
    · omega

end Go.Proofs.YtbkgmahpfghheaaDoor
