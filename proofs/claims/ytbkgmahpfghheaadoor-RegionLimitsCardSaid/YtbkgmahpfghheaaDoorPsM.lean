/- How values, intervals and regions lie in memory, and what keeps them. -/
import Derived.Test.YtbkgmahpfghheaaDoorPsA
import Derived.Below
import Derived.WalkKit
namespace Go.Proofs.YtbkgmahpfghheaaDoor.Ps
open Go.RowKit

/-! ### How the data lie in memory -/
def Vl.cells (v : Vl) : List Value := [.int .i64 v.kind, .int .i64 v.num, .string v.text]
def Iv.cells (x : Iv) : List Value := [.int .i64 x.lo.kind, .int .i64 x.lo.num, .string x.lo.text, .int .i64 x.hi.kind, .int .i64 x.hi.num, .string x.hi.text, .bool x.op]
def ivsCells (l : List Iv) : List Value := l.flatMap Iv.cells

/-- Cells in a row, in a block that 'ok' lets in. -/
def At (ok : Nat → Prop) (w : World) (A : Option Addr) (cs : List Value) : Prop :=
  cs = [] ∨ ∃ b off, A = some ⟨b, off, none⟩ ∧ ok b ∧ b < w.heap.size ∧ ∀ i c, cs[i]? = some c → w.cell? ⟨b, off + i, none⟩ = some c

def IvsAt (ok : Nat → Prop) (w : World) (A : Option Addr) (n : Nat) (l : List Iv) : Prop := l.length = n ∧ At ok w A (ivsCells l)

theorem flatMap_get {α β : Type} {f : α → List β} {k : Nat} (hf : ∀ x, (f x).length = k) : ∀ {l : List α} {i : Nat} {x : α}, l[i]? = some x → ∀ j, j < k → (l.flatMap f)[i * k + j]? = (f x)[j]?
  | [], i, x, h, _, _ => by simp at h
  | a :: l, 0, x, h, j, hj => by
    simp at h
    subst h
    rw [List.flatMap_cons, Nat.zero_mul, Nat.zero_add, List.getElem?_append_left (by rw [hf]; exact hj)]
  | a :: l, i + 1, x, h, j, hj => by
    rw [List.flatMap_cons, List.getElem?_append_right (by rw [hf, Nat.succ_mul]; omega), hf, show (i + 1) * k + j - k = i * k + j by rw [Nat.succ_mul]; omega]
    exact flatMap_get hf (by simpa using h) j hj
theorem flatMap_len {α β : Type} {f : α → List β} {k : Nat} (hf : ∀ x, (f x).length = k) (l : List α) : (l.flatMap f).length = l.length * k := by
  induction l with
  | nil => simp
  | cons a l ih => rw [List.flatMap_cons, List.length_append, hf, ih, List.length_cons, Nat.succ_mul]; omega

/-- What interval i holds. -/
theorem IvsAt.get {ok : Nat → Prop} {w : World} {A : Option Addr} {n : Nat} {l : List Iv} (h : IvsAt ok w A n l) {i : Nat} {x : Iv} (hx : l[i]? = some x) :
    ∃ b off, A = some ⟨b, off, none⟩ ∧ ok b ∧ b < w.heap.size ∧ w.cell? ⟨b, off + i * 7, none⟩ = some (.int .i64 x.lo.kind) ∧ w.cell? ⟨b, off + i * 7 + 1, none⟩ = some (.int .i64 x.lo.num) ∧ w.cell? ⟨b, off + i * 7 + 2, none⟩ = some (.string x.lo.text) ∧
      w.cell? ⟨b, off + i * 7 + 3, none⟩ = some (.int .i64 x.hi.kind) ∧ w.cell? ⟨b, off + i * 7 + 4, none⟩ = some (.int .i64 x.hi.num) ∧ w.cell? ⟨b, off + i * 7 + 5, none⟩ = some (.string x.hi.text) ∧ w.cell? ⟨b, off + i * 7 + 6, none⟩ = some (.bool x.op) := by
  obtain ⟨_, h⟩ := h
  have get := fun j => flatMap_get (f := Iv.cells) (k := 7) (fun _ => rfl) hx j
  rcases h with h | ⟨b, off, e, o, hb, h⟩
  · have := get 0 (by omega)
    have h' : l.flatMap Iv.cells = [] := h
    rw [h'] at this
    simp [Iv.cells] at this
  · have c := fun j (hj : j < 7) u (hu : (Iv.cells x)[j]? = some u) => h (i * 7 + j) u ((get j hj).trans hu)
    refine ⟨b, off, e, o, hb, ?_, ?_, ?_, ?_, ?_, ?_, ?_⟩
    · have := c 0 (by omega) _ rfl; simpa using this
    all_goals first
      | (have := c 1 (by omega) _ rfl; rw [← Nat.add_assoc] at this; exact this)
      | (have := c 2 (by omega) _ rfl; rw [← Nat.add_assoc] at this; exact this)
      | (have := c 3 (by omega) _ rfl; rw [← Nat.add_assoc] at this; exact this)
      | (have := c 4 (by omega) _ rfl; rw [← Nat.add_assoc] at this; exact this)
      | (have := c 5 (by omega) _ rfl; rw [← Nat.add_assoc] at this; exact this)
      | (have := c 6 (by omega) _ rfl; rw [← Nat.add_assoc] at this; exact this)

mutual
def RgAt (ok : Nat → Prop) (w : World) : Rg → Option Addr → Nat → Prop
  | .mk _ _ ps, A, n => ps.length = n ∧ (n = 0 ∨ ∃ b off, A = some ⟨b, off, none⟩ ∧ ok b ∧ b < w.heap.size ∧ PsAt ok w ps b off)
def PsAt (ok : Nat → Prop) (w : World) : List (List Iv × Rg) → Nat → Nat → Prop
  | [], _, _ => True
  | (vs, r) :: t, b, off => (∃ A n c A' n' c', w.cell? ⟨b, off, none⟩ = some (.slice A n c) ∧ w.cell? ⟨b, off + 1, none⟩ = some (.int .i64 r.w) ∧ w.cell? ⟨b, off + 2, none⟩ = some (.bool r.full) ∧
      w.cell? ⟨b, off + 3, none⟩ = some (.slice A' n' c') ∧ n ≤ c ∧ n' ≤ c' ∧ c ≤ 9223372036854775807 ∧ c' ≤ 9223372036854775807 ∧ IvsAt ok w A n vs ∧ RgAt ok w r A' n') ∧ PsAt ok w t b (off + 4)
end

theorem PsAt.get {ok : Nat → Prop} {w : World} : ∀ {ps : List (List Iv × Rg)} {b off : Nat}, PsAt ok w ps b off → ∀ {i : Nat} {p : List Iv × Rg}, ps[i]? = some p →
    ∃ A n c A' n' c', w.cell? ⟨b, off + i * 4, none⟩ = some (.slice A n c) ∧ w.cell? ⟨b, off + i * 4 + 1, none⟩ = some (.int .i64 p.2.w) ∧ w.cell? ⟨b, off + i * 4 + 2, none⟩ = some (.bool p.2.full) ∧
      w.cell? ⟨b, off + i * 4 + 3, none⟩ = some (.slice A' n' c') ∧ n ≤ c ∧ n' ≤ c' ∧ c ≤ 9223372036854775807 ∧ c' ≤ 9223372036854775807 ∧ IvsAt ok w A n p.1 ∧ RgAt ok w p.2 A' n'
  | [], _, _, _, i, p, hp => by simp at hp
  | (vs, r) :: t, b, off, h, 0, p, hp => by
    rw [PsAt] at h
    simp at hp
    subst hp
    simpa using h.1
  | (vs, r) :: t, b, off, h, i + 1, p, hp => by
    rw [PsAt] at h
    have := PsAt.get h.2 (i := i) (p := p) (by simpa using hp)
    rwa [show off + 4 + i * 4 = off + (i + 1) * 4 by omega] at this

theorem RgAt.len {ok : Nat → Prop} {w : World} {r : Rg} {A : Option Addr} {n : Nat} (h : RgAt ok w r A n) : r.ps.length = n := by
  obtain ⟨a, b, ps⟩ := r
  rw [RgAt] at h
  exact h.1

/-- What part i holds. -/
theorem RgAt.get {ok : Nat → Prop} {w : World} {r : Rg} {A : Option Addr} {n : Nat} (h : RgAt ok w r A n) {i : Nat} {p : List Iv × Rg} (hp : r.ps[i]? = some p) :
    ∃ b off, A = some ⟨b, off, none⟩ ∧ ok b ∧ b < w.heap.size ∧ ∃ A n c A' n' c', w.cell? ⟨b, off + i * 4, none⟩ = some (.slice A n c) ∧ w.cell? ⟨b, off + i * 4 + 1, none⟩ = some (.int .i64 p.2.w) ∧ w.cell? ⟨b, off + i * 4 + 2, none⟩ = some (.bool p.2.full) ∧
      w.cell? ⟨b, off + i * 4 + 3, none⟩ = some (.slice A' n' c') ∧ n ≤ c ∧ n' ≤ c' ∧ c ≤ 9223372036854775807 ∧ c' ≤ 9223372036854775807 ∧ IvsAt ok w A n p.1 ∧ RgAt ok w p.2 A' n' := by
  obtain ⟨a, b, ps⟩ := r
  rw [RgAt] at h
  obtain ⟨hl, h | ⟨b, off, e, o1, o2, h⟩⟩ := h
  · simp only [Rg.ps_mk] at hp
    have := (List.getElem?_eq_some_iff.1 hp).1
    omega
  · exact ⟨b, off, e, o1, o2, h.get hp⟩

/-- What is read lives on in every world that keeps the blocks that 'ok' lets in. -/
structure Keeps (ok : Nat → Prop) (w w' : World) : Prop where
  size : w.heap.size ≤ w'.heap.size
  block : ∀ k, ok k → k < w.heap.size → w'.heap[k]? = w.heap[k]?

theorem Keeps.refl (ok : Nat → Prop) (w : World) : Keeps ok w w := ⟨Nat.le_refl _, fun _ _ _ => rfl⟩
theorem Keeps.trans {ok : Nat → Prop} {a b c : World} (h : Keeps ok a b) (k : Keeps ok b c) : Keeps ok a c :=
  ⟨Nat.le_trans h.size k.size, fun i o hi => (k.block i o (Nat.lt_of_lt_of_le hi h.size)).trans (h.block i o hi)⟩
theorem Keeps.mono {ok ok' : Nat → Prop} {a b : World} (h : Keeps ok a b) (k : ∀ i, i < a.heap.size → ok' i → ok i) : Keeps ok' a b := ⟨h.size, fun i o hi => h.block i (k i hi o) hi⟩
theorem Keeps.of_below {ok : Nat → Prop} {w w' : World} (h : Below w.heap.size w w') : Keeps ok w w' := ⟨h.size, fun k _ hk => h.block k hk⟩
theorem Keeps.cell {ok : Nat → Prop} {w w' : World} (h : Keeps ok w w') {b off : Nat} (o : ok b) (hb : b < w.heap.size) : w'.cell? ⟨b, off, none⟩ = w.cell? ⟨b, off, none⟩ := World.cell?_of_block (w := w) (h.block b o hb)

theorem At.keep {ok : Nat → Prop} {w w' : World} {A : Option Addr} {cs : List Value} (h : At ok w A cs) (k : Keeps ok w w') : At ok w' A cs := by
  rcases h with h | ⟨b, off, e, o, hb, h⟩
  · exact .inl h
  · exact .inr ⟨b, off, e, o, Nat.lt_of_lt_of_le hb k.size, fun i c hc => (k.cell o hb).trans (h i c hc)⟩
theorem At.mono {ok ok' : Nat → Prop} {w : World} {A : Option Addr} {cs : List Value} (h : At ok w A cs) (k : ∀ i, i < w.heap.size → ok i → ok' i) : At ok' w A cs := by
  rcases h with h | ⟨b, off, e, o, hb, h⟩
  · exact .inl h
  · exact .inr ⟨b, off, e, k b hb o, hb, h⟩
theorem IvsAt.keep {ok : Nat → Prop} {w w' : World} {A : Option Addr} {n : Nat} {l : List Iv} (h : IvsAt ok w A n l) (k : Keeps ok w w') : IvsAt ok w' A n l := ⟨h.1, h.2.keep k⟩
theorem IvsAt.mono {ok ok' : Nat → Prop} {w : World} {A : Option Addr} {n : Nat} {l : List Iv} (h : IvsAt ok w A n l) (k : ∀ i, i < w.heap.size → ok i → ok' i) : IvsAt ok' w A n l := ⟨h.1, h.2.mono k⟩

theorem RgAt.keep {ok : Nat → Prop} {w w' : World} (k : Keeps ok w w') (r : Rg) : ∀ {A : Option Addr} {n : Nat}, RgAt ok w r A n → RgAt ok w' r A n := by
  refine Rg.ind (P := fun r => ∀ {A : Option Addr} {n : Nat}, RgAt ok w r A n → RgAt ok w' r A n) (fun a b ps ih A n h => ?_) r
  rw [RgAt] at h ⊢
  obtain ⟨hl, h | ⟨b, off, e, o1, o2, h⟩⟩ := h
  · exact ⟨hl, .inl h⟩
  · refine ⟨hl, .inr ⟨b, off, e, o1, Nat.lt_of_lt_of_le o2 k.size, ?_⟩⟩
    have : ∀ (ps : List (List Iv × Rg)) (off : Nat), (∀ p ∈ ps, ∀ {A : Option Addr} {n : Nat}, RgAt ok w p.2 A n → RgAt ok w' p.2 A n) → PsAt ok w ps b off → PsAt ok w' ps b off := by
      intro ps
      induction ps with
      | nil => intro _ _ _; rw [PsAt]; trivial
      | cons p ps ih' =>
        obtain ⟨vs, r⟩ := p
        intro off ih h
        rw [PsAt] at h ⊢
        obtain ⟨⟨A, n, c, A', n', c', h1, h2, h3, h4, h5, h6, h7, h8, h9, h10⟩, ht⟩ := h
        exact ⟨⟨A, n, c, A', n', c', (k.cell o1 o2).trans h1, (k.cell o1 o2).trans h2, (k.cell o1 o2).trans h3, (k.cell o1 o2).trans h4, h5, h6, h7, h8, h9.keep k, ih (vs, r) (by simp) h10⟩, ih' _ (fun p hp => ih p (by simp [hp])) ht⟩
    exact this ps off ih h

theorem RgAt.mono {ok ok' : Nat → Prop} {w : World} (k : ∀ i, i < w.heap.size → ok i → ok' i) (r : Rg) : ∀ {A : Option Addr} {n : Nat}, RgAt ok w r A n → RgAt ok' w r A n := by
  refine Rg.ind (P := fun r => ∀ {A : Option Addr} {n : Nat}, RgAt ok w r A n → RgAt ok' w r A n) (fun a b ps ih A n h => ?_) r
  rw [RgAt] at h ⊢
  obtain ⟨hl, h | ⟨b, off, e, o1, o2, h⟩⟩ := h
  · exact ⟨hl, .inl h⟩
  · refine ⟨hl, .inr ⟨b, off, e, k b o2 o1, o2, ?_⟩⟩
    have : ∀ (ps : List (List Iv × Rg)) (off : Nat), (∀ p ∈ ps, ∀ {A : Option Addr} {n : Nat}, RgAt ok w p.2 A n → RgAt ok' w p.2 A n) → PsAt ok w ps b off → PsAt ok' w ps b off := by
      intro ps
      induction ps with
      | nil => intro _ _ _; rw [PsAt]; trivial
      | cons p ps ih' =>
        obtain ⟨vs, r⟩ := p
        intro off ih h
        rw [PsAt] at h ⊢
        obtain ⟨⟨A, n, c, A', n', c', h1, h2, h3, h4, h5, h6, h7, h8, h9, h10⟩, ht⟩ := h
        exact ⟨⟨A, n, c, A', n', c', h1, h2, h3, h4, h5, h6, h7, h8, h9.mono k, ih (vs, r) (by simp) h10⟩, ih' _ (fun p hp => ih p (by simp [hp])) ht⟩
    exact this ps off ih h

/-! ### A variable's box -/
def Box (w : World) (B : Nat) (cs : List Value) : Prop := B < w.heap.size ∧ ∀ j u, cs[j]? = some u → w.cell? ⟨B, j, none⟩ = some u
theorem Box.made (w : World) (cs : List Value) (T : TypeId) : Box (w.alloc (.cells cs.toArray T)) w.heap.size cs := by
  refine ⟨by simp, fun j u h => ?_⟩
  simp only [World.cell?, World.alloc]
  rw [Array.getElem?_push_size]
  simpa using h
theorem Box.later {w w' : World} {B : Nat} {cs : List Value} (h : Box w B cs) (k : Below w.heap.size w w') : Box w' B cs :=
  ⟨Nat.lt_of_lt_of_le h.1 k.size, fun j u hu => (k.cell (p := ⟨B, j, none⟩) h.1).trans (h.2 j u hu)⟩
theorem Box.alloc {w : World} {B : Nat} {cs : List Value} (h : Box w B cs) (o : Obj) : Box (w.alloc o) B cs := h.later ((Below.refl _ _).alloc (Nat.le_refl _) o)
theorem Box.vl {w : World} {B : Nat} {v : Vl} (h : Box w B v.cells) : w.cell? ⟨B, 0, none⟩ = some (.int .i64 v.kind) ∧ w.cell? ⟨B, 1, none⟩ = some (.int .i64 v.num) ∧ w.cell? ⟨B, 2, none⟩ = some (.string v.text) :=
  ⟨h.2 0 _ rfl, h.2 1 _ rfl, h.2 2 _ rfl⟩
theorem Box.iv {w : World} {B : Nat} {x : Iv} (h : Box w B x.cells) : w.cell? ⟨B, 0, none⟩ = some (.int .i64 x.lo.kind) ∧ w.cell? ⟨B, 1, none⟩ = some (.int .i64 x.lo.num) ∧ w.cell? ⟨B, 2, none⟩ = some (.string x.lo.text) ∧
    w.cell? ⟨B, 3, none⟩ = some (.int .i64 x.hi.kind) ∧ w.cell? ⟨B, 4, none⟩ = some (.int .i64 x.hi.num) ∧ w.cell? ⟨B, 5, none⟩ = some (.string x.hi.text) ∧ w.cell? ⟨B, 6, none⟩ = some (.bool x.op) :=
  ⟨h.2 0 _ rfl, h.2 1 _ rfl, h.2 2 _ rfl, h.2 3 _ rfl, h.2 4 _ rfl, h.2 5 _ rfl, h.2 6 _ rfl⟩

theorem Box.grown {w w' : World} {B : Nat} {cs : List Value} {row : Option Nat} (h : Box w B cs) (k : w.grownBy w' row) (hr : row ≠ some B) : Box w' B cs :=
  ⟨Nat.lt_of_lt_of_le h.1 k.size, fun j u hu => (World.cell?_of_block (w := w) (a := ⟨B, j, none⟩) (k.block B h.1 (fun e => hr e.symm))).trans (h.2 j u hu)⟩

/-- Every block of old. -/
def any (_ : Nat) : Prop := True
theorem RgAt.below {w w' : World} (k : Below w.heap.size w w') {r : Rg} {A : Option Addr} {n : Nat} {ok : Nat → Prop} (h : RgAt ok w r A n) : RgAt ok w' r A n := RgAt.keep (Keeps.of_below k) r h
end Go.Proofs.YtbkgmahpfghheaaDoor.Ps
