/- Pure theory: values, intervals, canonical regions, the sweep that combines two regions, its limits; a canonical region is told by its rows. No conditions. -/
namespace Go.Proofs.YtbkgmahpfghheaaDoor.Ps

def bl : List UInt8 → List UInt8 → Bool
  | _, [] => false
  | [], _ :: _ => true
  | a :: x, b :: y => a < b || (a == b && bl x y)

theorem bl_irrefl : ∀ a, bl a a = false
  | [] => rfl
  | a :: x => by simp [bl, bl_irrefl x]

theorem bl_trans : ∀ a b c, bl a b = true → bl b c = true → bl a c = true
  | [], [], _, h, _ => by simp [bl] at h
  | [], _ :: _, [], _, h => by simp [bl] at h
  | [], _ :: _, _ :: _, _, _ => by simp [bl]
  | _ :: _, [], _, h, _ => by simp [bl] at h
  | _ :: _, _ :: _, [], _, h => by simp [bl] at h
  | a :: x, b :: y, c :: z, h, k => by
    simp only [bl, Bool.or_eq_true, decide_eq_true_eq, Bool.and_eq_true, beq_iff_eq] at *
    rcases h with h | ⟨rfl, h⟩ <;> rcases k with k | ⟨rfl, k⟩
    · exact .inl (UInt8.lt_trans h k)
    · exact .inl h
    · exact .inl k
    · exact .inr ⟨rfl, bl_trans x y z h k⟩

theorem bl_tri : ∀ a b, bl a b = false → bl b a = false → a = b
  | [], [], _, _ => rfl
  | [], _ :: _, h, _ => by simp [bl] at h
  | _ :: _, [], _, h => by simp [bl] at h
  | a :: x, b :: y, h, k => by
    simp only [bl, Bool.or_eq_false_iff, decide_eq_false_iff_not, Bool.and_eq_false_iff, beq_eq_false_iff_ne] at *
    have e : a = b := UInt8.le_antisymm (by exact UInt8.not_lt.1 k.1) (by exact UInt8.not_lt.1 h.1)
    subst e
    rw [bl_tri x y (by rcases h.2 with h | h; exact absurd rfl h; exact h) (by rcases k.2 with h | h; exact absurd rfl h; exact h)]

/-- A cell's contents. -/
structure Vl where
  kind : Int
  num : Int
  text : ByteArray
  hk : -9223372036854775808 ≤ kind ∧ kind ≤ 9223372036854775807
  hn : -9223372036854775808 ≤ num ∧ num ≤ 9223372036854775807

instance : DecidableEq Vl := fun a b =>
  if h : a.kind = b.kind ∧ a.num = b.num ∧ a.text.data.toList = b.text.data.toList then
    isTrue (by
      obtain ⟨k, n, ⟨⟨t⟩⟩, _, _⟩ := a
      obtain ⟨k', n', ⟨⟨t'⟩⟩, _, _⟩ := b
      simp only at h
      obtain ⟨rfl, rfl, rfl⟩ := h
      rfl)
  else isFalse (by rintro rfl; exact h ⟨rfl, rfl, rfl⟩)

def Vl.less (a b : Vl) : Bool := decide (a.kind < b.kind) || (decide (a.kind = b.kind) && (decide (a.num < b.num) || (decide (a.num = b.num) && bl a.text.data.toList b.text.data.toList)))

instance : LT Vl := ⟨fun a b => a.less b = true⟩
instance : LE Vl := ⟨fun a b => b.less a = false⟩
instance (a b : Vl) : Decidable (a < b) := inferInstanceAs (Decidable (a.less b = true))
instance (a b : Vl) : Decidable (a ≤ b) := inferInstanceAs (Decidable (b.less a = false))

theorem Vl.lt_iff {a b : Vl} : a < b ↔ a.kind < b.kind ∨ (a.kind = b.kind ∧ (a.num < b.num ∨ (a.num = b.num ∧ bl a.text.data.toList b.text.data.toList = true))) := by
  show a.less b = true ↔ _
  simp [Vl.less]

theorem Vl.irrefl (a : Vl) : ¬ a < a := by
  rw [Vl.lt_iff]; simp [bl_irrefl]

theorem Vl.trans {a b c : Vl} (h : a < b) (k : b < c) : a < c := by
  rw [Vl.lt_iff] at *
  rcases h with h | ⟨h1, h | ⟨h2, h⟩⟩ <;> rcases k with k | ⟨k1, k | ⟨k2, k⟩⟩
  all_goals first
    | exact .inl (by omega)
    | exact .inr ⟨by omega, .inl (by omega)⟩
    | exact .inr ⟨by omega, .inr ⟨by omega, bl_trans _ _ _ h k⟩⟩

theorem Vl.tri {a b : Vl} (h : ¬ a < b) (k : ¬ b < a) : a = b := by
  rw [Vl.lt_iff] at *
  obtain ⟨ka, na, ⟨⟨ta⟩⟩, _, _⟩ := a
  obtain ⟨kb, nb, ⟨⟨tb⟩⟩, _, _⟩ := b
  simp only at h k
  have e1 : ka = kb := by
    by_cases h1 : ka < kb
    · exact absurd (.inl h1) h
    · by_cases h2 : kb < ka
      · exact absurd (.inl h2) k
      · omega
  subst e1
  have e2 : na = nb := by
    by_cases h1 : na < nb
    · exact absurd (.inr ⟨rfl, .inl h1⟩) h
    · by_cases h2 : nb < na
      · exact absurd (.inr ⟨rfl, .inl h2⟩) k
      · omega
  subst e2
  have e3 : ta = tb := by
    refine bl_tri _ _ ?_ ?_
    · cases hb : bl ta tb
      · rfl
      · exact absurd (.inr ⟨rfl, .inr ⟨rfl, hb⟩⟩) h
    · cases hb : bl tb ta
      · rfl
      · exact absurd (.inr ⟨rfl, .inr ⟨rfl, hb⟩⟩) k
  subst e3
  rfl

theorem Vl.le_iff {a b : Vl} : a ≤ b ↔ ¬ b < a := by
  show b.less a = false ↔ ¬ (b.less a = true)
  simp

instance : Std.IsLinearOrder Vl where
  le_refl a := Vl.le_iff.2 (Vl.irrefl a)
  le_trans a b c h k := by
    rw [Vl.le_iff] at *
    intro q
    by_cases e : c = b
    · subst e; exact h q
    · by_cases e2 : b < c
      · exact h (Vl.trans e2 q)
      · exact e (Vl.tri k e2)
  le_antisymm a b h k := Vl.tri (Vl.le_iff.1 k) (Vl.le_iff.1 h)
  le_total a b := by
    simp only [Vl.le_iff]
    by_cases h : b < a
    · exact .inr (fun k => Vl.irrefl _ (Vl.trans h k))
    · exact .inl h

instance : Std.LawfulOrderLT Vl where
  lt_iff a b := by
    simp only [Vl.le_iff]
    constructor
    · intro h; exact ⟨fun k => Vl.irrefl _ (Vl.trans h k), fun k => k h⟩
    · rintro ⟨h, k⟩
      exact Classical.not_not.1 k


/-! ### Sets of values -/
def Vl.zero : Vl := ⟨0, 0, ⟨#[]⟩, by decide, by decide⟩
def Vl.least : Vl := ⟨1, 0, ⟨#[]⟩, by decide, by decide⟩
def Vl.ok (v : Vl) : Bool :=
  ((v.kind == 1 || v.kind == 2) && v.num == 0 && v.text.size == 0) || (v.kind == 3 && (v.num == 0 || v.num == 1) && v.text.size == 0) || (v.kind == 4 && v.text.size == 0) ||
    (v.kind == 5 && v.num == 0 && decide (v.text.size ≤ 64))

theorem Vl.least_ok : Vl.least.ok = true := by decide
theorem bl_nil (a : List UInt8) : bl a [] = false := by cases a <;> rfl
theorem Vl.least_le {v : Vl} (h : v.ok = true) : Vl.least ≤ v := by
  rw [Vl.le_iff, Vl.lt_iff]
  obtain ⟨k, n, ⟨⟨t⟩⟩, _, _⟩ := v
  simp [Vl.ok, Vl.least, bl_nil] at *
  omega

structure Iv where
  lo : Vl
  hi : Vl
  op : Bool

instance : DecidableEq Iv := fun a b =>
  if h : a.lo = b.lo ∧ a.hi = b.hi ∧ a.op = b.op then
    isTrue (by
      obtain ⟨l, k, o⟩ := a
      obtain ⟨l', k', o'⟩ := b
      simp only at h
      obtain ⟨rfl, rfl, rfl⟩ := h
      rfl)
  else isFalse (by rintro rfl; exact h ⟨rfl, rfl, rfl⟩)

def Iv.has (x : Iv) (v : Vl) : Prop := x.lo ≤ v ∧ (x.op = true ∨ v < x.hi)
instance (x : Iv) (v : Vl) : Decidable (x.has v) := inferInstanceAs (Decidable (_ ∧ _))
/-- The set that a list of intervals stands for. -/
def has (l : List Iv) (v : Vl) : Prop := ∃ x ∈ l, x.has v
instance (l : List Iv) (v : Vl) : Decidable (has l v) := inferInstanceAs (Decidable (∃ x ∈ l, x.has v))

theorem has_nil (v : Vl) : ¬ has [] v := by simp [has]
theorem has_cons (x : Iv) (l : List Iv) (v : Vl) : has (x :: l) v ↔ x.has v ∨ has l v := by simp [has]
theorem has_append (l m : List Iv) (v : Vl) : has (l ++ m) v ↔ has l v ∨ has m v := by
  simp only [has, List.mem_append]
  constructor
  · rintro ⟨x, h | h, k⟩
    · exact .inl ⟨x, h, k⟩
    · exact .inr ⟨x, h, k⟩
  · rintro (⟨x, h, k⟩ | ⟨x, h, k⟩)
    · exact ⟨x, .inl h, k⟩
    · exact ⟨x, .inr h, k⟩

/-- An interval that ends: not empty, its ends valid. -/
def Iv.shut (x : Iv) : Prop := x.op = false ∧ x.lo.ok = true ∧ x.hi.ok = true ∧ x.lo < x.hi
def Iv.open_ (x : Iv) : Prop := x.op = true ∧ x.lo.ok = true ∧ x.hi = Vl.zero

/-- A canonical list, but for its length. -/
def Ok : List Iv → Prop
  | [] => True
  | [x] => x.shut ∨ x.open_
  | x :: y :: t => x.shut ∧ x.hi < y.lo ∧ Ok (y :: t)

theorem Ok.tail {x : Iv} {l : List Iv} (h : Ok (x :: l)) : Ok l := by
  cases l with
  | nil => trivial
  | cons y t => exact h.2.2

theorem Ok.lo_ok {x : Iv} {l : List Iv} (h : Ok (x :: l)) : x.lo.ok = true := by
  cases l with
  | nil => rcases h with h | h <;> exact h.2.1
  | cons y t => exact h.1.2.1

theorem Iv.has_lo {x : Iv} (h : x.shut ∨ x.open_) : x.has x.lo := by
  rcases h with h | h
  · exact ⟨by grind, .inr h.2.2.2⟩
  · exact ⟨by grind, .inl h.1⟩

theorem Ok.head {x : Iv} {l : List Iv} (h : Ok (x :: l)) : x.shut ∨ x.open_ := by
  cases l with
  | nil => exact h
  | cons y t => exact .inl h.1

theorem Ok.has_lo {x : Iv} {l : List Iv} (h : Ok (x :: l)) : has (x :: l) x.lo := (has_cons ..).2 (.inl (Iv.has_lo h.head))

/-- All that stands behind the first interval is greater than its end. -/
theorem Ok.later : ∀ {l : List Iv} {x : Iv}, Ok (x :: l) → ∀ v, has l v → x.op = false ∧ x.hi < v
  | [], _, _, v, k => absurd k (has_nil v)
  | y :: t, x, h, v, k => by
    obtain ⟨h1, h2, h3⟩ := h
    refine ⟨h1.1, ?_⟩
    rcases (has_cons ..).1 k with k | k
    · have := k.1
      grind
    · have q := Ok.later h3 v k
      have : y.lo < y.hi := by
        rcases h3.head with h | h
        · exact h.2.2.2
        · have := h.1
          rw [q.1] at this
          cases this
      grind

theorem Ok.lo_le {l : List Iv} {x : Iv} (h : Ok (x :: l)) (v : Vl) (k : has (x :: l) v) : x.lo ≤ v := by
  rcases (has_cons ..).1 k with k | k
  · exact k.1
  · have q := h.later v k
    have : x.lo < x.hi := by
      rcases h.head with h | h
      · exact h.2.2.2
      · have := h.1
        rw [q.1] at this
        cases this
    grind

theorem Ok.tail_has {l : List Iv} {x : Iv} (h : Ok (x :: l)) (v : Vl) : has l v ↔ has (x :: l) v ∧ ¬ x.has v := by
  constructor
  · intro k
    have q := h.later v k
    refine ⟨(has_cons ..).2 (.inr k), ?_⟩
    rintro ⟨_, h | h⟩
    · rw [q.1] at h
      cases h
    · grind
  · rintro ⟨k, n⟩
    rcases (has_cons ..).1 k with k | k
    · exact absurd k n
    · exact k

/-- Two canonical lists of the same values are one. -/
theorem Ok.unique : ∀ {a b : List Iv}, Ok a → Ok b → (∀ v, v.ok = true → (has a v ↔ has b v)) → a = b
  | [], [], _, _, _ => rfl
  | [], y :: t, _, hb, h => absurd ((h _ hb.lo_ok).2 hb.has_lo) (has_nil _)
  | x :: s, [], ha, _, h => absurd ((h _ ha.lo_ok).1 ha.has_lo) (has_nil _)
  | x :: s, y :: t, ha, hb, h => by
    have elo : x.lo = y.lo := by
      have h1 := hb.lo_le _ ((h _ ha.lo_ok).1 ha.has_lo)
      have h2 := ha.lo_le _ ((h _ hb.lo_ok).2 hb.has_lo)
      grind
    have key : ∀ {x y : Iv} {s t : List Iv}, Ok (x :: s) → Ok (y :: t) → (∀ v, v.ok = true → (has (x :: s) v ↔ has (y :: t) v)) → x.lo = y.lo → x.shut → y.open_ ∨ x.hi < y.hi → False := by
      intro x y s t ha hb h elo hx hy
      have hyh : y.has x.hi := by
        rcases hy with hy | hy
        · exact ⟨by have := hx.2.2.2; grind, .inl hy.1⟩
        · exact ⟨by have := hx.2.2.2; grind, .inr hy⟩
      have k := (h _ hx.2.2.1).2 ((has_cons ..).2 (.inl hyh))
      rcases (has_cons ..).1 k with k | k
      · rcases k.2 with k | k
        · rw [hx.1] at k; cases k
        · exact Vl.irrefl _ k
      · exact Vl.irrefl _ (ha.later _ k).2
    have e : x = y := by
      rcases ha.head with hx | hx <;> rcases hb.head with hy | hy
      · have n1 : ¬ x.hi < y.hi := fun q => key ha hb h elo hx (.inr q)
        have n2 : ¬ y.hi < x.hi := fun q => key hb ha (fun v hv => (h v hv).symm) elo.symm hy (.inr q)
        have e2 := Vl.tri n1 n2
        obtain ⟨l, k, o⟩ := x
        obtain ⟨l', k', o'⟩ := y
        have := hx.1
        have := hy.1
        simp only at *
        subst elo e2
        simp_all
      · exact (key ha hb h elo hx (.inl hy)).elim
      · exact (key hb ha (fun v hv => (h v hv).symm) elo.symm hy (.inl hx)).elim
      · obtain ⟨l, k, o⟩ := x
        obtain ⟨l', k', o'⟩ := y
        have h1 := hx.1
        have h2 := hy.1
        have h3 := hx.2.2
        have h4 := hy.2.2
        simp only at *
        subst elo h1 h2 h3 h4
        rfl
    subst e
    rw [Ok.unique ha.tail hb.tail fun v hv => by rw [ha.tail_has, hb.tail_has, h v hv]]

/-! ### Regions -/
inductive Rg where
  | mk (w : Int) (full : Bool) (ps : List (List Iv × Rg))

def Rg.w : Rg → Int | .mk w _ _ => w
def Rg.full : Rg → Bool | .mk _ f _ => f
def Rg.ps : Rg → List (List Iv × Rg) | .mk _ _ ps => ps
@[simp] theorem Rg.w_mk (w : Int) (f : Bool) (ps : List (List Iv × Rg)) : (Rg.mk w f ps).w = w := rfl
@[simp] theorem Rg.full_mk (w : Int) (f : Bool) (ps : List (List Iv × Rg)) : (Rg.mk w f ps).full = f := rfl
@[simp] theorem Rg.ps_mk (w : Int) (f : Bool) (ps : List (List Iv × Rg)) : (Rg.mk w f ps).ps = ps := rfl
theorem Rg.eta (r : Rg) : Rg.mk r.w r.full r.ps = r := by cases r; rfl

theorem Rg.ind {P : Rg → Prop} (h : ∀ w f ps, (∀ p ∈ ps, P p.2) → P (.mk w f ps)) (r : Rg) : P r :=
  Rg.rec (motive_1 := P) (motive_2 := fun ps => ∀ p ∈ ps, P p.2) (motive_3 := fun p => P p.2) (fun w f ps ih => h w f ps ih) (fun p k => by cases k)
    (fun p ps hp hps q k => by
      rcases List.mem_cons.1 k with k | k
      · subst k; exact hp
      · exact hps q k)
    (fun _ _ h => h) r

def Rg.none (r : Rg) : Bool := !r.full && r.ps.isEmpty

/-- Is a row in the region? -/
def mem : List Vl → Rg → Prop
  | [], r => r.full = true
  | v :: t, r => ∃ p ∈ r.ps, has p.1 v ∧ mem t p.2

/-- The least value of the first interval. -/
def lo0 (l : List Iv) : Vl := (l.headD ⟨.zero, .zero, false⟩).lo

/-- The canonical form, without limits. -/
def Form : Nat → Rg → Prop
  | 0, r => r.w = 0 ∧ r.ps = []
  | n + 1, r => r.w = ((n + 1 : Nat) : Int) ∧ r.full = false ∧ (∀ p ∈ r.ps, p.1 ≠ [] ∧ Ok p.1 ∧ Form n p.2 ∧ p.2.none = false) ∧
      r.ps.Pairwise fun p q => lo0 p.1 < lo0 q.1 ∧ (∀ v, has p.1 v → ¬ has q.1 v) ∧ p.2 ≠ q.2

theorem Form.w : ∀ {n : Nat} {r : Rg}, Form n r → r.w = (n : Int)
  | 0, _, h => h.1
  | _ + 1, _, h => h.1

def Rows (n : Nat) (t : List Vl) : Prop := t.length = n ∧ ∀ v ∈ t, v.ok = true

theorem Ok.lo0 {l : List Iv} (h : Ok l) (hn : l ≠ []) : (lo0 l).ok = true ∧ has l (lo0 l) := by
  cases l with
  | nil => exact absurd rfl hn
  | cons x t => exact ⟨h.lo_ok, h.has_lo⟩

/-- A region that is not empty has a row. -/
theorem Form.row : ∀ {n : Nat} {r : Rg}, Form n r → r.none = false → ∃ t, Rows n t ∧ mem t r
  | 0, r, h, k => ⟨[], ⟨rfl, by simp⟩, by simpa [Rg.none, h.2, mem] using k⟩
  | n + 1, r, h, k => by
    obtain ⟨h1, h2, h3, h4⟩ := h
    cases e : r.ps with
    | nil => simp [Rg.none, e, h2] at k
    | cons p ps =>
      obtain ⟨p1, p2, p3, p4⟩ := h3 p (by simp [e])
      obtain ⟨t, ⟨l, tv⟩, tm⟩ := Form.row p3 p4
      obtain ⟨q1, q2⟩ := p2.lo0 p1
      refine ⟨_ :: t, ⟨by simp [l], ?_⟩, ⟨p, by simp [e], q2, tm⟩⟩
      intro v hv
      rcases List.mem_cons.1 hv with rfl | hv
      · exact q1
      · exact tv v hv

theorem none_not_mem {n : Nat} {r : Rg} (_h : Form n r) (k : r.none = true) (t : List Vl) : ¬ mem t r := by
  simp only [Rg.none, Bool.and_eq_true, Bool.not_eq_true', List.isEmpty_iff] at k
  cases t with
  | nil => simp [mem, k.1]
  | cons v t => simp [mem, k.2]

theorem pair_sym {α : Type} {R : α → α → Prop} : ∀ {l : List α}, l.Pairwise R → ∀ {x y}, x ∈ l → y ∈ l → x = y ∨ R x y ∨ R y x
  | [], _, _, _, hx, _ => by cases hx
  | a :: l, h, x, y, hx, hy => by
    obtain ⟨h1, h2⟩ := List.pairwise_cons.1 h
    rcases List.mem_cons.1 hx with e | kx <;> rcases List.mem_cons.1 hy with e' | ky
    · exact .inl (e.trans e'.symm)
    · exact .inr (.inl (e ▸ h1 _ ky))
    · exact .inr (.inr (e' ▸ h1 _ kx))
    · exact pair_sym h2 kx ky

theorem sorted_eq {α : Type} {R : α → α → Prop} (irr : ∀ x, ¬ R x x) (asym : ∀ x y, R x y → ¬ R y x) : ∀ {l m : List α}, l.Pairwise R → m.Pairwise R → (∀ x, x ∈ l ↔ x ∈ m) → l = m
  | [], [], _, _, _ => rfl
  | [], y :: m, _, _, h => absurd ((h y).2 (by simp)) (by simp)
  | x :: l, [], _, _, h => absurd ((h x).1 (by simp)) (by simp)
  | x :: l, y :: m, hl, hm, h => by
    obtain ⟨l1, l2⟩ := List.pairwise_cons.1 hl
    obtain ⟨m1, m2⟩ := List.pairwise_cons.1 hm
    have e : x = y := by
      rcases List.mem_cons.1 ((h x).1 (by simp)) with e | k
      · exact e
      · rcases List.mem_cons.1 ((h y).2 (by simp)) with e | k'
        · exact e.symm
        · exact absurd (l1 _ k') (asym _ _ (m1 _ k))
    subst e
    rw [sorted_eq irr asym l2 m2 fun z => ?_]
    constructor
    · intro hz
      rcases List.mem_cons.1 ((h z).1 (by simp [hz])) with e | k
      · subst e; exact absurd (l1 _ hz) (irr _)
      · exact k
    · intro hz
      rcases List.mem_cons.1 ((h z).2 (by simp [hz])) with e | k
      · subst e; exact absurd (m1 _ hz) (irr _)
      · exact k

/-- The part of a region that holds a value is one. -/
theorem Form.one {n : Nat} {r : Rg} (h : Form (n + 1) r) {p q : List Iv × Rg} (hp : p ∈ r.ps) (hq : q ∈ r.ps) {v : Vl} (vp : has p.1 v) (vq : has q.1 v) : p = q := by
  rcases pair_sym h.2.2.2 hp hq with e | k | k
  · exact e
  · exact absurd vq (k.2.1 v vp)
  · exact absurd vp (k.2.1 v vq)

theorem Form.one_rest {n : Nat} {r : Rg} (h : Form (n + 1) r) {p q : List Iv × Rg} (hp : p ∈ r.ps) (hq : q ∈ r.ps) (e : p.2 = q.2) : p = q := by
  rcases pair_sym h.2.2.2 hp hq with e | k | k
  · exact e
  · exact absurd e k.2.2
  · exact absurd e.symm k.2.2

theorem Form.mem_cons {n : Nat} {r : Rg} (h : Form (n + 1) r) {p : List Iv × Rg} (hp : p ∈ r.ps) {v : Vl} (vp : has p.1 v) (t : List Vl) : mem (v :: t) r ↔ mem t p.2 := by
  constructor
  · rintro ⟨q, hq, vq, m⟩
    rw [h.one hp hq vp vq]
    exact m
  · exact fun m => ⟨p, hp, vp, m⟩

/-- Two regions of canonical form with the same rows are one. -/
theorem Form.unique : ∀ {n : Nat} {a b : Rg}, Form n a → Form n b → (∀ t, Rows n t → (mem t a ↔ mem t b)) → a = b
  | 0, .mk w f ps, .mk w' f' ps', ⟨h1, h2⟩, ⟨k1, k2⟩, h => by
    have e := h [] ⟨rfl, by simp⟩
    simp only [mem, Rg.full_mk, Rg.w_mk, Rg.ps_mk] at *
    subst h1 k1 h2 k2
    cases f <;> cases f' <;> simp_all
  | n + 1, a, b, ha, hb, h => by
    have key : ∀ {a b : Rg}, Form (n + 1) a → Form (n + 1) b → (∀ t, Rows (n + 1) t → (mem t a ↔ mem t b)) → ∀ p ∈ a.ps, ∀ v, v.ok = true → has p.1 v → ∃ q ∈ b.ps, has q.1 v ∧ q.2 = p.2 := by
      intro a b ha hb h p hp v vo vp
      obtain ⟨p1, p2, p3, p4⟩ := ha.2.2.1 p hp
      obtain ⟨t, tr, tm⟩ := p3.row p4
      have rows : ∀ t, Rows n t → Rows (n + 1) (v :: t) := fun t tr => ⟨by simp [tr.1], fun u hu => by
        rcases List.mem_cons.1 hu with rfl | hu
        · exact vo
        · exact tr.2 u hu⟩
      obtain ⟨q, hq, vq, _⟩ := (h _ (rows t tr)).1 ⟨p, hp, vp, tm⟩
      refine ⟨q, hq, vq, ?_⟩
      refine Form.unique (hb.2.2.1 q hq).2.2.1 p3 fun t tr => ?_
      rw [← hb.mem_cons hq vq, ← ha.mem_cons hp vp]
      exact (h _ (rows t tr)).symm
    have sub : ∀ {a b : Rg}, Form (n + 1) a → Form (n + 1) b → (∀ t, Rows (n + 1) t → (mem t a ↔ mem t b)) → ∀ p ∈ a.ps, p ∈ b.ps := by
      intro a b ha hb h p hp
      obtain ⟨p1, p2, p3, p4⟩ := ha.2.2.1 p hp
      obtain ⟨v1, v2⟩ := p2.lo0 p1
      obtain ⟨q, hq, vq, e⟩ := key ha hb h p hp _ v1 v2
      have e1 : p.1 = q.1 := by
        refine p2.unique (hb.2.2.1 q hq).2.1 fun v vo => ⟨fun vp => ?_, fun vq => ?_⟩
        · obtain ⟨q', hq', vq', e'⟩ := key ha hb h p hp v vo vp
          rw [hb.one_rest hq hq' (e.trans e'.symm)]
          exact vq'
        · obtain ⟨p', hp', vp', e'⟩ := key hb ha (fun t tr => (h t tr).symm) q hq v vo vq
          rw [ha.one_rest hp hp' (e.symm.trans e'.symm)]
          exact vp'
      have : p = q := by
        obtain ⟨x, y⟩ := p
        obtain ⟨x', y'⟩ := q
        simp only at e e1
        subst e e1
        rfl
      rw [this]
      exact hq
    have e : a.ps = b.ps := by
      have sa : a.ps.Pairwise fun p q => lo0 p.1 < lo0 q.1 := ha.2.2.2.imp fun h => h.1
      have sb : b.ps.Pairwise fun p q => lo0 p.1 < lo0 q.1 := hb.2.2.2.imp fun h => h.1
      exact sorted_eq (R := fun p q => lo0 p.1 < lo0 q.1) (fun x => Vl.irrefl _) (fun x y h k => Vl.irrefl _ (Vl.trans h k)) sa sb fun p => ⟨sub ha hb h p, sub hb ha (fun t tr => (h t tr).symm) p⟩
    have e1 := ha.1.trans hb.1.symm
    have e2 := ha.2.1.trans hb.2.1.symm
    rw [← Rg.eta a, ← Rg.eta b, e, e1, e2]

/-! ### The sweep: a region out of a function that changes only at some points -/
def restAt (r : Rg) (v : Vl) : Rg := match r.ps.find? (fun p => decide (has p.1 v)) with
  | some p => p.2
  | none => .mk (r.w - 1) false []

theorem restAt_some {n : Nat} {r : Rg} (h : Form (n + 1) r) {p : List Iv × Rg} (hp : p ∈ r.ps) {v : Vl} (vp : has p.1 v) : restAt r v = p.2 := by
  unfold restAt
  split
  · rename_i q e
    have := List.find?_some e
    simp only [decide_eq_true_eq] at this
    rw [h.one (List.mem_of_find?_eq_some e) hp this vp]
  · rename_i e
    rw [List.find?_eq_none] at e
    exact absurd vp (by simpa using e p hp)

theorem restAt_none {r : Rg} {v : Vl} (h : ∀ p ∈ r.ps, ¬ has p.1 v) : restAt r v = .mk (r.w - 1) false [] := by
  unfold restAt
  split
  · rename_i q e
    have := List.find?_some e
    simp only [decide_eq_true_eq] at this
    exact absurd this (h _ (List.mem_of_find?_eq_some e))
  · rfl

theorem Form.empty (n : Nat) : Form n (.mk n false []) := by
  cases n with
  | zero => exact ⟨rfl, rfl⟩
  | succ n => exact ⟨rfl, rfl, by simp, by simp⟩

theorem mem_empty (t : List Vl) (w : Int) : ¬ mem t (.mk w false []) := by
  cases t <;> simp [mem]

theorem restAt_form {n : Nat} {r : Rg} (h : Form (n + 1) r) (v : Vl) : Form n (restAt r v) := by
  by_cases k : ∃ p ∈ r.ps, has p.1 v
  · obtain ⟨p, hp, vp⟩ := k
    rw [restAt_some h hp vp]
    exact (h.2.2.1 p hp).2.2.1
  · rw [restAt_none (fun p hp vp => k ⟨p, hp, vp⟩), h.1]
    have := Form.empty n
    rwa [show ((n + 1 : Nat) : Int) - 1 = (n : Int) by omega]

theorem mem_restAt {n : Nat} {r : Rg} (h : Form (n + 1) r) (v : Vl) (t : List Vl) : mem (v :: t) r ↔ mem t (restAt r v) := by
  by_cases k : ∃ p ∈ r.ps, has p.1 v
  · obtain ⟨p, hp, vp⟩ := k
    rw [restAt_some h hp vp, h.mem_cons hp vp]
  · rw [restAt_none (fun p hp vp => k ⟨p, hp, vp⟩)]
    constructor
    · rintro ⟨p, hp, vp, _⟩
      exact absurd ⟨p, hp, vp⟩ k
    · exact fun m => absurd m (mem_empty _ _)

/-- The last interval ends at p. -/
def shutLast : List Iv → Vl → List Iv
  | [], _ => []
  | [x], p => [⟨x.lo, p, false⟩]
  | x :: y :: t, p => x :: shutLast (y :: t) p

abbrev Pts := List (List Iv × Rg)

def stepPs (ps : Pts) (last k : Option Nat) (p : Vl) : Pts :=
  if k = last then ps else
    let ps1 := match last with
      | none => ps
      | some j => ps.modify j fun q => (shutLast q.1 p, q.2)
    match k with
    | none => ps1
    | some j => ps1.modify j fun q => (q.1 ++ [⟨p, .zero, true⟩], q.2)

open Classical in
/-- Which part has this rest; a new one if none has. -/
noncomputable def seek (ps : Pts) (sub : Rg) : Pts × Option Nat :=
  if sub.none then (ps, none) else
    match ps.findIdx? fun q => decide (q.2 = sub) with
    | some j => (ps, some j)
    | none => (ps ++ [([], sub)], some ps.length)

noncomputable def sweep (f : Vl → Rg) : List Vl → Pts → Option Nat → Pts
  | [], ps, _ => ps
  | p :: l, ps, last => sweep f l (stepPs (seek ps (f p)).1 last (seek ps (f p)).2 p) (seek ps (f p)).2

/-- f changes at most at the points. -/
def Const (f : Vl → Rg) : List Vl → Prop
  | [] => True
  | p :: l => (∀ v, v.ok = true → p ≤ v → (∀ p' ∈ l.head?, v < p') → f v = f p) ∧ Const f l

/-- A list whose intervals all end before the next point. -/
def Done (l : List Iv) (h : Option Vl) : Prop := Ok l ∧ ∀ x ∈ l, x.op = false ∧ ∀ p ∈ h, x.hi < p
def Going (l : List Iv) (h : Option Vl) : Prop := Ok l ∧ ∃ m x, l = m ++ [x] ∧ x.op = true ∧ ∀ p ∈ h, x.lo < p

structure Inv (n : Nat) (f : Vl → Rg) (ps : Pts) (last : Option Nat) (h : Option Vl) : Prop where
  rest : ∀ q ∈ ps, q.1 ≠ [] ∧ Form n q.2 ∧ q.2.none = false ∧ ∀ p ∈ h, lo0 q.1 < p
  pair : ps.Pairwise fun p q => lo0 p.1 < lo0 q.1 ∧ p.2 ≠ q.2
  done : ∀ j q, ps[j]? = some q → some j ≠ last → Done q.1 h
  going : ∀ j q, ps[j]? = some q → some j = last → Going q.1 h
  last : ∀ j, some j = last → j < ps.length
  has : ∀ q ∈ ps, ∀ v, v.ok = true → (∀ p ∈ h, v < p) → (has q.1 v ↔ f v = q.2)
  all : ∀ v, v.ok = true → (∀ p ∈ h, v < p) → (f v).none = false → ∃ q ∈ ps, q.2 = f v

theorem shutLast_snoc (m : List Iv) (x : Iv) (p : Vl) : shutLast (m ++ [x]) p = m ++ [⟨x.lo, p, false⟩] := by
  induction m with
  | nil => rfl
  | cons y m ih =>
    cases m with
    | nil => rfl
    | cons z m => simp only [List.cons_append] at ih ⊢; rw [shutLast, ih]

theorem Ok.snoc_iff {m : List Iv} {x : Iv} : Ok (m ++ [x]) ↔ (x.shut ∨ x.open_) ∧ (∀ y ∈ m, y.shut) ∧ Ok m ∧ ∀ y ∈ m.getLast?, y.hi < x.lo := by
  induction m with
  | nil => simp [Ok]
  | cons y m ih =>
    cases m with
    | nil => simp [Ok]; grind
    | cons z m =>
      simp only [List.cons_append] at ih ⊢
      simp only [Ok, ih]
      simp only [List.mem_cons, List.getLast?_cons_cons]
      constructor
      · rintro ⟨a, b, c, d, e, g⟩
        exact ⟨c, by rintro u (rfl | rfl | hu); exact a; exact d _ (.inl rfl); exact d _ (.inr hu), ⟨a, b, e⟩, g⟩
      · rintro ⟨a, b, ⟨c, d, e⟩, g⟩
        exact ⟨c, d, a, fun u hu => b u (.inr hu), e, g⟩

theorem lo0_snoc (m : List Iv) (x : Iv) : lo0 (m ++ [x]) = if m = [] then x.lo else lo0 m := by
  cases m <;> simp [lo0]

theorem Going.shut {l : List Iv} {p : Vl} (h : Going l (some p)) (po : p.ok = true) (h' : Option Vl) (hp : ∀ p' ∈ h', p < p') :
    Done (shutLast l p) h' ∧ lo0 (shutLast l p) = lo0 l ∧ shutLast l p ≠ [] ∧ ∀ v, Ps.has (shutLast l p) v ↔ Ps.has l v ∧ v < p := by
  obtain ⟨h1, m, x, rfl, h2, h3⟩ := h
  obtain ⟨a, b, c, d⟩ := Ok.snoc_iff.1 h1
  have lp : x.lo < p := h3 p rfl
  have xo : x.lo.ok = true := by rcases a with a | a <;> exact a.2.1
  rw [shutLast_snoc]
  have later : ∀ y ∈ m, y.hi < x.lo := by
    intro y hy
    rcases List.eq_nil_or_concat m with rfl | ⟨m', z, rfl⟩
    · cases hy
    · rw [List.concat_eq_append] at *
      have dz : z.hi < x.lo := d z (by simp)
      rcases List.mem_append.1 hy with hy | hy
      · obtain ⟨_, b', c', d'⟩ := Ok.snoc_iff.1 c
        -- all that stands ahead of z ends ahead of z's begin
        have : ∀ (m : List Iv) (z : Iv), Ok (m ++ [z]) → ∀ y ∈ m, y.hi < z.lo := by
          intro m
          induction m with
          | nil => intro z _ y hy; cases hy
          | cons u m ih =>
            intro z hz y hy
            have hz' : Ok (u :: (m ++ [z])) := hz
            rcases List.mem_cons.1 hy with rfl | hy
            · have k := hz'.later z.lo ⟨z, by simp, by
                obtain ⟨a, _⟩ := (Ok.snoc_iff (m := y :: m)).1 hz
                exact Iv.has_lo a⟩
              exact k.2
            · exact ih z hz'.tail y hy
        have k1 := this _ _ c y hy
        have k2 : z.lo < z.hi := (b z (by simp)).2.2.2
        grind
      · simp at hy; subst hy; exact dz
  refine ⟨⟨Ok.snoc_iff.2 ⟨.inl ⟨rfl, xo, po, lp⟩, b, c, d⟩, ?_⟩, ?_, by simp, ?_⟩
  · intro y hy
    rcases List.mem_append.1 hy with hy | hy
    · refine ⟨(b y hy).1, fun p' h' => ?_⟩
      have := later y hy
      have := hp p' h'
      grind
    · simp at hy; subst hy
      exact ⟨rfl, fun p' h' => hp p' h'⟩
  · simp only [lo0_snoc]
  · intro v
    simp only [has_append, has_cons]
    constructor
    · rintro (k | k | k)
      · refine ⟨.inl k, ?_⟩
        obtain ⟨y, hy, hv⟩ := k
        have := later y hy
        rcases hv.2 with q | q
        · rw [(b y hy).1] at q; cases q
        · grind
      · have k2 : v < p := by rcases k.2 with q | q; cases q; exact q
        exact ⟨.inr (.inl ⟨k.1, .inl h2⟩), k2⟩
      · exact absurd k (has_nil v)
    · rintro ⟨k | k | k, q⟩
      · exact .inl k
      · exact .inr (.inl ⟨k.1, .inr q⟩)
      · exact absurd k (has_nil v)

theorem Done.reopen {l : List Iv} {p : Vl} (h : Done l (some p)) (po : p.ok = true) (h' : Option Vl) (hp : ∀ p' ∈ h', p < p') :
    Going (l ++ [⟨p, .zero, true⟩]) h' ∧ ∀ v, Ps.has (l ++ [⟨p, .zero, true⟩]) v ↔ Ps.has l v ∨ p ≤ v := by
  obtain ⟨h1, h2⟩ := h
  have sh : ∀ y ∈ l, y.shut := by
    intro y hy
    have : ∀ (l : List Iv), Ok l → ∀ y ∈ l, y.shut ∨ y.open_ := by
      intro l
      induction l with
      | nil => intro _ y hy; cases hy
      | cons u l ih =>
        intro hl y hy
        rcases List.mem_cons.1 hy with rfl | hy
        · exact hl.head
        · exact ih hl.tail y hy
    rcases this l h1 y hy with k | k
    · exact k
    · exact absurd (h2 y hy).1 (by simp [k.1])
  refine ⟨⟨Ok.snoc_iff.2 ⟨.inr ⟨rfl, po, rfl⟩, sh, h1, fun y hy => (h2 y (List.mem_of_getLast? hy)).2 p rfl⟩, l, _, rfl, rfl, hp⟩, fun v => ?_⟩
  simp only [has_append, has_cons, has_nil, or_false]
  constructor
  · rintro (k | k)
    · exact .inl k
    · exact .inr k.1
  · rintro (k | k)
    · exact .inl k
    · exact .inr ⟨k, .inl rfl⟩

def adj (last k : Option Nat) (p : Vl) (j : Nat) (l : List Iv) : List Iv :=
  if k = last then l else
    let l1 := if last = some j then shutLast l p else l
    if k = some j then l1 ++ [⟨p, .zero, true⟩] else l1

theorem stepPs_get (ps : Pts) (last k : Option Nat) (p : Vl) (j : Nat) : (stepPs ps last k p)[j]? = ps[j]?.map fun q => (adj last k p j q.1, q.2) := by
  unfold stepPs adj
  by_cases e : k = last
  · simp [e]
  · simp only [if_neg e]
    cases last with
    | none =>
      cases k with
      | none => exact absurd rfl e
      | some i =>
        simp only [List.getElem?_modify]
        by_cases h : i = j
        · subst h; simp
        · simp [h]
    | some m =>
      cases k with
      | none =>
        simp only [List.getElem?_modify]
        by_cases h : m = j
        · subst h; simp
        · simp [h]
      | some i =>
        simp only [List.getElem?_modify]
        by_cases h : i = j
        · subst h
          by_cases h2 : m = i
          · subst h2; exact absurd rfl e
          · cases ps[i]? <;> simp [h2]
        · by_cases h2 : m = j
          · subst h2; cases ps[m]? <;> simp [h]
          · cases ps[j]? <;> simp [h, h2]

theorem stepPs_length (ps : Pts) (last k : Option Nat) (p : Vl) : (stepPs ps last k p).length = ps.length := by
  unfold stepPs
  split
  · rfl
  · cases last <;> cases k <;> simp

inductive Seek (ps : Pts) (sub : Rg) : Pts × Option Nat → Prop where
  | none (h : sub.none = true) : Seek ps sub (ps, none)
  | old (h : sub.none = false) (j : Nat) (q : List Iv × Rg) (hj : ps[j]? = some q) (hq : q.2 = sub) : Seek ps sub (ps, some j)
  | new (h : sub.none = false) (hn : ∀ q ∈ ps, q.2 ≠ sub) : Seek ps sub (ps ++ [([], sub)], some ps.length)

theorem seek_is (ps : Pts) (sub : Rg) : Seek ps sub (seek ps sub) := by
  unfold seek
  cases hn : sub.none with
  | true => exact .none hn
  | false =>
    simp only [Bool.false_eq_true, if_false]
    split
    · rename_i j e
      rw [List.findIdx?_eq_some_iff_getElem] at e
      obtain ⟨hj, e, _⟩ := e
      exact .old hn j ps[j] (by simp [hj]) (by simpa using e)
    · rename_i e
      rw [List.findIdx?_eq_none_iff] at e
      exact .new hn fun q hq => by simpa using e q hq

theorem Done.le {l : List Iv} {p : Vl} (h : Done l (some p)) {v : Vl} (k : Ps.has l v) : v < p := by
  obtain ⟨x, hx, k⟩ := k
  have := h.2 x hx
  rcases k.2 with q | q
  · rw [this.1] at q; cases q
  · have := this.2 p rfl; grind

theorem Done.mono {l : List Iv} {p : Vl} (h : Done l (some p)) (h' : Option Vl) (hp : ∀ p' ∈ h', p < p') : Done l h' :=
  ⟨h.1, fun x hx => ⟨(h.2 x hx).1, fun p' k => Vl.trans ((h.2 x hx).2 p rfl) (hp p' k)⟩⟩

theorem Going.mono {l : List Iv} {p : Vl} (h : Going l (some p)) (h' : Option Vl) (hp : ∀ p' ∈ h', p < p') : Going l h' := by
  obtain ⟨h1, m, x, e, h2, h3⟩ := h
  exact ⟨h1, m, x, e, h2, fun p' k => Vl.trans (h3 p rfl) (hp p' k)⟩

theorem Going.has {l : List Iv} {p : Vl} (h : Going l (some p)) {v : Vl} (k : p ≤ v) : Ps.has l v := by
  obtain ⟨h1, m, x, rfl, h2, h3⟩ := h
  refine ⟨x, by simp, ?_, .inl h2⟩
  have := h3 p rfl
  grind

theorem lo0_append (l m : List Iv) : lo0 (l ++ m) = if l = [] then lo0 m else lo0 l := by
  cases l <;> simp [lo0]

/-- What one part becomes. -/
structure Part (n : Nat) (f : Vl → Rg) (j : Nat) (k : Option Nat) (h' : Option Vl) (q q' : List Iv × Rg) (p : Vl) : Prop where
  snd : q'.2 = q.2
  ne : q'.1 ≠ []
  lo : lo0 q'.1 = if q.1 = [] then p else lo0 q.1
  done : some j ≠ k → Done q'.1 h'
  going : some j = k → Going q'.1 h'
  has : ∀ v, v.ok = true → (∀ p ∈ h', v < p) → (Ps.has q'.1 v ↔ f v = q.2)

theorem adj_part {n : Nat} {f : Vl → Rg} {p : Vl} {h' : Option Vl} (po : p.ok = true) (hp : ∀ p' ∈ h', p < p') (hc : ∀ v, v.ok = true → p ≤ v → (∀ p' ∈ h', v < p') → f v = f p)
    {last k : Option Nat} {j : Nat} {q : List Iv × Rg} (ne : q.1 = [] → last ≠ some j ∧ k = some j) (done : some j ≠ last → Done q.1 (some p)) (going : some j = last → Going q.1 (some p))
    (hh : ∀ v, v.ok = true → v < p → (Ps.has q.1 v ↔ f v = q.2)) (hk : q.2 = f p ↔ k = some j) : Part n f j k h' q (adj last k p j q.1, q.2) p := by
  have split : ∀ (l' : List Iv), (∀ v, v < p → (Ps.has l' v ↔ Ps.has q.1 v)) → (∀ v, p ≤ v → (Ps.has l' v ↔ k = some j)) → ∀ v, v.ok = true → (∀ p ∈ h', v < p) → (Ps.has l' v ↔ f v = q.2) := by
    intro l' a b v vo vh
    by_cases vp : v < p
    · rw [a v vp, hh v vo vp]
    · have vp : p ≤ v := by grind
      rw [b v vp, hc v vo vp vh, ← hk]
      exact eq_comm
  unfold adj
  by_cases e : k = last
  · simp only [if_pos e]
    have nn : q.1 ≠ [] := fun z => (ne z).1 (e ▸ (ne z).2)
    refine ⟨rfl, nn, by simp [nn], fun h => (done (e ▸ h)).mono _ hp, fun h => (going (e ▸ h)).mono _ hp, split _ (fun v _ => Iff.rfl) fun v vp => ?_⟩
    by_cases z : k = some j
    · exact ⟨fun _ => z, fun _ => (going (e ▸ z.symm)).has vp⟩
    · exact ⟨fun h => absurd ((done (fun c => z (e.trans c.symm))).le h) (by grind), fun h => absurd h z⟩
  · simp only [if_neg e]
    by_cases z : last = some j
    · have zk : k ≠ some j := fun c => e (c.trans z.symm)
      simp only [if_pos z, if_neg zk]
      obtain ⟨g1, g2, g3, g4⟩ := (going z.symm).shut po h' hp
      refine ⟨rfl, g3, by rw [g2, if_neg fun c => (ne c).1 z], fun _ => g1, fun c => absurd c.symm zk, split _ (fun v vp => by rw [g4]; simp [vp]) fun v vp => ?_⟩
      exact ⟨fun h => absurd ((g4 v).1 h).2 (by grind), fun h => absurd h zk⟩
    · simp only [if_neg z]
      have d := done (fun c => z c.symm)
      by_cases zk : k = some j
      · simp only [if_pos zk]
        obtain ⟨g1, g2⟩ := d.reopen po h' hp
        refine ⟨rfl, by simp, by rw [lo0_append]; simp [lo0], fun c => absurd zk.symm c, fun _ => g1, split _ (fun v vp => ?_) fun v vp => ?_⟩
        · rw [g2]
          exact ⟨fun h => h.elim id fun c => absurd c (by grind), .inl⟩
        · rw [g2]
          exact ⟨fun _ => zk, fun _ => .inr vp⟩
      · simp only [if_neg zk]
        have nn : q.1 ≠ [] := fun c => zk (ne c).2
        refine ⟨rfl, nn, by simp [nn], fun _ => d.mono _ hp, fun c => absurd c.symm zk, split _ (fun v _ => Iff.rfl) fun v vp => ?_⟩
        exact ⟨fun h => absurd (d.le h) (by grind), fun h => absurd h zk⟩

theorem pw_get {α : Type} {R : α → α → Prop} {l : List α} : l.Pairwise R ↔ ∀ (i j : Nat) (a b : α), l[i]? = some a → l[j]? = some b → i < j → R a b := by
  rw [List.pairwise_iff_getElem]
  constructor
  · intro h i j a b ha hb hij
    obtain ⟨h1, rfl⟩ := List.getElem?_eq_some_iff.1 ha
    obtain ⟨h2, rfl⟩ := List.getElem?_eq_some_iff.1 hb
    exact h i j h1 h2 hij
  · intro h i j hi hj hij
    exact h i j _ _ (List.getElem?_eq_getElem hi) (List.getElem?_eq_getElem hj) hij

theorem Inv.step {n : Nat} {f : Vl → Rg} {ps : Pts} {last : Option Nat} {p : Vl} {l : List Vl} (I : Inv n f ps last (some p)) (po : p.ok = true) (hp : ∀ p' ∈ l.head?, p < p')
    (hc : ∀ v, v.ok = true → p ≤ v → (∀ p' ∈ l.head?, v < p') → f v = f p) (F : Form n (f p)) :
    Inv n f (stepPs (seek ps (f p)).1 last (seek ps (f p)).2 p) (seek ps (f p)).2 l.head? := by
  have S := seek_is ps (f p)
  generalize hS : seek ps (f p) = s at S
  obtain ⟨ps1, k⟩ := s
  simp only
  -- what stands ahead of the step, place by place
  have A : ∀ j q, ps1[j]? = some q → Part n f j k l.head? q (adj last k p j q.1, q.2) p ∧ Form n q.2 ∧ q.2.none = false ∧ (q.1 = [] → j = ps.length) ∧ (q.1 ≠ [] → lo0 q.1 < p) := by
    intro j q hq
    have old : ∀ q, ps[j]? = some q → (q.2 = f p ↔ k = some j) → Part n f j k l.head? q (adj last k p j q.1, q.2) p ∧ Form n q.2 ∧ q.2.none = false ∧ (q.1 = [] → j = ps.length) ∧ (q.1 ≠ [] → lo0 q.1 < p) := by
      intro q hq hk
      obtain ⟨r1, r2, r3, r4⟩ := I.rest q (List.mem_of_getElem? hq)
      exact ⟨adj_part po hp hc (fun c => absurd c r1) (I.done j q hq) (I.going j q hq) (fun v vo vp => I.has q (List.mem_of_getElem? hq) v vo (by simpa using vp)) hk, r2, r3, fun c => absurd c r1, fun _ => r4 p rfl⟩
    cases S with
    | none h => exact old q hq ⟨fun c => (by have := (I.rest q (List.mem_of_getElem? hq)).2.2.1; rw [c, h] at this; cases this), fun c => (by cases c)⟩
    | old h i u hi hu =>
      refine old q hq ⟨fun c => ?_, fun c => ?_⟩
      · rw [← hu] at c
        by_cases z : i = j
        · rw [z]
        · rcases Nat.lt_or_gt_of_ne z with z | z
          · exact absurd c.symm (pw_get.1 I.pair i j u q hi hq z).2
          · exact absurd c (pw_get.1 I.pair j i q u hq hi z).2
      · cases c
        rw [hi] at hq
        cases hq
        exact hu
    | new h hn =>
      rw [List.getElem?_append] at hq
      split at hq
      · rename_i hj
        exact old q hq ⟨fun c => absurd c (hn q (List.mem_of_getElem? hq)), fun c => by cases c; omega⟩
      · rename_i hj
        have e : j = ps.length := by
          have := (List.getElem?_eq_some_iff.1 hq).1
          simp at this; omega
        subst e
        simp at hq
        subst hq
        have nl : last ≠ some ps.length := fun c => absurd (I.last _ c.symm) (by omega)
        refine ⟨adj_part po hp hc (fun _ => ⟨nl, rfl⟩) (fun _ => ⟨trivial, by simp⟩) (fun c => absurd c.symm nl) (fun v vo vp => ?_) (by simp), F, h, fun _ => rfl, fun c => absurd rfl c⟩
        refine ⟨fun c => absurd c (has_nil v), fun c => ?_⟩
        obtain ⟨u, hu, e⟩ := I.all v vo (by simpa using vp) (by rw [c]; exact h)
        exact absurd (e.trans c) (hn u hu)
  have pr : ps1.Pairwise fun a b => (b.1 ≠ [] → lo0 a.1 < lo0 b.1) ∧ a.2 ≠ b.2 ∧ a.1 ≠ [] := by
    have base : ps.Pairwise fun a b => (b.1 ≠ [] → lo0 a.1 < lo0 b.1) ∧ a.2 ≠ b.2 ∧ a.1 ≠ [] := by
      have hne : ∀ a ∈ ps, a.1 ≠ [] := fun a ha => (I.rest a ha).1
      exact List.Pairwise.imp_of_mem (fun {a b} ha _ h => ⟨fun _ => h.1, h.2, hne a ha⟩) I.pair
    cases S with
    | none h => exact base
    | old h i u hi hu => exact base
    | new h hn =>
      rw [List.pairwise_append]
      refine ⟨base, by simp, fun a ha b hb => ?_⟩
      simp at hb; subst hb
      exact ⟨fun c => absurd rfl c, hn a ha, (I.rest a ha).1⟩
  have get : ∀ j q', (stepPs ps1 last k p)[j]? = some q' → ∃ q, ps1[j]? = some q ∧ q' = (adj last k p j q.1, q.2) := by
    intro j q' h
    rw [stepPs_get] at h
    cases e : ps1[j]? with
    | none => rw [e] at h; cases h
    | some q => rw [e] at h; exact ⟨q, rfl, (Option.some.inj h).symm⟩
  refine ⟨?_, ?_, ?_, ?_, ?_, ?_, ?_⟩
  · intro q' hq'
    obtain ⟨j, hj⟩ := List.getElem?_of_mem hq'
    obtain ⟨q, hq, rfl⟩ := get j q' hj
    obtain ⟨P, a, b, _, d⟩ := A j q hq
    refine ⟨P.ne, a, b, fun p' h => ?_⟩
    have := hp p' h
    rw [P.lo]
    split
    · exact this
    · rename_i c; exact Vl.trans (d c) this
  · rw [pw_get]
    intro i j a' b' ha' hb' hij
    obtain ⟨a, ha, rfl⟩ := get i a' ha'
    obtain ⟨b, hb, rfl⟩ := get j b' hb'
    obtain ⟨Pa, _, _, _, da⟩ := A i a ha
    obtain ⟨Pb, _, _, _, _⟩ := A j b hb
    obtain ⟨p1, p2, p3⟩ := pw_get.1 pr i j a b ha hb hij
    refine ⟨?_, p2⟩
    rw [Pa.lo, Pb.lo, if_neg p3]
    split
    · exact da p3
    · rename_i c; exact p1 c
  · intro j q' hq' hk
    obtain ⟨q, hq, rfl⟩ := get j q' hq'
    exact (A j q hq).1.done hk
  · intro j q' hq' hk
    obtain ⟨q, hq, rfl⟩ := get j q' hq'
    exact (A j q hq).1.going hk
  · intro j hj
    rw [stepPs_length]
    cases S with
    | none h => cases hj
    | old h i u hi hu => cases hj; exact (List.getElem?_eq_some_iff.1 hi).1
    | new h hn => cases hj; simp
  · intro q' hq' v vo vh
    obtain ⟨j, hj⟩ := List.getElem?_of_mem hq'
    obtain ⟨q, hq, rfl⟩ := get j q' hj
    exact (A j q hq).1.has v vo vh
  · intro v vo vh vn
    have found : ∃ q ∈ ps1, q.2 = f v := by
      by_cases vp : v < p
      · obtain ⟨u, hu, e⟩ := I.all v vo (by simpa using vp) vn
        refine ⟨u, ?_, e⟩
        cases S with
        | none h => exact hu
        | old h i u hi hu' => exact hu
        | new h hn => exact List.mem_append.2 (.inl hu)
      · have vp : p ≤ v := by grind
        rw [hc v vo vp vh] at vn ⊢
        cases S with
        | none h => rw [h] at vn; cases vn
        | old h i u hi hu' => exact ⟨u, List.mem_of_getElem? hi, hu'⟩
        | new h hn => exact ⟨([], f p), List.mem_append.2 (.inr (by simp)), rfl⟩
    obtain ⟨q, hq, e⟩ := found
    obtain ⟨j, hj⟩ := List.getElem?_of_mem hq
    refine ⟨(adj last k p j q.1, q.2), List.mem_of_getElem? (i := j) ?_, e⟩
    rw [stepPs_get, hj]
    rfl

theorem sweep_inv {n : Nat} {f : Vl → Rg} : ∀ (l : List Vl) (ps : Pts) (last : Option Nat), l.Pairwise (· < ·) → (∀ p ∈ l, p.ok = true) → (∀ p ∈ l, Form n (f p)) → Const f l →
    Inv n f ps last l.head? → ∃ last', Inv n f (sweep f l ps last) last' none
  | [], ps, last, _, _, _, _, I => ⟨last, I⟩
  | p :: l, ps, last, hs, ho, hF, hC, I => by
    obtain ⟨s1, s2⟩ := List.pairwise_cons.1 hs
    have hp : ∀ p' ∈ l.head?, p < p' := fun p' h => s1 p' (List.mem_of_head? h)
    exact sweep_inv l _ _ s2 (fun q hq => ho q (by simp [hq])) (fun q hq => hF q (by simp [hq])) hC.2 (I.step (ho p (by simp)) hp hC.1 (hF p (by simp)))

theorem has_ok_of {l : List Iv} (h : Ok l) {x : Iv} (hx : x ∈ l) : x.lo.ok = true ∧ (x.op = false → x.shut) ∧ (x.op = true → x.open_) := by
  have : ∀ (l : List Iv), Ok l → ∀ y ∈ l, y.shut ∨ y.open_ := by
    intro l
    induction l with
    | nil => intro _ y hy; cases hy
    | cons u l ih =>
      intro hl y hy
      rcases List.mem_cons.1 hy with rfl | hy
      · exact hl.head
      · exact ih hl.tail y hy
  rcases this l h x hx with k | k
  · exact ⟨k.2.1, fun _ => k, fun c => by rw [k.1] at c; cases c⟩
  · exact ⟨k.2.1, fun c => (by rw [k.1] at c; cases c), fun _ => k⟩

/-- Sets that share no valid value share none. -/
theorem Ok.apart {a b : List Iv} (ha : Ok a) (hb : Ok b) (h : ∀ v, v.ok = true → has a v → ¬ has b v) : ∀ v, has a v → ¬ has b v := by
  rintro v ⟨x, hx, x1, x2⟩ ⟨y, hy, y1, y2⟩
  have xo := (has_ok_of ha hx).1
  have yo := (has_ok_of hb hy).1
  by_cases c : x.lo ≤ y.lo
  · exact h y.lo yo ⟨x, hx, c, x2.imp id fun q => by grind⟩ ⟨y, hy, by grind, y2.imp id fun q => by grind⟩
  · exact h x.lo xo ⟨x, hx, by grind, x2.imp id fun q => by grind⟩ ⟨y, hy, by grind, y2.imp id fun q => by grind⟩

theorem Inv.start (n : Nat) (f : Vl → Rg) {h : Option Vl} (hh : ∀ v, v.ok = true → ¬ ∀ p ∈ h, v < p) : Inv n f [] none h :=
  ⟨by simp, by simp, by simp, by simp, by simp, by simp, fun v vo vh => absurd vh (hh v vo)⟩

theorem Inv.form {n : Nat} {f : Vl → Rg} {ps : Pts} {last : Option Nat} (I : Inv n f ps last none) : Form (n + 1) (.mk (n + 1) false ps) ∧ ∀ q ∈ ps, ∀ v, v.ok = true → (Ps.has q.1 v ↔ f v = q.2) := by
  have hok : ∀ q ∈ ps, Ok q.1 := by
    intro q hq
    obtain ⟨j, hj⟩ := List.getElem?_of_mem hq
    by_cases c : some j = last
    · exact (I.going j q hj c).1
    · exact (I.done j q hj c).1
  have hh : ∀ q ∈ ps, ∀ v, v.ok = true → (Ps.has q.1 v ↔ f v = q.2) := fun q hq v vo => I.has q hq v vo (by simp)
  refine ⟨⟨by simp, rfl, fun q hq => ⟨(I.rest q hq).1, hok q hq, (I.rest q hq).2.1, (I.rest q hq).2.2.1⟩, ?_⟩, hh⟩
  refine List.Pairwise.imp_of_mem (fun {a b} ha hb h => ⟨h.1, ?_, h.2⟩) I.pair
  exact (hok a ha).apart (hok b hb) fun v vo va vb => h.2 (((hh a ha v vo).1 va).symm.trans ((hh b hb v vo).1 vb))

theorem sweep_restAt {n : Nat} {f : Vl → Rg} {ps : Pts} {last : Option Nat} (I : Inv n f ps last none) (v : Vl) (vo : v.ok = true) (F : Form n (f v)) (t : List Vl) :
    mem (v :: t) (.mk (n + 1) false ps) ↔ mem t (f v) := by
  obtain ⟨h1, h2⟩ := I.form
  cases e : (f v).none with
  | true =>
    constructor
    · rintro ⟨q, hq, vq, _⟩
      have := (I.rest q hq).2.2.1
      rw [← (h2 q hq v vo).1 vq, e] at this
      cases this
    · exact fun m => absurd m (none_not_mem F e t)
  | false =>
    obtain ⟨q, hq, eq⟩ := I.all v vo (by simp) e
    rw [h1.mem_cons (p := q) hq ((h2 q hq v vo).2 eq.symm), eq]

/-! ### Points -/
def ins (v : Vl) : List Vl → List Vl
  | [] => [v]
  | u :: l => if v < u then v :: u :: l else if v = u then u :: l else u :: ins v l
def sortU : List Vl → List Vl
  | [] => []
  | v :: l => ins v (sortU l)

theorem mem_ins (v : Vl) : ∀ (l : List Vl) (x : Vl), x ∈ ins v l ↔ x = v ∨ x ∈ l
  | [], x => by simp [ins]
  | u :: l, x => by
    unfold ins
    split
    · simp
    · split
      · rename_i e; subst e; simp
      · simp only [List.mem_cons, mem_ins v l x]
        constructor
        · rintro (a | a | a)
          · exact .inr (.inl a)
          · exact .inl a
          · exact .inr (.inr a)
        · rintro (a | a | a)
          · exact .inr (.inl a)
          · exact .inl a
          · exact .inr (.inr a)

theorem mem_sortU : ∀ (l : List Vl) (x : Vl), x ∈ sortU l ↔ x ∈ l
  | [], x => by simp [sortU]
  | v :: l, x => by rw [sortU, mem_ins, mem_sortU l x]; simp

theorem ins_sorted (v : Vl) : ∀ (l : List Vl), l.Pairwise (· < ·) → (ins v l).Pairwise (· < ·)
  | [], _ => by simp [ins]
  | u :: l, h => by
    obtain ⟨h1, h2⟩ := List.pairwise_cons.1 h
    unfold ins
    split
    · rename_i c
      refine List.pairwise_cons.2 ⟨fun x hx => ?_, h⟩
      rcases List.mem_cons.1 hx with e | k
      · rw [e]; exact c
      · exact Vl.trans c (h1 x k)
    · split
      · exact h
      · refine List.pairwise_cons.2 ⟨fun x hx => ?_, ins_sorted v l h2⟩
        rcases (mem_ins v l x).1 hx with e | k
        · grind
        · exact h1 x k

theorem sortU_sorted : ∀ l : List Vl, (sortU l).Pairwise (· < ·)
  | [] => .nil
  | v :: l => ins_sorted v _ (sortU_sorted l)

def ends (l : List Iv) : List Vl := l.flatMap fun x => if x.op then [x.lo] else [x.lo, x.hi]
def points (a b : Rg) : List Vl := sortU (Vl.least :: (a.ps.flatMap (fun q => ends q.1) ++ b.ps.flatMap (fun q => ends q.1)))

theorem mem_ends {l : List Iv} {v : Vl} : v ∈ ends l ↔ ∃ x ∈ l, v = x.lo ∨ (x.op = false ∧ v = x.hi) := by
  simp only [ends, List.mem_flatMap]
  constructor
  · rintro ⟨x, hx, h⟩
    refine ⟨x, hx, ?_⟩
    cases e : x.op <;> simp [e] at h ⊢ <;> exact h
  · rintro ⟨x, hx, h⟩
    refine ⟨x, hx, ?_⟩
    cases e : x.op <;> simp [e] at h ⊢ <;> exact h

theorem ends_ok {l : List Iv} (h : Ok l) {v : Vl} (hv : v ∈ ends l) : v.ok = true := by
  obtain ⟨x, hx, e | ⟨o, e⟩⟩ := mem_ends.1 hv
  · rw [e]; exact (has_ok_of h hx).1
  · rw [e]; exact ((has_ok_of h hx).2.1 o).2.2.1

theorem has_still {l : List Iv} {p v : Vl} (hpv : p ≤ v) (h : ∀ e ∈ ends l, e ≤ p ∨ v < e) : has l p ↔ has l v := by
  have : ∀ x ∈ l, (x.has p ↔ x.has v) := by
    intro x hx
    have h1 := h x.lo (mem_ends.2 ⟨x, hx, .inl rfl⟩)
    cases e : x.op with
    | true => simp only [Iv.has, e, true_or, and_true]; grind
    | false =>
      have h2 := h x.hi (mem_ends.2 ⟨x, hx, .inr ⟨e, rfl⟩⟩)
      simp only [Iv.has, e, Bool.false_eq_true, false_or]
      grind
  constructor
  · rintro ⟨x, hx, k⟩; exact ⟨x, hx, (this x hx).1 k⟩
  · rintro ⟨x, hx, k⟩; exact ⟨x, hx, (this x hx).2 k⟩

theorem restAt_still {r : Rg} {p v : Vl} (hpv : p ≤ v) (h : ∀ q ∈ r.ps, ∀ e ∈ ends q.1, e ≤ p ∨ v < e) : restAt r v = restAt r p := by
  unfold restAt
  have : ∀ (l : Pts), (∀ q ∈ l, ∀ e ∈ ends q.1, e ≤ p ∨ v < e) → l.find? (fun q => decide (has q.1 v)) = l.find? (fun q => decide (has q.1 p)) := by
    intro l
    induction l with
    | nil => intro _; rfl
    | cons q l ih =>
      intro h
      have := has_still hpv (h q (by simp))
      rw [List.find?_cons, List.find?_cons, ih fun u hu => h u (by simp [hu])]
      simp [this]
  rw [this r.ps h]

theorem const_of {f : Vl → Rg} {W : List Vl} (H : ∀ p v, v.ok = true → p ≤ v → (∀ e ∈ W, e ≤ p ∨ v < e) → f v = f p) : ∀ (l : List Vl), l.Pairwise (· < ·) → (∀ e ∈ W, e ∈ l ∨ ∀ x ∈ l, e < x) → Const f l
  | [], _, _ => trivial
  | p :: l, hs, hw => by
    obtain ⟨s1, s2⟩ := List.pairwise_cons.1 hs
    refine ⟨fun v vo pv vn => H p v vo pv fun e he => ?_, const_of H l s2 fun e he => ?_⟩
    · rcases hw e he with k | k
      · rcases List.mem_cons.1 k with k | k
        · left; grind
        · right
          cases l with
          | nil => cases k
          | cons q l =>
            have vq := vn q rfl
            rcases List.mem_cons.1 k with k | k
            · rw [k]; exact vq
            · exact Vl.trans vq ((List.pairwise_cons.1 s2).1 e k)
      · left; have := k p (by simp); grind
    · rcases hw e he with k | k
      · rcases List.mem_cons.1 k with k | k
        · right; intro x hx; rw [k]; exact s1 x hx
        · exact .inl k
      · exact .inr fun x hx => k x (by simp [hx])

theorem sorted_head {l : List Vl} (h : l.Pairwise (· < ·)) {v : Vl} (hv : v ∈ l) : ∃ p ∈ l.head?, p ≤ v := by
  cases l with
  | nil => cases hv
  | cons p l =>
    refine ⟨p, rfl, ?_⟩
    rcases List.mem_cons.1 hv with e | k
    · grind
    · have := (List.pairwise_cons.1 h).1 v k; grind

/-! ### An operation on two regions -/
noncomputable def form (op : Bool → Bool → Bool) : Nat → Rg → Rg → Rg
  | 0, a, b => .mk 0 (op a.full b.full) []
  | n + 1, a, b => .mk (n + 1) false (sweep (fun v => form op n (restAt a v) (restAt b v)) (points a b) [] none)

theorem Form.ends_ok {n : Nat} {r : Rg} (h : Form (n + 1) r) : ∀ v ∈ r.ps.flatMap (fun q => ends q.1), v.ok = true := by
  intro v hv
  obtain ⟨q, hq, k⟩ := List.mem_flatMap.1 hv
  exact Ps.ends_ok (h.2.2.1 q hq).2.1 k

theorem points_ok {n : Nat} {a b : Rg} (ha : Form (n + 1) a) (hb : Form (n + 1) b) : ∀ p ∈ points a b, p.ok = true := by
  intro p hp
  rw [points, mem_sortU] at hp
  rcases List.mem_cons.1 hp with e | hp
  · rw [e]; exact Vl.least_ok
  · rcases List.mem_append.1 hp with k | k
    · exact ha.ends_ok p k
    · exact hb.ends_ok p k

theorem points_const {β : Rg → Rg → Rg} (a b : Rg) : Const (fun v => β (restAt a v) (restAt b v)) (points a b) := by
  refine const_of (W := points a b) (fun p v _ pv h => ?_) _ (sortU_sorted _) (fun e he => .inl he)
  have ma : ∀ q ∈ a.ps, ∀ e ∈ ends q.1, e ≤ p ∨ v < e := fun q hq e he => h e (by
    rw [points, mem_sortU]
    exact List.mem_cons.2 (.inr (List.mem_append.2 (.inl (List.mem_flatMap.2 ⟨q, hq, he⟩)))))
  have mb : ∀ q ∈ b.ps, ∀ e ∈ ends q.1, e ≤ p ∨ v < e := fun q hq e he => h e (by
    rw [points, mem_sortU]
    exact List.mem_cons.2 (.inr (List.mem_append.2 (.inr (List.mem_flatMap.2 ⟨q, hq, he⟩)))))
  show β _ _ = β _ _
  rw [restAt_still pv ma, restAt_still pv mb]

theorem points_start (a b : Rg) : ∀ v, v.ok = true → ¬ ∀ p ∈ (points a b).head?, v < p := by
  intro v vo h
  obtain ⟨p, hp, le⟩ := sorted_head (sortU_sorted _) (v := Vl.least) (by rw [points, mem_sortU]; simp : Vl.least ∈ points a b)
  have := h p hp
  have := Vl.least_le vo
  grind

open Classical in
theorem form_is (op : Bool → Bool → Bool) : ∀ (n : Nat) (a b : Rg), Form n a → Form n b → Form n (form op n a b) ∧ ∀ t, Rows n t → (mem t (form op n a b) ↔ op (decide (mem t a)) (decide (mem t b)) = true)
  | 0, a, b, ha, hb => by
    refine ⟨⟨rfl, rfl⟩, fun t ht => ?_⟩
    obtain rfl : t = [] := List.eq_nil_of_length_eq_zero ht.1
    have e : ∀ x : Rg, decide (mem [] x) = x.full := by
      intro x
      cases h : x.full
      · exact decide_eq_false (by simp [mem, h])
      · exact decide_eq_true (by simp [mem, h])
    rw [e, e]
    simp only [form, mem, Rg.full_mk]
  | n + 1, a, b, ha, hb => by
    have ih : ∀ v, Form n (form op n (restAt a v) (restAt b v)) ∧ _ := fun v => form_is op n _ _ (restAt_form ha v) (restAt_form hb v)
    obtain ⟨last, I⟩ := sweep_inv (n := n) (f := fun v => form op n (restAt a v) (restAt b v)) (points a b) [] none (sortU_sorted _) (points_ok ha hb) (fun p _ => (ih p).1) (points_const a b)
      (Inv.start _ _ (points_start a b))
    refine ⟨I.form.1, fun t ht => ?_⟩
    cases t with
    | nil => have := ht.1; simp at this
    | cons v t =>
      have vo := ht.2 v (by simp)
      have tr : Rows n t := ⟨by have := ht.1; simpa using this, fun u hu => ht.2 u (by simp [hu])⟩
      have k := sweep_restAt I v vo (ih v).1 t
      simp only [form]
      rw [k, (ih v).2 t tr]
      simp only [mem_restAt ha, mem_restAt hb]

/-! ### Limits -/
mutual
def Rg.cnt : Rg → Nat
  | .mk _ _ ps => cntL ps
def cntL : List (List Iv × Rg) → Nat
  | [] => 0
  | (_, r) :: t => 1 + r.cnt + cntL t
end
mutual
def Rg.slim : Rg → Prop
  | .mk _ _ ps => slimL ps
def slimL : List (List Iv × Rg) → Prop
  | [] => True
  | (vs, r) :: t => vs.length ≤ 64 ∧ r.slim ∧ slimL t
end

theorem Rg.cnt_ps (r : Rg) : r.cnt = cntL r.ps := by cases r; simp [Rg.cnt, Rg.ps]
theorem cntL_cons (q : List Iv × Rg) (t : Pts) : cntL (q :: t) = 1 + q.2.cnt + cntL t := by obtain ⟨a, b⟩ := q; rw [cntL]
theorem slimL_iff : ∀ (ps : Pts), slimL ps ↔ ∀ q ∈ ps, q.1.length ≤ 64 ∧ q.2.slim
  | [] => by simp [slimL]
  | (vs, r) :: t => by simp [slimL, slimL_iff t, and_assoc]
theorem Rg.slim_iff (r : Rg) : r.slim ↔ ∀ q ∈ r.ps, q.1.length ≤ 64 ∧ q.2.slim := by cases r; simp only [Rg.slim, Rg.ps, slimL_iff]

def Fits (r : Rg) : Prop := r.cnt ≤ 64 ∧ r.slim

theorem cntL_append (a b : Pts) : cntL (a ++ b) = cntL a + cntL b := by
  induction a with
  | nil => simp [cntL]
  | cons q t ih => rw [List.cons_append, cntL_cons, cntL_cons, ih]; omega

theorem cntL_snd {a b : Pts} (h : a.map (·.2) = b.map (·.2)) : cntL a = cntL b := by
  induction a generalizing b with
  | nil => cases b with
    | nil => rfl
    | cons _ _ => simp at h
  | cons q t ih =>
    cases b with
    | nil => simp at h
    | cons u s =>
      simp only [List.map_cons, List.cons.injEq] at h
      rw [cntL_cons, cntL_cons, ih h.2, h.1]

theorem cnt_le_of_mem {ps : Pts} {q : List Iv × Rg} (h : q ∈ ps) : 1 + q.2.cnt ≤ cntL ps := by
  induction ps with
  | nil => cases h
  | cons u t ih =>
    rw [cntL_cons]
    rcases List.mem_cons.1 h with e | k
    · subst e; omega
    · have := ih k; omega

theorem none_cnt {r : Rg} (h : r.none = true) : r.ps = [] := by
  simp only [Rg.none, Bool.and_eq_true, List.isEmpty_iff] at h
  exact h.2

theorem none_fits {r : Rg} (h : r.none = true) : Fits r := by
  refine ⟨by rw [Rg.cnt_ps, none_cnt h]; simp [cntL], ?_⟩
  rw [Rg.slim_iff, none_cnt h]; simp

theorem stepPs_snd (ps : Pts) (last k : Option Nat) (p : Vl) : (stepPs ps last k p).map (·.2) = ps.map (·.2) := by
  refine List.ext_getElem? fun i => ?_
  rw [List.getElem?_map, stepPs_get, List.getElem?_map]
  cases ps[i]? <;> rfl

theorem stepPs_cnt (ps : Pts) (last k : Option Nat) (p : Vl) : cntL (stepPs ps last k p) = cntL ps := cntL_snd (stepPs_snd ps last k p)

theorem seek_cnt (ps : Pts) (sub : Rg) : cntL ps ≤ cntL (seek ps sub).1 ∧ (sub.none = false → sub.cnt ≤ cntL (seek ps sub).1) ∧ (∀ q ∈ ps, q.2 ∈ (seek ps sub).1.map (·.2)) ∧ (∀ r ∈ (seek ps sub).1.map (·.2), r ∈ ps.map (·.2) ∨ r = sub) ∧
    (sub.none = false → sub ∈ (seek ps sub).1.map (·.2)) := by
  have S := seek_is ps sub
  generalize seek ps sub = s at S
  cases S with
  | none h => exact ⟨Nat.le_refl _, fun c => (by rw [h] at c; cases c), fun q hq => List.mem_map_of_mem hq, fun r hr => .inl hr, fun c => (by rw [h] at c; cases c)⟩
  | old h j q hj hq =>
    have hm := List.mem_of_getElem? hj
    refine ⟨Nat.le_refl _, fun _ => ?_, fun q hq => List.mem_map_of_mem hq, fun r hr => .inl hr, fun _ => hq ▸ List.mem_map_of_mem hm⟩
    have := cnt_le_of_mem hm
    rw [hq] at this
    show _ ≤ cntL ps
    omega
  | new h hn =>
    have e : cntL (ps ++ [([], sub)]) = cntL ps + (1 + sub.cnt) := by rw [cntL_append, cntL_cons]; simp [cntL]
    refine ⟨by simp only [e]; omega, fun _ => by simp only [e]; omega, fun q hq => ?_, fun r hr => ?_, fun _ => by simp⟩
    · simp only [List.map_append, List.mem_append]
      exact .inl (List.mem_map_of_mem hq)
    · simp only [List.map_append, List.mem_append, List.map_cons, List.map_nil, List.mem_singleton] at hr
      exact hr

theorem sweep_cnt (f : Vl → Rg) : ∀ (l : List Vl) (ps : Pts) (last : Option Nat), cntL ps ≤ cntL (sweep f l ps last) ∧ (∀ r ∈ ps.map (·.2), r ∈ (sweep f l ps last).map (·.2)) ∧
    (∀ r ∈ (sweep f l ps last).map (·.2), r ∈ ps.map (·.2) ∨ ∃ p ∈ l, r = f p) ∧ ∀ p ∈ l, (f p).none = false → f p ∈ (sweep f l ps last).map (·.2)
  | [], ps, last => ⟨Nat.le_refl _, fun _ h => h, fun _ h => .inl h, by simp⟩
  | p :: l, ps, last => by
    obtain ⟨a, b, c, d⟩ := sweep_cnt f l (stepPs (seek ps (f p)).1 last (seek ps (f p)).2 p) (seek ps (f p)).2
    obtain ⟨a', b', c', d', e'⟩ := seek_cnt ps (f p)
    rw [stepPs_cnt] at a
    rw [stepPs_snd] at b c
    refine ⟨Nat.le_trans a' a, fun r hr => ?_, fun r hr => ?_, fun q hq hn => ?_⟩
    · obtain ⟨q, hq, rfl⟩ := List.mem_map.1 hr
      exact b _ (c' q hq)
    · rcases c r hr with k | ⟨q, hq, k⟩
      · rcases d' r k with k | k
        · exact .inl k
        · exact .inr ⟨p, by simp, k⟩
      · exact .inr ⟨q, by simp [hq], k⟩
    · rcases List.mem_cons.1 hq with e | k
      · subst e; exact b _ (e' hn)
      · exact d q k hn

/-- The sweep of the program: it stops as soon as there is too much. -/
noncomputable def lsweep (f : Vl → Option Rg) : List Vl → Pts → Option Nat → Option Pts
  | [], ps, _ => some ps
  | p :: l, ps, last => match f p with
    | none => none
    | some sub => if 64 < cntL (seek ps sub).1 then none else lsweep f l (stepPs (seek ps sub).1 last (seek ps sub).2 p) (seek ps sub).2

open Classical in
theorem lsweep_is {f : Vl → Rg} {f' : Vl → Option Rg} : ∀ (l : List Vl) (ps : Pts) (last : Option Nat), (∀ p ∈ l, f' p = if Fits (f p) then some (f p) else none) → cntL ps ≤ 64 →
    lsweep f' l ps last = if cntL (sweep f l ps last) ≤ 64 ∧ ∀ p ∈ l, (f p).slim then some (sweep f l ps last) else none
  | [], ps, last, _, hc => by simp [lsweep, sweep, hc]
  | p :: l, ps, last, h, hc => by
    obtain ⟨a, b, c, d⟩ := sweep_cnt f l (stepPs (seek ps (f p)).1 last (seek ps (f p)).2 p) (seek ps (f p)).2
    obtain ⟨a', b', c', d', e'⟩ := seek_cnt ps (f p)
    rw [stepPs_cnt] at a
    unfold lsweep sweep
    rw [h p (by simp)]
    by_cases F : Fits (f p)
    · simp only [if_pos F]
      by_cases g : 64 < cntL (seek ps (f p)).1
      · rw [if_pos g, if_neg fun k => absurd k.1 (by omega)]
      · rw [if_neg g, lsweep_is l _ _ (fun q hq => h q (by simp [hq])) (by rw [stepPs_cnt]; omega)]
        simp only [List.mem_cons, forall_eq_or_imp, F.2, true_and]
    · simp only [if_neg F]
      rw [if_neg]
      rintro ⟨k1, k2⟩
      refine F ⟨?_, k2 p (by simp)⟩
      cases hn : (f p).none with
      | true => exact (none_fits hn).1
      | false => have := b' hn; omega

open Classical in
/-- The program's operation. -/
noncomputable def lform (op : Bool → Bool → Bool) : Nat → Rg → Rg → Option Rg
  | 0, a, b => some (.mk 0 (op a.full b.full) [])
  | n + 1, a, b => match lsweep (fun v => lform op n (restAt a v) (restAt b v)) (points a b) [] none with
    | none => none
    | some ps => if ∀ q ∈ ps, q.1.length ≤ 64 then some (.mk (n + 1) false ps) else none

open Classical in
theorem lform_is (op : Bool → Bool → Bool) : ∀ (n : Nat) (a b : Rg), lform op n a b = if Fits (form op n a b) then some (form op n a b) else none
  | 0, a, b => by
    have : Fits (form op 0 a b) := ⟨by simp [form, Rg.cnt, cntL], by simp [form, Rg.slim, slimL]⟩
    rw [if_pos this]
    rfl
  | n + 1, a, b => by
    have h := lsweep_is (f := fun v => form op n (restAt a v) (restAt b v)) (f' := fun v => lform op n (restAt a v) (restAt b v)) (points a b) [] none (fun p _ => lform_is op n _ _) (by simp [cntL])
    obtain ⟨_, _, c, d⟩ := sweep_cnt (fun v => form op n (restAt a v) (restAt b v)) (points a b) [] none
    unfold lform form
    rw [h]
    generalize sweep (fun v => form op n (restAt a v) (restAt b v)) (points a b) [] none = R at *
    have key : Fits (.mk (n + 1) false R) ↔ (cntL R ≤ 64 ∧ ∀ p ∈ points a b, (form op n (restAt a p) (restAt b p)).slim) ∧ ∀ q ∈ R, q.1.length ≤ 64 := by
      unfold Fits
      rw [Rg.cnt_ps, Rg.slim_iff]
      simp only [Rg.ps_mk]
      constructor
      · rintro ⟨k1, k2⟩
        refine ⟨⟨k1, fun p hp => ?_⟩, fun q hq => (k2 q hq).1⟩
        cases hn : (form op n (restAt a p) (restAt b p)).none with
        | true => exact (none_fits hn).2
        | false =>
          obtain ⟨q, hq, e⟩ := List.mem_map.1 (d p hp hn)
          have := (k2 q hq).2
          rwa [e] at this
      · rintro ⟨⟨k1, k2⟩, k3⟩
        refine ⟨k1, fun q hq => ⟨k3 q hq, ?_⟩⟩
        rcases c _ (List.mem_map_of_mem hq) with k | ⟨p, hp, k⟩
        · cases k
        · rw [k]; exact k2 p hp
    by_cases g : cntL R ≤ 64 ∧ ∀ p ∈ points a b, (form op n (restAt a p) (restAt b p)).slim
    · rw [if_pos g]
      simp only
      by_cases g2 : ∀ q ∈ R, q.1.length ≤ 64
      · rw [if_pos g2, if_pos (key.2 ⟨g, g2⟩)]
      · rw [if_neg g2, if_neg fun k => g2 (key.1 k).2]
    · rw [if_neg g]
      simp only
      rw [if_neg fun k => g (key.1 k).1]

/-! ### Is a tree canonical? -/
def Slim (l : List Iv) : Prop := Ok l ∧ l.length ≤ 64

open Classical in
mutual
noncomputable def formedb : Nat → Rg → Int → Option Int
  | 0, r, b => if r.w = 0 ∧ r.ps = [] then some b else none
  | n + 1, r, b => if r.w ≠ ((n + 1 : Nat) : Int) ∨ r.full = true then none else if b - (r.ps.length : Int) < 0 then none else formedL n [] r.ps (b - (r.ps.length : Int))
  termination_by n => (n, 0)
noncomputable def formedL : Nat → Pts → Pts → Int → Option Int
  | _, _, [], b => some b
  | n, pre, p :: t, b =>
    if p.1 = [] ∨ ¬ Slim p.1 then none else
      if ∃ q ∈ pre.getLast?, ¬ lo0 q.1 < lo0 p.1 then none else
        if ∃ q ∈ pre, ∃ v, has q.1 v ∧ has p.1 v then none else
          match formedb n p.2 b with
          | none => none
          | some b' => if p.2.none = true ∨ ∃ q ∈ pre, q.2 = p.2 then none else formedL n (pre ++ [p]) t b'
  termination_by n _ t => (n, 1 + t.length)
end

/-- What the loop over the parts asks of those that are left. -/
def Later (n : Nat) (pre t : Pts) : Prop :=
  (∀ p ∈ t, p.1 ≠ [] ∧ Slim p.1 ∧ Form n p.2 ∧ p.2.slim ∧ p.2.none = false) ∧ t.Pairwise (fun p q => lo0 p.1 < lo0 q.1 ∧ (∀ v, has p.1 v → ¬ has q.1 v) ∧ p.2 ≠ q.2) ∧
    (∀ q ∈ pre, ∀ p ∈ t, (∀ v, has q.1 v → ¬ has p.1 v) ∧ q.2 ≠ p.2) ∧ ∀ q ∈ pre.getLast?, ∀ p ∈ t, lo0 q.1 < lo0 p.1

theorem later_nil (n : Nat) (pre : Pts) : Later n pre [] := ⟨by simp, by simp, by simp, by simp⟩

theorem later_cons {n : Nat} {pre t : Pts} {p : List Iv × Rg} : Later n pre (p :: t) ↔ (p.1 ≠ [] ∧ Slim p.1) ∧ (∀ q ∈ pre.getLast?, lo0 q.1 < lo0 p.1) ∧ (∀ q ∈ pre, ∀ v, has q.1 v → ¬ has p.1 v) ∧ (Form n p.2 ∧ p.2.slim) ∧
    (p.2.none = false ∧ ∀ q ∈ pre, q.2 ≠ p.2) ∧ Later n (pre ++ [p]) t := by
  unfold Later
  simp only [List.mem_cons, forall_eq_or_imp, List.pairwise_cons, List.mem_append, List.getLast?_append, List.getLast?_singleton, Option.some_or, Option.mem_def, Option.some.injEq, forall_eq', List.not_mem_nil, or_false]
  constructor
  · rintro ⟨⟨⟨a1, a2, a3, a4, a5⟩, a6⟩, ⟨b1, b2⟩, c, d⟩
    refine ⟨⟨a1, a2⟩, fun q hq => (d q hq).1, fun q hq => (c q hq).1.1, ⟨a3, a4⟩, ⟨a5, fun q hq => (c q hq).1.2⟩, a6, b2, ?_, fun q hq => (b1 q hq).1⟩
    rintro q (hq | rfl) u hu
    · exact (c q hq).2 u hu
    · exact (b1 u hu).2
  · rintro ⟨⟨a1, a2⟩, d1, c1, ⟨a3, a4⟩, ⟨a5, c2⟩, a6, b2, c3, b1⟩
    refine ⟨⟨⟨a1, a2, a3, a4, a5⟩, a6⟩, ⟨fun u hu => ⟨b1 u hu, c3 p (.inr rfl) u hu⟩, b2⟩, fun q hq => ⟨⟨c1 q hq, c2 q hq⟩, fun u hu => c3 q (.inl hq) u hu⟩, fun q hq => ⟨d1 q hq, fun u hu => ?_⟩⟩
    exact Vl.trans (d1 q hq) (b1 u hu)

open Classical in
theorem formedL_of {n : Nat} (ih : ∀ r b, 0 ≤ b → formedb n r b = if Form n r ∧ r.slim ∧ (r.cnt : Int) ≤ b then some (b - r.cnt) else none) : ∀ (t pre : Pts) (b : Int), 0 ≤ b →
    formedL n pre t b = if Later n pre t ∧ (cntL t : Int) - t.length ≤ b then some (b - ((cntL t : Int) - t.length)) else none
  | [], pre, b, hb => by
    rw [formedL]
    simp [later_nil, cntL, hb]
  | p :: t, pre, b, hb => by
    have hc : ∀ t : Pts, (t.length : Int) ≤ cntL t := by
      intro t
      induction t with
      | nil => simp [cntL]
      | cons q t ih => rw [cntL_cons]; simp only [List.length_cons]; omega
    have hct := hc t
    unfold formedL
    rw [later_cons]
    by_cases a : p.1 = [] ∨ ¬ Slim p.1
    · rw [if_pos a, if_neg]
      rintro ⟨⟨⟨k1, k2⟩, _⟩, _⟩
      rcases a with a | a
      · exact k1 a
      · exact a k2
    rw [if_neg a]
    have a1 : p.1 ≠ [] ∧ Slim p.1 := ⟨fun c => a (.inl c), Classical.not_not.1 fun c => a (.inr c)⟩
    by_cases d : ∃ q ∈ pre.getLast?, ¬ lo0 q.1 < lo0 p.1
    · rw [if_pos d, if_neg]
      rintro ⟨⟨_, k, _⟩, _⟩
      obtain ⟨q, hq, e⟩ := d
      exact e (k q hq)
    rw [if_neg d]
    have d1 : ∀ q ∈ pre.getLast?, lo0 q.1 < lo0 p.1 := fun q hq => Classical.not_not.1 fun c => d ⟨q, hq, c⟩
    by_cases c : ∃ q ∈ pre, ∃ v, has q.1 v ∧ has p.1 v
    · rw [if_pos c, if_neg]
      rintro ⟨⟨_, _, k, _⟩, _⟩
      obtain ⟨q, hq, v, e1, e2⟩ := c
      exact k q hq v e1 e2
    rw [if_neg c]
    have c1 : ∀ q ∈ pre, ∀ v, has q.1 v → ¬ has p.1 v := fun q hq v e1 e2 => c ⟨q, hq, v, e1, e2⟩
    rw [ih p.2 b hb, cntL_cons]
    by_cases f : Form n p.2 ∧ p.2.slim ∧ (p.2.cnt : Int) ≤ b
    · rw [if_pos f]
      simp only
      by_cases g : p.2.none = true ∨ ∃ q ∈ pre, q.2 = p.2
      · rw [if_pos g, if_neg]
        rintro ⟨⟨_, _, _, _, ⟨k1, k2⟩, _⟩, _⟩
        rcases g with g | ⟨q, hq, e⟩
        · rw [k1] at g; cases g
        · exact k2 q hq e
      rw [if_neg g]
      have g1 : p.2.none = false ∧ ∀ q ∈ pre, q.2 ≠ p.2 := ⟨by cases h : p.2.none; rfl; exact absurd (.inl h) g, fun q hq e => g (.inr ⟨q, hq, e⟩)⟩
      rw [formedL_of ih t (pre ++ [p]) _ (by omega)]
      simp only [List.length_cons]
      by_cases L : Later n (pre ++ [p]) t ∧ (cntL t : Int) - t.length ≤ b - p.2.cnt
      · rw [if_pos L, if_pos ⟨⟨a1, d1, c1, ⟨f.1, f.2.1⟩, g1, L.1⟩, by have := L.2; omega⟩]
        congr 1
        omega
      · rw [if_neg L, if_neg]
        rintro ⟨⟨_, _, _, _, _, k⟩, k2⟩
        exact L ⟨k, by omega⟩
    · rw [if_neg f]
      simp only
      rw [if_neg]
      simp only [List.length_cons]
      rintro ⟨⟨_, _, _, k, _⟩, k2⟩
      exact f ⟨k.1, k.2, by omega⟩

open Classical in
theorem formedb_is : ∀ (n : Nat) (r : Rg) (b : Int), 0 ≤ b → formedb n r b = if Form n r ∧ r.slim ∧ (r.cnt : Int) ≤ b then some (b - r.cnt) else none
  | 0, r, b, hb => by
    rw [formedb]
    by_cases h : r.w = 0 ∧ r.ps = []
    · have : r.cnt = 0 := by rw [Rg.cnt_ps, h.2]; simp [cntL]
      rw [if_pos h, if_pos ⟨h, by rw [Rg.slim_iff, h.2]; simp, by omega⟩, this]
      simp
    · rw [if_neg h, if_neg fun k => h k.1]
  | n + 1, r, b, hb => by
    unfold formedb
    have hc : ∀ t : Pts, (t.length : Int) ≤ cntL t := by
      intro t
      induction t with
      | nil => simp [cntL]
      | cons q t ih => rw [cntL_cons]; simp only [List.length_cons]; omega
    have hct := hc r.ps
    have key : Form (n + 1) r ∧ r.slim ↔ (r.w = ((n + 1 : Nat) : Int) ∧ r.full = false) ∧ Later n [] r.ps := by
      unfold Form Later Slim
      rw [Rg.slim_iff]
      constructor
      · rintro ⟨⟨h1, h2, h3, h4⟩, h5⟩
        exact ⟨⟨h1, h2⟩, fun p hp => ⟨(h3 p hp).1, ⟨(h3 p hp).2.1, (h5 p hp).1⟩, (h3 p hp).2.2.1, (h5 p hp).2, (h3 p hp).2.2.2⟩, h4, by simp, by simp⟩
      · rintro ⟨⟨h1, h2⟩, h3, h4, _⟩
        exact ⟨⟨h1, h2, fun p hp => ⟨(h3 p hp).1, (h3 p hp).2.1.1, (h3 p hp).2.2.1, (h3 p hp).2.2.2.2⟩, h4⟩, fun p hp => ⟨(h3 p hp).2.1.2, (h3 p hp).2.2.2.1⟩⟩
    have key3 : (Form (n + 1) r ∧ r.slim ∧ (r.cnt : Int) ≤ b) ↔ ((r.w = ((n + 1 : Nat) : Int) ∧ r.full = false) ∧ Later n [] r.ps) ∧ (cntL r.ps : Int) ≤ b := by rw [← and_assoc, key, Rg.cnt_ps]
    simp only [key3]
    rw [Rg.cnt_ps]
    by_cases a : r.w ≠ ((n + 1 : Nat) : Int) ∨ r.full = true
    · rw [if_pos a, if_neg]
      rintro ⟨⟨⟨k1, k2⟩, _⟩, _⟩
      rcases a with a | a
      · exact a k1
      · rw [k2] at a; cases a
    rw [if_neg a]
    have a1 : r.w = ((n + 1 : Nat) : Int) ∧ r.full = false := ⟨Classical.not_not.1 fun c => a (.inl c), by cases h : r.full; rfl; exact absurd (.inr h) a⟩
    by_cases d : b - (r.ps.length : Int) < 0
    · rw [if_pos d, if_neg]
      rintro ⟨_, k⟩
      omega
    rw [if_neg d, formedL_of (formedb_is n) _ _ _ (by omega)]
    by_cases L : Later n [] r.ps ∧ (cntL r.ps : Int) - r.ps.length ≤ b - r.ps.length
    · rw [if_pos L, if_pos ⟨⟨a1, L.1⟩, by have := L.2; omega⟩]
      congr 1
      omega
    · rw [if_neg L, if_neg]
      rintro ⟨⟨_, k⟩, k2⟩
      exact L ⟨k, by omega⟩

/-- A canonical region. -/
def Canon (r : Rg) : Prop := ∃ n : Nat, n ≤ 12 ∧ Form n r ∧ Fits r

/-! ### The text of a tree -/
structure Fmt where
  f : Int → List UInt8
  inj : ∀ a b, f a = f b → a = b
  plain : ∀ a, ∀ c ∈ f a, c ≠ 44 ∧ c ≠ 102 ∧ c ≠ 111

def Fmt.num (F : Fmt) (n : Int) : List UInt8 := F.f n ++ [44]
def Fmt.val (F : Fmt) (v : Vl) : List UInt8 := F.num v.kind ++ (F.num v.num ++ (F.num v.text.size ++ v.text.data.toList))
def Fmt.iv (F : Fmt) (x : Iv) : List UInt8 := F.val x.lo ++ (F.val x.hi ++ if x.op then [111] else [])
def Fmt.ivs (F : Fmt) : List Iv → List UInt8
  | [] => []
  | x :: l => F.iv x ++ F.ivs l
mutual
def Fmt.rg (F : Fmt) : Rg → List UInt8
  | .mk w f ps => F.num w ++ ((if f then [102] else []) ++ (F.num ps.length ++ F.rgs ps))
def Fmt.rgs (F : Fmt) : List (List Iv × Rg) → List UInt8
  | [] => []
  | (vs, r) :: t => F.num vs.length ++ (F.ivs vs ++ (F.rg r ++ F.rgs t))
end

theorem split_at {c : UInt8} : ∀ {a b x y : List UInt8}, (∀ u ∈ a, u ≠ c) → (∀ u ∈ b, u ≠ c) → a ++ c :: x = b ++ c :: y → a = b ∧ x = y
  | [], [], x, y, _, _, h => by simpa using h
  | [], u :: b, x, y, _, hb, h => by
    simp only [List.nil_append, List.cons_append, List.cons.injEq] at h
    exact absurd h.1.symm (hb u (by simp))
  | u :: a, [], x, y, ha, _, h => by
    simp only [List.nil_append, List.cons_append, List.cons.injEq] at h
    exact absurd h.1 (ha u (by simp))
  | u :: a, v :: b, x, y, ha, hb, h => by
    simp only [List.cons_append, List.cons.injEq] at h
    obtain ⟨e1, e2⟩ := split_at (fun w hw => ha w (by simp [hw])) (fun w hw => hb w (by simp [hw])) h.2
    exact ⟨by rw [h.1, e1], e2⟩

theorem Fmt.num_inj (F : Fmt) {m n : Int} {x y : List UInt8} (h : F.num m ++ x = F.num n ++ y) : m = n ∧ x = y := by
  unfold Fmt.num at h
  simp only [List.append_assoc, List.cons_append, List.nil_append] at h
  obtain ⟨e1, e2⟩ := split_at (fun u hu => (F.plain m u hu).1) (fun u hu => (F.plain n u hu).1) h
  exact ⟨F.inj _ _ e1, e2⟩

theorem Fmt.num_head (F : Fmt) (m : Int) (x : List UInt8) : ∃ c t, F.num m ++ x = c :: t ∧ c ≠ 102 ∧ c ≠ 111 := by
  unfold Fmt.num
  cases e : F.f m with
  | nil => exact ⟨44, x, by simp, by decide, by decide⟩
  | cons c t => exact ⟨c, t ++ [44] ++ x, by simp, (F.plain m c (by simp [e])).2⟩

theorem opt_inj {c d e : UInt8} {o o' : Bool} {x y s t : List UInt8} (hx : x = d :: s) (hy : y = e :: t) (hd : d ≠ c) (he : e ≠ c) (h : (if o then [c] else []) ++ x = (if o' then [c] else []) ++ y) : o = o' ∧ x = y := by
  subst hx hy
  cases o <;> cases o' <;> simp at h ⊢
  · exact h
  · exact absurd h.1 hd
  · exact absurd h.1.symm he
  · exact h

theorem app_inj {a b x y : List UInt8} (hl : a.length = b.length) (h : a ++ x = b ++ y) : a = b ∧ x = y := List.append_inj h hl

theorem Fmt.val_inj (F : Fmt) {u v : Vl} {x y : List UInt8} (h : F.val u ++ x = F.val v ++ y) : u = v ∧ x = y := by
  unfold Fmt.val at h
  simp only [List.append_assoc] at h
  obtain ⟨e1, h1⟩ := F.num_inj h
  obtain ⟨e2, h2⟩ := F.num_inj h1
  obtain ⟨e3, h3⟩ := F.num_inj h2
  clear h h1 h2
  obtain ⟨k, n, ⟨⟨t⟩⟩, _, _⟩ := u
  obtain ⟨k', n', ⟨⟨t'⟩⟩, _, _⟩ := v
  have e3' : t.length = t'.length := by
    have : (t.length : Int) = t'.length := e3
    omega
  obtain ⟨e4, h4⟩ := app_inj e3' h3
  clear h3
  simp only at e1 e2 e4
  subst e1 e2 e4
  exact ⟨rfl, h4⟩

theorem Fmt.val_head (F : Fmt) (v : Vl) (x : List UInt8) : ∃ c t, F.val v ++ x = c :: t ∧ c ≠ 102 ∧ c ≠ 111 := by
  unfold Fmt.val
  simp only [List.append_assoc]
  exact F.num_head _ _

/-- The texts of two lists of intervals of one length, a number's text behind each. -/
theorem Fmt.ivs_inj (F : Fmt) : ∀ {l m : List Iv} {i j : Int} {x y : List UInt8}, l.length = m.length → F.ivs l ++ (F.num i ++ x) = F.ivs m ++ (F.num j ++ y) → l = m ∧ F.num i ++ x = F.num j ++ y
  | [], [], _, _, _, _, _, h => ⟨rfl, by simpa [Fmt.ivs] using h⟩
  | [], _ :: _, _, _, _, _, hl, _ => by simp at hl
  | _ :: _, [], _, _, _, _, hl, _ => by simp at hl
  | a :: l, b :: m, i, j, x, y, hl, h => by
    unfold Fmt.ivs Fmt.iv at h
    simp only [List.append_assoc] at h
    obtain ⟨e1, h1⟩ := F.val_inj h
    obtain ⟨e2, h2⟩ := F.val_inj h1
    clear h h1
    have head : ∀ (l : List Iv) (i : Int) (x : List UInt8), ∃ c t, F.ivs l ++ (F.num i ++ x) = c :: t ∧ c ≠ 102 ∧ c ≠ 111 := by
      intro l i x
      cases l with
      | nil => simpa [Fmt.ivs] using F.num_head i x
      | cons a l =>
        unfold Fmt.ivs Fmt.iv
        simp only [List.append_assoc]
        exact F.val_head _ _
    obtain ⟨c, s, hc, _, c1⟩ := head l i x
    obtain ⟨d, t, hd, _, d1⟩ := head m j y
    obtain ⟨e3, h3⟩ := opt_inj hc hd c1 d1 h2
    obtain ⟨e4, h4⟩ := F.ivs_inj (by simpa using hl) h3
    clear h2 h3 hc hd
    obtain ⟨lo, hi, op⟩ := a
    obtain ⟨lo', hi', op'⟩ := b
    simp only at e1 e2 e3
    subst e1 e2 e3 e4
    exact ⟨rfl, h4⟩

theorem Fmt.rg_inj (F : Fmt) (a : Rg) : ∀ (b : Rg) (x y : List UInt8), F.rg a ++ x = F.rg b ++ y → a = b ∧ x = y := by
  refine Rg.ind (P := fun a => ∀ (b : Rg) (x y : List UInt8), F.rg a ++ x = F.rg b ++ y → a = b ∧ x = y) (fun w f ps ih b x y h => ?_) a
  obtain ⟨w', f', ps'⟩ := b
  unfold Fmt.rg at h
  simp only [List.append_assoc] at h
  obtain ⟨e1, h1⟩ := F.num_inj h
  clear h
  obtain ⟨c, s, hc, c1, _⟩ := F.num_head ps.length (F.rgs ps ++ x)
  obtain ⟨d, t, hd, d1, _⟩ := F.num_head ps'.length (F.rgs ps' ++ y)
  obtain ⟨e2, h2⟩ := opt_inj hc hd c1 d1 h1
  obtain ⟨e3, h3⟩ := F.num_inj h2
  clear h1 h2 hc hd
  have : ∀ (ps ps' : List (List Iv × Rg)) (x y : List UInt8), (∀ p ∈ ps, ∀ (b : Rg) (x y : List UInt8), F.rg p.2 ++ x = F.rg b ++ y → p.2 = b ∧ x = y) → ps.length = ps'.length → F.rgs ps ++ x = F.rgs ps' ++ y → ps = ps' ∧ x = y := by
    intro ps
    induction ps with
    | nil =>
      intro ps' x y _ hl h
      cases ps' with
      | nil => exact ⟨rfl, by simpa [Fmt.rgs] using h⟩
      | cons _ _ => simp at hl
    | cons p ps ih' =>
      intro ps' x y ih hl h
      cases ps' with
      | nil => simp at hl
      | cons q ps' =>
        obtain ⟨vs, r⟩ := p
        obtain ⟨vs', r'⟩ := q
        unfold Fmt.rgs at h
        simp only [List.append_assoc] at h
        obtain ⟨g1, h1⟩ := F.num_inj h
        clear h
        have rw_ : ∀ (r : Rg) (z : List UInt8), ∃ w y, F.rg r ++ z = F.num w ++ y := by
          intro r z
          obtain ⟨w, f, ps⟩ := r
          unfold Fmt.rg
          simp only [List.append_assoc]
          exact ⟨_, _, rfl⟩
        obtain ⟨w1, z1, q1⟩ := rw_ r (F.rgs ps ++ x)
        obtain ⟨w2, z2, q2⟩ := rw_ r' (F.rgs ps' ++ y)
        rw [q1, q2] at h1
        obtain ⟨g2, h2⟩ := F.ivs_inj (by omega) h1
        rw [← q1, ← q2] at h2
        clear h1 q1 q2
        obtain ⟨g3, h3⟩ := ih (vs, r) (by simp) r' _ _ h2
        clear h2
        obtain ⟨g4, h4⟩ := ih' ps' x y (fun p hp => ih p (by simp [hp])) (by simpa using hl) h3
        clear h3
        simp only at g3
        subst g2 g3 g4
        exact ⟨rfl, h4⟩
  obtain ⟨e4, h4⟩ := this ps ps' x y ih (by omega) h3
  clear h3
  subst e1 e2 e4
  exact ⟨rfl, h4⟩

theorem Fmt.rg_eq (F : Fmt) {a b : Rg} (h : F.rg a = F.rg b) : a = b := (F.rg_inj a b [] [] (by rw [h])).1

/-! ### Covering -/
def CV (n : Nat) (a b : Rg) : Prop := ∀ t, Rows n t → mem t b → mem t a

theorem greatest {v : Vl} : ∀ {l : List Vl}, l.Pairwise (· < ·) → (∃ p ∈ l, p ≤ v) → ∃ p ∈ l, p ≤ v ∧ ∀ e ∈ l, e ≤ p ∨ v < e
  | [], _, h => by obtain ⟨p, hp, _⟩ := h; cases hp
  | a :: l, hs, h => by
    obtain ⟨s1, s2⟩ := List.pairwise_cons.1 hs
    by_cases k : ∃ p ∈ l, p ≤ v
    · obtain ⟨p, hp, pv, he⟩ := greatest s2 k
      refine ⟨p, by simp [hp], pv, fun e h => ?_⟩
      rcases List.mem_cons.1 h with c | c
      · left; have := s1 p hp; grind
      · exact he e c
    · obtain ⟨p, hp, pv⟩ := h
      rcases List.mem_cons.1 hp with c | c
      · subst c
        refine ⟨p, by simp, pv, fun e h => ?_⟩
        rcases List.mem_cons.1 h with c | c
        · left; grind
        · right; have : ¬ e ≤ v := fun q => k ⟨e, c, q⟩; grind
      · exact absurd ⟨p, c, pv⟩ k

theorem points_cover (a b : Rg) {v : Vl} (vo : v.ok = true) : ∃ p ∈ points a b, restAt a v = restAt a p ∧ restAt b v = restAt b p ∧ (∀ q ∈ b.ps, has q.1 p ↔ has q.1 v) ∧ ∀ q ∈ a.ps, has q.1 p ↔ has q.1 v := by
  obtain ⟨p, hp, pv, he⟩ := greatest (v := v) (l := points a b) (sortU_sorted _) ⟨Vl.least, by rw [points, mem_sortU]; simp, Vl.least_le vo⟩
  have ma : ∀ q ∈ a.ps, ∀ e ∈ ends q.1, e ≤ p ∨ v < e := fun q hq e h => he e (by
    rw [points, mem_sortU]
    exact List.mem_cons.2 (.inr (List.mem_append.2 (.inl (List.mem_flatMap.2 ⟨q, hq, h⟩)))))
  have mb : ∀ q ∈ b.ps, ∀ e ∈ ends q.1, e ≤ p ∨ v < e := fun q hq e h => he e (by
    rw [points, mem_sortU]
    exact List.mem_cons.2 (.inr (List.mem_append.2 (.inr (List.mem_flatMap.2 ⟨q, hq, h⟩)))))
  exact ⟨p, hp, restAt_still pv ma, restAt_still pv mb, fun q hq => has_still pv (mb q hq), fun q hq => has_still pv (ma q hq)⟩

theorem covers_step {n : Nat} {a b : Rg} (ha : Form (n + 1) a) (hb : Form (n + 1) b) :
    CV (n + 1) a b ↔ ∀ p ∈ points a b, ∀ q ∈ b.ps, has q.1 p → (∃ u ∈ a.ps, has u.1 p) ∧ CV n (restAt a p) (restAt b p) := by
  constructor
  · intro h p hp q hq vq
    have po := points_ok ha hb p hp
    have cv : CV n (restAt a p) (restAt b p) := by
      intro t ht m
      rw [← mem_restAt ha]
      refine h _ ⟨by simp [ht.1], ?_⟩ ((mem_restAt hb _ _).2 m)
      intro u hu
      rcases List.mem_cons.1 hu with c | c
      · rw [c]; exact po
      · exact ht.2 u c
    refine ⟨?_, cv⟩
    obtain ⟨_, _, r1, r2⟩ := hb.2.2.1 q hq
    obtain ⟨t, ht, m⟩ := r1.row r2
    rw [← restAt_some hb hq vq] at m
    obtain ⟨u, hu, vu, _⟩ := (mem_restAt ha p t).2 (cv t ht m)
    exact ⟨u, hu, vu⟩
  · intro h t ht m
    cases t with
    | nil => have := ht.1; simp at this
    | cons v t =>
      have vo := ht.2 v (by simp)
      obtain ⟨p, hp, e1, e2, hs, _⟩ := points_cover a b vo
      have m0 := m
      obtain ⟨q, hq, vq, _⟩ := m
      rw [mem_restAt hb, e2] at m0
      rw [mem_restAt ha, e1]
      exact (h p hp q hq ((hs q hq).2 vq)).2 t ⟨by have := ht.1; simpa using this, fun u hu => ht.2 u (by simp [hu])⟩ m0

/-! ### The operations, as what they answer -/
theorem Canon.w {r : Rg} (h : Canon r) : ∃ n : Nat, n ≤ 12 ∧ r.w = n ∧ Form n r ∧ Fits r := by
  obtain ⟨n, h1, h2, h3⟩ := h
  exact ⟨n, h1, h2.w, h2, h3⟩

theorem Canon.form {n : Nat} {r : Rg} (h : Canon r) (hw : r.w = n) : n ≤ 12 ∧ Form n r ∧ Fits r := by
  obtain ⟨m, h1, h2, h3⟩ := h
  have : m = n := by have := h2.w; omega
  subst this
  exact ⟨h1, h2, h3⟩
end Go.Proofs.YtbkgmahpfghheaaDoor.Ps
