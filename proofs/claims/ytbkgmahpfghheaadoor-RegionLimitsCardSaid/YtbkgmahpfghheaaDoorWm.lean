/- Contracts of region.Valid, region.Size, operation.holds, region.rest and region.at. -/
import Derived.Test.YtbkgmahpfghheaaDoorWl
namespace Go.Proofs.YtbkgmahpfghheaaDoor
open Go.RowKit
open Ps

open Classical in
theorem rvalid_any (r : Rg) (A : Option Addr) (m c : Nat) (w : World) (hr : RgAt any w r A m) (hmc : m ≤ c) (hc : c ≤ 9223372036854775807) {T : Nat} (hT : TabB T w) (hTw : T ≤ w.heap.size) :
    Calls Tryd.prog 13 #[.agg #[.int .i64 r.w, .bool r.full, .slice A m c]] w fun e w' => e = .returned (.bool (decide (Canon r))) ∧ Below w.heap.size w w' := by
  have HR := Lib.hid hr; clear hr
  have HT := Lib.hid hT; clear hT
  by_cases h0 : r.w < 0
  · have hn : decide (Canon r) = false := decide_eq_false fun h => by obtain ⟨n, _, e, _⟩ := h.w; omega
    generalize decide (Canon r) = d at hn
    subst hn
    go_enter Tryd.func13, Tryd.ntmps13
    go_wp2_with fail
    go_ret
    exact ⟨rfl, (Below.refl _ _).alloc (Nat.le_refl _) _⟩
  · by_cases h1 : r.w > 12
    · have hn : decide (Canon r) = false := decide_eq_false fun h => by obtain ⟨n, _, e, _⟩ := h.w; omega
      generalize decide (Canon r) = d at hn
      subst hn
      go_enter Tryd.func13, Tryd.ntmps13
      go_wp2_with fail
      go_ret
      exact ⟨rfl, (Below.refl _ _).alloc (Nat.le_refl _) _⟩
    · obtain ⟨n, hn⟩ : ∃ n : Nat, r.w = n := ⟨r.w.toNat, by omega⟩
      have hd : decide (Canon r) = (formedb n r 64).isSome := by
        rw [formedb_is n r 64 (by omega)]
        by_cases h : Ps.Form n r ∧ r.slim ∧ (r.cnt : Int) ≤ 64
        · rw [if_pos h]
          exact decide_eq_true ⟨n, by omega, h.1, by omega, h.2.1⟩
        · rw [if_neg h]
          refine decide_eq_false fun k => h ?_
          obtain ⟨_, a, b, c⟩ := k.form hn
          exact ⟨a, c, by omega⟩
      rw [hd]
      have W1 : Hid (RgAt (· ≠ w.heap.size + 1) ((w.alloc (.cells #[.int .i64 r.w, .bool r.full, .slice A m c] 24)).alloc (.cells #[.int .i64 64] 3)) r A m) := by
        have hb : Below w.heap.size w ((w.alloc (.cells #[.int .i64 r.w, .bool r.full, .slice A m c] 24)).alloc (.cells #[.int .i64 64] 3)) := ((Below.refl _ _).alloc (Nat.le_refl _) _).alloc (by simp) _
        exact (RgAt.mono (ok' := (· ≠ w.heap.size + 1)) (fun i hi _ => by show i ≠ _; omega) r HR.out).below hb
      have B1 : Hid (((w.alloc (.cells #[.int .i64 r.w, .bool r.full, .slice A m c] 24)).alloc (.cells #[.int .i64 64] 3)).heap[w.heap.size + 1]? = some (.cells #[.int .i64 64] 3 (0, 0))) := by
        have := heap_alloc_new (w.alloc (.cells #[.int .i64 r.w, .bool r.full, .slice A m c] 24)) (.cells #[.int .i64 64] 3)
        have e : (w.alloc (.cells #[.int .i64 r.w, .bool r.full, .slice A m c] 24)).heap.size = w.heap.size + 1 := by simp
        rw [e] at this
        exact this
      have hb0 : Below w.heap.size w ((w.alloc (.cells #[.int .i64 r.w, .bool r.full, .slice A m c] 24)).alloc (.cells #[.int .i64 64] 3)) := ((Below.refl _ _).alloc (Nat.le_refl _) _).alloc (by simp) _
      have HB0 := Lib.hid hb0; clear hb0 hd
      have C := Lib.hid (formed_any (w.heap.size + 1) T (by omega) n (by omega) r A m c 64 _ W1.out hmc hc B1.out (by omega) (by omega) (HT.out.on (HB0.out.mono hTw)))
      rw [hn] at C
      rw [hn] at HB0
      rw [hn]
      go_enter Tryd.func13, Tryd.ntmps13
      go_wp2_with fail
      refine C.out.mono ?_
      rintro e w2 ⟨rfl, hb2, _⟩
      go_wp2_with fail
      go_ret
      exact ⟨rfl, HB0.out.trans (hb2.below (Nat.le_succ _) (by simp))⟩

open Classical in
noncomputable def szOf (r : Rg) : Int := if Canon r then r.cnt else 0
open Classical in
theorem rsize_any (r : Rg) (A : Option Addr) (m c : Nat) (w : World) (hr : RgAt any w r A m) (hmc : m ≤ c) (hc : c ≤ 9223372036854775807) {T : Nat} (hT : TabB T w) (hTw : T ≤ w.heap.size) :
    Calls Tryd.prog 9 #[.agg #[.int .i64 r.w, .bool r.full, .slice A m c]] w fun e w' => e = .returned (.int .i64 (szOf r)) ∧ Below w.heap.size w w' := by
  have HR := Lib.hid hr; clear hr
  have HT := Lib.hid hT; clear hT
  have hb : Below w.heap.size w (w.alloc (.cells #[.int .i64 r.w, .bool r.full, .slice A m c] 24)) := (Below.refl _ _).alloc (Nat.le_refl _) _
  have HB := Lib.hid hb; clear hb
  have hbox := Box.made w [.int .i64 r.w, .bool r.full, .slice A m c] 24
  go_enter Tryd.func9, Tryd.ntmps9
  go_wp2_with fail
  refine (rvalid_any r A m c _ (HR.out.below HB.out) hmc hc (HT.out.on (HB.out.mono hTw)) (by simp; omega)).mono ?_
  rintro e w2 ⟨rfl, hb2⟩
  have hbox2 := hbox.later hb2
  have HB2 : Hid (Below w.heap.size w w2) := HB.out.trans (hb2.mono (by simp))
  have c0 := hbox2.2 0 _ rfl
  have c1 := hbox2.2 1 _ rfl
  have c2 := hbox2.2 2 _ rfl
  clear hb2 hbox
  by_cases h : Canon r
  · have hd : decide (Canon r) = true := decide_eq_true h
    have HS : Hid (szOf r = r.cnt) := if_pos h
    have hk : r.cnt ≤ 64 := by obtain ⟨_, _, _, h, _⟩ := h; exact h
    generalize decide (Canon r) = d at hd
    subst hd
    clear h
    go_wp2_with fail
    refine (size_any r A m c w2 (HR.out.below HB2.out) hmc hc (by omega)).mono ?_
    rintro e w3 ⟨⟨k, rfl, _, _, h3, _⟩, hb3⟩
    have hk2 := h3 hk
    subst hk2
    go_wp2_with fail
    go_ret
    exact ⟨by rw [HS.out]; rfl, below_call HB2.out hb3⟩
  · have HS : Hid (szOf r = 0) := if_neg h
    have hd : decide (Canon r) = false := decide_eq_false h
    generalize decide (Canon r) = d at hd
    subst hd
    clear h
    go_wp2_with fail
    go_ret
    exact ⟨by rw [HS.out]; rfl, HB2.out⟩

/-- A Boolean operation by its four results. -/
def opf (b f s n : Bool) (x y : Bool) : Bool := if x && y then b else if x then f else if y then s else n

theorem holds_any (b f s n x y : Bool) (w : World) :
    Calls Tryd.prog 19 #[.agg #[.bool b, .bool f, .bool s, .bool n], .bool x, .bool y] w fun e w' => e = .returned (.bool (opf b f s n x y)) ∧ Below w.heap.size w w' := by
  cases x <;> cases y
  all_goals
    go_enter Tryd.func19, Tryd.ntmps19
    go_wp2_with fail
    go_ret
    exact ⟨rfl, (Below.refl _ _).alloc (Nat.le_refl _) _⟩

/-! ### rest -/
def restI (r : Rg) (i : Int) : Rg := if i < 0 then .mk (r.w - 1) false [] else match r.ps[i.toNat]? with
  | some p => p.2
  | none => .mk (r.w - 1) false []

def RestPost (ok : Nat → Prop) (r : Rg) (i : Int) (w : World) (e : Ending) (w' : World) : Prop :=
  ∃ A n c, e = .returned (.agg #[.int .i64 (restI r i).w, .bool (restI r i).full, .slice A n c]) ∧ RgAt ok w' (restI r i) A n ∧ n ≤ c ∧ c ≤ 9223372036854775807 ∧ Below w.heap.size w w'

theorem rest_any (ok : Nat → Prop) (r : Rg) (A : Option Addr) (m c : Nat) (i : Int) (w : World) (hr : RgAt ok w r A m) (_hmc : m ≤ c) (_hc : c ≤ 9223372036854775807) (hi : i < m) (hi1 : -9223372036854775808 ≤ i) (hw0 : 0 ≤ r.w) (hw1 : r.w ≤ 1000) :
    Calls Tryd.prog 24 #[.agg #[.int .i64 r.w, .bool r.full, .slice A m c], .int .i64 i] w (RestPost ok r i w) := by
  have HR := Lib.hid hr; clear hr
  by_cases h : i < 0
  · have e : restI r i = .mk (r.w - 1) false [] := by rw [restI, if_pos h]
    have a1 : IntKind.i64.wrap (r.w - 1) = r.w - 1 := IntWalk.i64_in _ (by omega)
    have E := Lib.hid e; clear e
    go_enter Tryd.func24, Tryd.ntmps24
    go_wp2_with fail
    refine bodyPost_ret (v := .agg #[.int .i64 (r.w - 1), .bool false, .slice none 0 0]) (by simp [results, Tryd.results24, go_sem]) rfl ⟨none, 0, 0, ?_, ?_, by omega, by omega, ?_⟩
    · rw [E.out]; rfl
    · rw [E.out, RgAt]; exact ⟨rfl, .inl rfl⟩
    · exact ((Below.refl _ _).alloc (Nat.le_refl _) _).alloc (by simp) _
  · obtain ⟨k, rfl⟩ : ∃ k : Nat, i = k := ⟨i.toNat, by omega⟩
    have hlen := HR.out.len
    obtain ⟨p, hp⟩ : ∃ p, r.ps[k]? = some p := ⟨r.ps[k]'(by omega), List.getElem?_eq_getElem (by omega)⟩
    have e : restI r k = p.2 := by rw [restI, if_neg h]; simp [hp]
    have E := Lib.hid e; clear e
    obtain ⟨b, off, eA, okb, hbl, A1, n1, d1, A2, n2, d2, q1, q2, q3, q4, l2, l3, l4, l5, _, hrest⟩ := HR.out.get hp
    subst eA
    have HRE := Lib.hid hrest; clear hrest hp hlen
    go_enter Tryd.func24, Tryd.ntmps24
    go_wp2_with fail
    refine bodyPost_ret (v := .agg #[.int .i64 p.2.w, .bool p.2.full, .slice A2 n2 d2]) (by simp [results, Tryd.results24, go_sem]) rfl ⟨A2, n2, d2, ?_, ?_, l3, l5, ?_⟩
    · rw [E.out]
    · rw [E.out]; exact HRE.out.below (((Below.refl _ _).alloc (Nat.le_refl _) _).alloc (by simp) _)
    · exact ((Below.refl _ _).alloc (Nat.le_refl _) _).alloc (by simp) _

/-! ### spans: intervals with their part's number -/
abbrev Sp := Iv × Nat
def Sp.cells (s : Sp) : List Value := s.1.cells ++ [.int .i64 s.2]
def spCells (l : List Sp) : List Value := l.flatMap Sp.cells
def SpAt (ok : Nat → Prop) (w : World) (A : Option Addr) (n : Nat) (l : List Sp) : Prop := l.length = n ∧ At ok w A (spCells l)

theorem SpAt.get {ok : Nat → Prop} {w : World} {A : Option Addr} {n : Nat} {l : List Sp} (h : SpAt ok w A n l) {i : Nat} {s : Sp} (hx : l[i]? = some s) :
    ∃ b off, A = some ⟨b, off, none⟩ ∧ b < w.heap.size ∧ w.cell? ⟨b, off + i * 8, none⟩ = some (.int .i64 s.1.lo.kind) ∧ w.cell? ⟨b, off + i * 8 + 1, none⟩ = some (.int .i64 s.1.lo.num) ∧ w.cell? ⟨b, off + i * 8 + 2, none⟩ = some (.string s.1.lo.text) ∧
      w.cell? ⟨b, off + i * 8 + 3, none⟩ = some (.int .i64 s.1.hi.kind) ∧ w.cell? ⟨b, off + i * 8 + 4, none⟩ = some (.int .i64 s.1.hi.num) ∧ w.cell? ⟨b, off + i * 8 + 5, none⟩ = some (.string s.1.hi.text) ∧ w.cell? ⟨b, off + i * 8 + 6, none⟩ = some (.bool s.1.op) ∧ w.cell? ⟨b, off + i * 8 + 7, none⟩ = some (.int .i64 s.2) := by
  obtain ⟨_, h⟩ := h
  have get := fun j => flatMap_get (f := Sp.cells) (k := 8) (fun _ => rfl) hx j
  rcases h with h | ⟨b, off, e, o, hb, h⟩
  · have := get 0 (by omega)
    have h' : l.flatMap Sp.cells = [] := h
    rw [h'] at this
    simp [Sp.cells, Iv.cells] at this
  · have c := fun j (hj : j < 8) u (hu : (Sp.cells s)[j]? = some u) => h (i * 8 + j) u ((get j hj).trans hu)
    refine ⟨b, off, e, hb, ?_, ?_, ?_, ?_, ?_, ?_, ?_, ?_⟩
    · have := c 0 (by omega) _ rfl; simpa using this
    all_goals first
      | (have := c 1 (by omega) _ rfl; rw [← Nat.add_assoc] at this; exact this)
      | (have := c 2 (by omega) _ rfl; rw [← Nat.add_assoc] at this; exact this)
      | (have := c 3 (by omega) _ rfl; rw [← Nat.add_assoc] at this; exact this)
      | (have := c 4 (by omega) _ rfl; rw [← Nat.add_assoc] at this; exact this)
      | (have := c 5 (by omega) _ rfl; rw [← Nat.add_assoc] at this; exact this)
      | (have := c 6 (by omega) _ rfl; rw [← Nat.add_assoc] at this; exact this)
      | (have := c 7 (by omega) _ rfl; rw [← Nat.add_assoc] at this; exact this)

theorem SpAt.below {ok : Nat → Prop} {w w' : World} (k : Below w.heap.size w w') {A : Option Addr} {n : Nat} {l : List Sp} (h : SpAt ok w A n l) : SpAt ok w' A n l := ⟨h.1, h.2.keep (Keeps.of_below k)⟩

theorem SpAt.tail {ok : Nat → Prop} {w : World} {b off n : Nat} {s : Sp} {l : List Sp} (h : SpAt ok w (some ⟨b, off, none⟩) n (s :: l)) : SpAt ok w (some ⟨b, off + 8, none⟩) (n - 1) l := by
  obtain ⟨h1, h⟩ := h
  refine ⟨by simp at h1; omega, ?_⟩
  rcases h with h | ⟨b', off', e, o, hb, h⟩
  · simp [spCells, Sp.cells, Iv.cells] at h
  · cases e
    refine .inr ⟨b, off + 8, rfl, o, hb, fun i c hc => ?_⟩
    have := h (8 + i) c (by
      show ((s :: l).flatMap Sp.cells)[8 + i]? = some c
      rw [List.flatMap_cons, List.getElem?_append_right (by simp [Sp.cells, Iv.cells])]
      rw [show 8 + i - (Sp.cells s).length = i by simp [Sp.cells, Iv.cells]]
      exact hc)
    rwa [← Nat.add_assoc] at this

/-- What is left of the spans for v and greater values. -/
def atL (v : Vl) : List Sp → List Sp
  | [] => []
  | s :: l => if s.1.op = false ∧ s.1.hi ≤ v then atL v l else s :: l
def atI (v : Vl) (l : List Sp) : Int := match atL v l with
  | [] => -1
  | s :: _ => if s.1.lo ≤ v then s.2 else -1

def AtPost (ok : Nat → Prop) (v : Vl) (l : List Sp) (w : World) (e : Ending) (w' : World) : Prop :=
  ∃ A n c, e = .returned (.tuple #[.int .i64 (atI v l), .slice A n c]) ∧ SpAt ok w' A n (atL v l) ∧ n ≤ c ∧ c ≤ 9223372036854775807 ∧ Below w.heap.size w w'

set_option maxRecDepth 8192 in
set_option maxHeartbeats 800000 in
theorem at_any (ok : Nat → Prop) (v : Vl) (l : List Sp) (A : Option Addr) (n c : Nat) (w : World) (hl : SpAt ok w A n l) (hnc : n ≤ c) (hc : c ≤ 9223372036854775807) :
    Calls Tryd.prog 23 #[.slice A n c, .agg #[.int .i64 v.kind, .int .i64 v.num, .string v.text]] w (AtPost ok v l w) := by
  have HL := Lib.hid hl; clear hl
  go_enter Tryd.func23, Tryd.ntmps23
  go_wp2_with fail
  go_loopw [0] (fun s wr => ∃ A' n' c' t, s = .slice A' n' c' ∧ Hid (atL v t = atL v l) ∧ Hid (SpAt ok wr A' n' t) ∧ n' ≤ c' ∧ c' ≤ 9223372036854775807 ∧ Below w.heap.size w wr ∧ Box wr w.heap.size v.cells) (fun s _ => match s with | .slice _ n _ => n | _ => 0)
  case atStart => exact ⟨A, n, c, l, rfl, rfl, SpAt.below ((Below.refl _ _).alloc (Nat.le_refl _) _) HL.out, hnc, hc, (Below.refl _ _).alloc (Nat.le_refl _) _, Box.made w v.cells _⟩
  case round =>
    obtain ⟨A', n', c', t, rfl, hat, hsp, hnc', hc', hb, hv⟩ := hrel
    obtain ⟨v1, v2, v3⟩ := hv.vl
    cases t with
    | nil =>
      have hn0 : n' = 0 := by have := hsp.out.1; simpa using this.symm
      have HAT : Hid (atL v l = []) := by rw [Hid, ← hat.out]; rfl
      have HI : Hid (atI v l = -1) := by
        show atI v l = -1
        rw [atI, HAT.out]
      have a4 : decide ((n' : Int) > 0) = false := by simp; omega
      have a5 : decide ((0 : Int) < n') = false := by simp; omega
      have HB := Lib.hid hb; clear hb
      have HSP := Lib.hid hsp.out; clear hsp
      go_wp2_with fail
      refine wp_region_since (by kernel_rfl) (by kernel_rfl) ?_
      repeat (any_goals (first | go_big_quiet_step (fail) | quiet_step (fail)))
      refine wpQuiet_nil ?_
      rintro wx ⟨⟨wz, hqx⟩, rfl⟩
      go_wp2_with fail
      refine wp_region_since (by kernel_rfl) (by kernel_rfl) ?_
      repeat (any_goals (first | go_big_quiet_step (fail) | quiet_step (fail)))
      refine wpQuiet_nil ?_
      rintro wy ⟨⟨wz, hqy⟩, rfl⟩
      go_wp2_with fail
      refine bodyPost_ret (v := .tuple #[.int .i64 (-1), .slice A' n' c']) (by simp [results, Tryd.results23, go_sem]) rfl ⟨_, _, _, by rw [HI.out], ?_, hnc', hc', below_call (below_call HB.out hqx) hqy⟩
      rw [HAT.out]
      exact SpAt.below hqy (SpAt.below hqx HSP.out)
    | cons s t =>
      have hn0 : n' = t.length + 1 := by have := hsp.out.1; simpa using this.symm
      obtain ⟨b, off, eA, hbl, y0, y1, y2, y3, y4, y5, y6, y7⟩ := hsp.out.get (i := 0) (s := s) rfl
      subst eA
      simp only [Nat.zero_mul, Nat.add_zero] at y0 y1 y2 y3 y4 y5 y6 y7
      have a3 : (0 : Int) < n' := by omega
      have a4 : decide ((n' : Int) > 0) = true := by simp; omega
      have a5 : decide ((0 : Int) < n') = true := by simp; omega
      have a3n : 0 < n' := by omega
      have HN0 := Lib.hid hn0; clear hn0
      have HB0 := Lib.hid hb; clear hb
      have HSP0 := Lib.hid hsp.out; clear hsp
      cases hop : s.1.op
      · rw [hop] at y6
        have q1 := fun p : Since wr => p.cell y3
        have q2 := fun p : Since wr => p.cell y4
        have q3 := fun p : Since wr => p.cell y5
        have q4 := fun p : Since wr => p.cell v1
        have q5 := fun p : Since wr => p.cell v2
        have q6 := fun p : Since wr => p.cell v3
        have q7 := fun p : Since wr => p.cell y6
        by_cases hhi : s.1.hi ≤ v
        · have g0 := cmpI_le.2 hhi
          have HN : Hid (atL v t = atL v l) := by
            show atL v t = atL v l
            rw [← hat.out]
            show _ = if _ then _ else _
            rw [if_pos ⟨hop, hhi⟩]
          clear hhi
          go_wp2_with fail
          refine wp_region_since (by kernel_rfl) (by kernel_rfl) ?_
          repeat (any_goals (first | go_big_quiet_step (exact Since.call (cmp_below s.1.hi v _)) | quiet_step (exact Since.call (cmp_below s.1.hi v _))))
          refine wpQuiet_nil ?_
          rintro wx ⟨⟨wz, hqx⟩, rfl⟩
          clear a4 a5 q1 q2 q3 q4 q5 q6 q7
          have hv2 := hv.later hqx
          go_wp2_with fail
          go_roundw
          case rel =>
            have hn0 := HN0.out
            refine ⟨_, _, _, t, rfl, HN.out, ?_, by omega, by omega, below_call HB0.out hqx, hv2⟩
            by_cases hc1 : c' = 1
            · have ht : t = [] := List.length_eq_zero_iff.1 (by omega)
              subst ht
              exact ⟨by simp only [List.length_nil] at hn0 ⊢; omega, .inl rfl⟩
            · rw [if_neg hc1]
              exact SpAt.tail (SpAt.below hqx HSP0.out)
          case measure =>
            have hn0 := HN0.out
            show n' - 1 < n'
            omega
        · have g0 : ¬ cmpI s.1.hi v ≤ 0 := fun c => hhi (cmpI_le.1 c)
          have g0' : decide (cmpI s.1.hi v ≤ 0) = false := decide_eq_false g0
          have HAT : Hid (atL v l = s :: t) := by
            show atL v l = s :: t
            rw [← hat.out]
            show (if _ then _ else _) = _
            rw [if_neg (fun c => hhi c.2)]
          clear hhi
          go_wp2_with fail
          refine wp_region_since (by kernel_rfl) (by kernel_rfl) ?_
          repeat (any_goals (first | go_big_quiet_step (exact Since.call (cmp_below s.1.hi v _)) | quiet_step (exact Since.call (cmp_below s.1.hi v _))))
          refine wpQuiet_nil ?_
          rintro wx ⟨⟨wz, hqx⟩, rfl⟩
          clear a4 a5 q1 q2 q3 q4 q5 q6 q7 a3
          have z1 := (hqx.cell (World.block_lt_of_cell? wr _ y0)).trans y0
          have z2 := (hqx.cell (World.block_lt_of_cell? wr _ y1)).trans y1
          have z3 := (hqx.cell (World.block_lt_of_cell? wr _ y2)).trans y2
          have z7 := (hqx.cell (World.block_lt_of_cell? wr _ y7)).trans y7
          obtain ⟨v1, v2, v3⟩ := (hv.later hqx).vl
          have HSP : Hid (SpAt ok wx (some ⟨b, off, none⟩) n' (s :: t)) := SpAt.below hqx HSP0.out
          have HB : Hid (Below w.heap.size w wx) := below_call HB0.out hqx
          clear y0 y1 y2 y3 y4 y5 y6 y7 hqx HSP0 HB0
          go_wp2_with fail
          by_cases hlo : s.1.lo ≤ v
          · have g1 := cmpI_le.2 hlo
            have HI : Hid (atI v l = s.2) := by
              show atI v l = s.2
              rw [atI, HAT.out]
              exact if_pos hlo
            clear hlo
            have r1 := fun p : Since wx => p.cell z1
            have r2 := fun p : Since wx => p.cell z2
            have r3 := fun p : Since wx => p.cell z3
            have r4 := fun p : Since wx => p.cell v1
            have r5 := fun p : Since wx => p.cell v2
            have r6 := fun p : Since wx => p.cell v3
            have a3 : (0 : Int) < n' := by have := HN0.out; omega
            have a4 : decide ((n' : Int) > 0) = true := by have := HN0.out; simp; omega
            have a5 : decide ((0 : Int) < n') = true := by have := HN0.out; simp; omega
            go_wp2_with fail
            refine wp_region_since (by kernel_rfl) (by kernel_rfl) ?_
            repeat (any_goals (first | go_big_quiet_step (exact Since.call (cmp_below s.1.lo v _)) | quiet_step (exact Since.call (cmp_below s.1.lo v _))))
            refine wpQuiet_nil ?_
            rintro wy ⟨⟨wz, hqy⟩, rfl⟩
            have z7' := (hqy.cell (World.block_lt_of_cell? wx _ z7)).trans z7
            clear a4 a5 r1 r2 r3 r4 r5 r6
            go_wp2_with fail
            refine bodyPost_ret (v := .tuple #[.int .i64 s.2, .slice (some ⟨b, off, none⟩) n' c']) (by simp [results, Tryd.results23, go_sem]) rfl ⟨_, _, _, by rw [HI.out], ?_, hnc', hc', below_call HB.out hqy⟩
            rw [HAT.out]
            exact SpAt.below hqy HSP.out
          · have g1 : ¬ cmpI s.1.lo v ≤ 0 := fun c => hlo (cmpI_le.1 c)
            have g2 : decide (cmpI s.1.lo v ≤ 0) = false := decide_eq_false g1
            have HI : Hid (atI v l = -1) := by
              show atI v l = -1
              rw [atI, HAT.out]
              exact if_neg hlo
            clear hlo
            have r1 := fun p : Since wx => p.cell z1
            have r2 := fun p : Since wx => p.cell z2
            have r3 := fun p : Since wx => p.cell z3
            have r4 := fun p : Since wx => p.cell v1
            have r5 := fun p : Since wx => p.cell v2
            have r6 := fun p : Since wx => p.cell v3
            have a3 : (0 : Int) < n' := by have := HN0.out; omega
            have a4 : decide ((n' : Int) > 0) = true := by have := HN0.out; simp; omega
            have a5 : decide ((0 : Int) < n') = true := by have := HN0.out; simp; omega
            go_wp2_with fail
            refine wp_region_since (by kernel_rfl) (by kernel_rfl) ?_
            repeat (any_goals (first | go_big_quiet_step (exact Since.call (cmp_below s.1.lo v _)) | quiet_step (exact Since.call (cmp_below s.1.lo v _))))
            refine wpQuiet_nil ?_
            rintro wy ⟨⟨wz, hqy⟩, rfl⟩
            clear a4 a5 r1 r2 r3 r4 r5 r6
            go_wp2_with fail
            refine bodyPost_ret (v := .tuple #[.int .i64 (-1), .slice (some ⟨b, off, none⟩) n' c']) (by simp [results, Tryd.results23, go_sem]) rfl ⟨_, _, _, by rw [HI.out], ?_, hnc', hc', below_call HB.out hqy⟩
            rw [HAT.out]
            exact SpAt.below hqy HSP.out
      · rw [hop] at y6
        have q7 := fun p : Since wr => p.cell y6
        have HAT : Hid (atL v l = s :: t) := by
          show atL v l = s :: t
          rw [← hat.out]
          show (if _ then _ else _) = _
          rw [if_neg (fun c => by rw [hop] at c; cases c.1)]
        go_wp2_with fail
        refine wp_region_since (by kernel_rfl) (by kernel_rfl) ?_
        repeat (any_goals (first | go_big_quiet_step (fail) | quiet_step (fail)))
        refine wpQuiet_nil ?_
        rintro wx ⟨⟨wz, hqx⟩, rfl⟩
        clear a4 a5 q7 a3
        have z1 := (hqx.cell (World.block_lt_of_cell? wr _ y0)).trans y0
        have z2 := (hqx.cell (World.block_lt_of_cell? wr _ y1)).trans y1
        have z3 := (hqx.cell (World.block_lt_of_cell? wr _ y2)).trans y2
        have z7 := (hqx.cell (World.block_lt_of_cell? wr _ y7)).trans y7
        obtain ⟨v1, v2, v3⟩ := (hv.later hqx).vl
        have HSP : Hid (SpAt ok wx (some ⟨b, off, none⟩) n' (s :: t)) := SpAt.below hqx HSP0.out
        have HB : Hid (Below w.heap.size w wx) := below_call HB0.out hqx
        clear y0 y1 y2 y3 y4 y5 y6 y7 hqx HSP0 HB0
        go_wp2_with fail
        by_cases hlo : s.1.lo ≤ v
        · have g1 := cmpI_le.2 hlo
          have HI : Hid (atI v l = s.2) := by
            show atI v l = s.2
            rw [atI, HAT.out]
            exact if_pos hlo
          clear hlo
          have r1 := fun p : Since wx => p.cell z1
          have r2 := fun p : Since wx => p.cell z2
          have r3 := fun p : Since wx => p.cell z3
          have r4 := fun p : Since wx => p.cell v1
          have r5 := fun p : Since wx => p.cell v2
          have r6 := fun p : Since wx => p.cell v3
          have a3 : (0 : Int) < n' := by have := HN0.out; omega
          have a4 : decide ((n' : Int) > 0) = true := by have := HN0.out; simp; omega
          have a5 : decide ((0 : Int) < n') = true := by have := HN0.out; simp; omega
          go_wp2_with fail
          refine wp_region_since (by kernel_rfl) (by kernel_rfl) ?_
          repeat (any_goals (first | go_big_quiet_step (exact Since.call (cmp_below s.1.lo v _)) | quiet_step (exact Since.call (cmp_below s.1.lo v _))))
          refine wpQuiet_nil ?_
          rintro wy ⟨⟨wz, hqy⟩, rfl⟩
          have z7' := (hqy.cell (World.block_lt_of_cell? wx _ z7)).trans z7
          clear a4 a5 r1 r2 r3 r4 r5 r6
          go_wp2_with fail
          refine bodyPost_ret (v := .tuple #[.int .i64 s.2, .slice (some ⟨b, off, none⟩) n' c']) (by simp [results, Tryd.results23, go_sem]) rfl ⟨_, _, _, by rw [HI.out], ?_, hnc', hc', below_call HB.out hqy⟩
          rw [HAT.out]
          exact SpAt.below hqy HSP.out
        · have g1 : ¬ cmpI s.1.lo v ≤ 0 := fun c => hlo (cmpI_le.1 c)
          have g2 : decide (cmpI s.1.lo v ≤ 0) = false := decide_eq_false g1
          have HI : Hid (atI v l = -1) := by
            show atI v l = -1
            rw [atI, HAT.out]
            exact if_neg hlo
          clear hlo
          have r1 := fun p : Since wx => p.cell z1
          have r2 := fun p : Since wx => p.cell z2
          have r3 := fun p : Since wx => p.cell z3
          have r4 := fun p : Since wx => p.cell v1
          have r5 := fun p : Since wx => p.cell v2
          have r6 := fun p : Since wx => p.cell v3
          have a3 : (0 : Int) < n' := by have := HN0.out; omega
          have a4 : decide ((n' : Int) > 0) = true := by have := HN0.out; simp; omega
          have a5 : decide ((0 : Int) < n') = true := by have := HN0.out; simp; omega
          go_wp2_with fail
          refine wp_region_since (by kernel_rfl) (by kernel_rfl) ?_
          repeat (any_goals (first | go_big_quiet_step (exact Since.call (cmp_below s.1.lo v _)) | quiet_step (exact Since.call (cmp_below s.1.lo v _))))
          refine wpQuiet_nil ?_
          rintro wy ⟨⟨wz, hqy⟩, rfl⟩
          clear a4 a5 r1 r2 r3 r4 r5 r6
          go_wp2_with fail
          refine bodyPost_ret (v := .tuple #[.int .i64 (-1), .slice (some ⟨b, off, none⟩) n' c']) (by simp [results, Tryd.results23, go_sem]) rfl ⟨_, _, _, by rw [HI.out], ?_, hnc', hc', below_call HB.out hqy⟩
          rw [HAT.out]
          exact SpAt.below hqy HSP.out

end Go.Proofs.YtbkgmahpfghheaaDoor
