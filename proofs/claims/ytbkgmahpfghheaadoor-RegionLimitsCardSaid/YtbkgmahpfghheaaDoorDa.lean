/- Pure: the diagonal region, its unions and its size; the second example of the chapter. -/
import Derived.Test.YtbkgmahpfghheaaDoorWy
namespace Go.Proofs.YtbkgmahpfghheaaDoor
open Ps

/-! ### Regions over the ints: the diagonal, and the chapter's second example -/
def vI (n : Int) : Vl := if h : -9223372036854775808 ≤ n ∧ n ≤ 9223372036854775807 then ⟨4, n, ⟨#[]⟩, by decide, h⟩ else Vl.zero
theorem vI_int {n : Int} (h : -9223372036854775808 ≤ n ∧ n ≤ 9223372036854775807) : vInt n h = vI n := by rw [vI, dif_pos h]; rfl
def Sm (n : Int) : Prop := -1000000 ≤ n ∧ n ≤ 1000000
theorem vI_lt {a b : Int} (ha : Sm a) (hb : Sm b) : vI a < vI b ↔ a < b := by
  unfold Sm at ha hb
  rw [vI, dif_pos (by omega), vI, dif_pos (by omega), Vl.lt_iff]
  simp [bl]
theorem vI_le {a b : Int} (ha : Sm a) (hb : Sm b) : vI a ≤ vI b ↔ a ≤ b := by
  rw [Vl.le_iff, vI_lt hb ha]
  omega
theorem vI_ok {a : Int} (ha : Sm a) : (vI a).ok = true := by
  unfold Sm at ha
  rw [vI, dif_pos (by omega)]
  simp [Vl.ok]
  rfl

/-- The ints from a to b. -/
def sp (a b : Int) : List Iv := [⟨vI a, vI (b + 1), false⟩]
theorem sp_ok {a b : Int} (ha : Sm a) (hb : Sm (b + 1)) (h : a ≤ b) : Ok (sp a b) := .inl ⟨rfl, vI_ok ha, vI_ok hb, (vI_lt ha hb).2 (by omega)⟩
theorem has_sp {a b : Int} {v : Vl} : has (sp a b) v ↔ vI a ≤ v ∧ v < vI (b + 1) := by
  simp [has, sp, Iv.has]
theorem sp_slim {a b : Int} (ha : Sm a) (hb : Sm (b + 1)) (h : a ≤ b) : Slim (sp a b) := ⟨sp_ok ha hb h, by simp [sp]⟩

/-- A box of two sets. -/
def bx (s t : List Iv) : Rg := .mk 2 false [(s, .mk 1 false [(t, .mk 0 true [])])]
theorem boxR_two {s t : List Iv} (hs : s ≠ []) (ht : t ≠ []) : boxR [s, t] = bx s t := by
  rw [boxR, if_neg (by simp [hs.symm, ht.symm])]
  rfl
theorem form_row {t : List Iv} (h : Ok t) (hn : t ≠ []) : Ps.Form 1 (.mk 1 false [(t, .mk 0 true [])]) := by
  refine ⟨rfl, rfl, ?_, by simp [Rg.ps]⟩
  intro p hp
  simp only [Rg.ps, List.mem_cons, List.not_mem_nil, or_false] at hp
  subst hp
  exact ⟨hn, h, ⟨rfl, rfl⟩, rfl⟩
theorem mem_row {t : List Iv} {v : Vl} : mem [v] (.mk 1 false [(t, .mk 0 true [])]) ↔ has t v := by
  simp [mem, Rg.ps, Rg.full]
theorem mem_two {w : Int} {f : Bool} {ps : Pts} {u v : Vl} : mem [u, v] (.mk w f ps) ↔ ∃ p ∈ ps, has p.1 u ∧ mem [v] p.2 := Iff.rfl

theorem union_is {n : Nat} {a b X : Rg} (ha : Ps.Form n a) (hb : Ps.Form n b) (hX : Ps.Form n X) (h : ∀ t, Ps.Rows n t → (mem t X ↔ mem t a ∨ mem t b)) : form (opf true true true false) n a b = X := by
  obtain ⟨h1, h2⟩ := form_is (opf true true true false) n a b ha hb
  refine Form.unique h1 hX fun t ht => ?_
  rw [h2 t ht, h t ht]
  by_cases c : mem t a <;> by_cases d : mem t b <;> simp [c, d, opf]
theorem rows_two {t : List Vl} (h : Ps.Rows 2 t) : ∃ u v, t = [u, v] ∧ u.ok = true ∧ v.ok = true := by
  obtain ⟨h1, h2⟩ := h
  cases t with
  | nil => cases h1
  | cons u t =>
    cases t with
    | nil => cases h1
    | cons v t =>
      cases t with
      | nil => exact ⟨u, v, rfl, h2 u (by simp), h2 v (by simp)⟩
      | cons x t => simp at h1

open Classical in
theorem apply_union {n : Nat} (hn : n ≤ 12) {a b X : Rg} (ha : Ps.Form n a) (hb : Ps.Form n b) (fa : Fits a) (fb : Fits b) (hX : form (opf true true true false) n a b = X) : applyR (opf true true true false) a b = if Fits X then (X, 0) else (.mk 0 false [], 2) := by
  have e : a.w.toNat = n := by rw [ha.w]; simp
  rw [applyR, if_neg (by rintro (h | h | h); exact h ⟨n, hn, ha, fa⟩; exact h ⟨n, hn, hb, fb⟩; exact h (by rw [ha.w, hb.w])), e, lform_is, hX]
  by_cases c : Fits X
  · rw [if_pos c, if_pos c]; rfl
  · rw [if_neg c, if_neg c]; rfl

/-! The diagonal. -/
def row (a b : Int) : Rg := .mk 1 false [(sp a b, .mk 0 true [])]
def dp (i : Nat) : List Iv × Rg := (sp (3 * i) (3 * i), row (3 * i) (3 * i))
def diag (k : Nat) : Rg := .mk 2 false ((List.range k).map dp)
theorem row_cnt (a b : Int) : (row a b).cnt = 1 := by simp [row, Rg.cnt, cntL]
theorem row_slim (a b : Int) : (row a b).slim := by simp [row, Rg.slim, slimL, sp]
theorem row_inj {a b : Int} (ha : Sm a) (hb : Sm b) {c d : Int} (h : row a c = row b d) : a = b := by
  have e : sp a c = sp b d := by
    have := congrArg Rg.ps h
    simp only [row, Rg.ps, List.cons.injEq, Prod.mk.injEq] at this
    exact this.1.1
  have e2 : vI a = vI b := by
    simp only [sp, List.cons.injEq, Iv.mk.injEq] at e
    exact e.1.1
  by_cases c1 : a < b
  · have := (vI_lt ha hb).2 c1
    rw [e2] at this
    exact absurd this (Vl.irrefl _)
  · by_cases c2 : b < a
    · have := (vI_lt hb ha).2 c2
      rw [e2] at this
      exact absurd this (Vl.irrefl _)
    · omega
theorem diag_cnt (k : Nat) : (diag k).cnt = 2 * k := by
  rw [Rg.cnt_ps]
  show cntL ((List.range k).map dp) = _
  induction k with
  | zero => rfl
  | succ k ih =>
    rw [List.range_succ, List.map_append, cntL_append, ih]
    simp only [List.map_cons, List.map_nil, cntL_cons, dp, row_cnt]
    simp [cntL]
    omega
theorem diag_slim (k : Nat) : (diag k).slim := by
  rw [Rg.slim_iff]
  intro p hp
  simp only [diag, Rg.ps, List.mem_map] at hp
  obtain ⟨i, _, rfl⟩ := hp
  exact ⟨by simp [dp, sp], row_slim _ _⟩
theorem diag_form {k : Nat} (hk : k ≤ 1000) : Ps.Form 2 (diag k) := by
  refine ⟨rfl, rfl, ?_, ?_⟩
  · intro p hp
    simp only [diag, Rg.ps, List.mem_map, List.mem_range] at hp
    obtain ⟨i, hi, rfl⟩ := hp
    have h1 : Sm (3 * i) := by unfold Sm; omega
    have h2 : Sm (3 * i + 1) := by unfold Sm; omega
    exact ⟨by simp [dp, sp], sp_ok h1 h2 (Int.le_refl _), form_row (sp_ok h1 h2 (Int.le_refl _)) (by simp [sp]), rfl⟩
  · show ((List.range k).map dp).Pairwise _
    rw [List.pairwise_map]
    have hr : (List.range k).Pairwise (fun i j => i < j ∧ j < k) := by
      rw [List.pairwise_iff_getElem]
      intro i j hi hj hij
      simp at hi hj ⊢
      omega
    refine hr.imp ?_
    rintro i j ⟨hij, hj⟩
    have a1 : Sm (3 * i) := by unfold Sm; omega
    have a2 : Sm (3 * i + 1) := by unfold Sm; omega
    have b1 : Sm (3 * j) := by unfold Sm; omega
    refine ⟨(vI_lt a1 b1).2 (by omega), ?_, ?_⟩
    · intro v h1 h2
      simp only [dp, has_sp] at h1 h2
      have h3 : vI (3 * i + 1) ≤ vI (3 * j) := (vI_le a2 b1).2 (by omega)
      have := h1.2
      have := h2.1
      grind
    · intro e
      have := row_inj a1 b1 e
      omega
theorem diag_step {k : Nat} (hk : k + 1 ≤ 1000) : form (opf true true true false) 2 (diag k) (bx (sp (3 * k) (3 * k)) (sp (3 * k) (3 * k))) = diag (k + 1) := by
  have h1 : Sm (3 * k) := by unfold Sm; omega
  have h2 : Sm (3 * k + 1) := by unfold Sm; omega
  have hs := sp_ok h1 h2 (Int.le_refl _)
  refine union_is (diag_form (by omega)) ⟨rfl, rfl, ?_, by simp [bx, Rg.ps]⟩ (diag_form hk) fun t ht => ?_
  · intro p hp
    simp only [bx, Rg.ps, List.mem_cons, List.not_mem_nil, or_false] at hp
    subst hp
    exact ⟨by simp [sp], hs, form_row hs (by simp [sp]), rfl⟩
  · obtain ⟨u, v, rfl, _, _⟩ := rows_two ht
    simp only [diag, bx, mem_two, List.range_succ, List.map_append, List.mem_append]
    constructor
    · rintro ⟨p, hp | hp, h⟩
      · exact .inl ⟨p, hp, h⟩
      · exact .inr ⟨p, by simpa [dp, row] using hp, h⟩
    · rintro (⟨p, hp, h⟩ | ⟨p, hp, h⟩)
      · exact ⟨p, .inl hp, h⟩
      · exact ⟨p, .inr (by simpa [dp, row] using hp), h⟩

theorem bx_form {a b c d : Int} (ha : Sm a) (hb : Sm (b + 1)) (hc : Sm c) (hd : Sm (d + 1)) (h1 : a ≤ b) (h2 : c ≤ d) : Ps.Form 2 (bx (sp a b) (sp c d)) := by
  refine ⟨rfl, rfl, ?_, by simp [bx, Rg.ps]⟩
  intro p hp
  simp only [bx, Rg.ps, List.mem_cons, List.not_mem_nil, or_false] at hp
  subst hp
  exact ⟨by simp [sp], sp_ok ha hb h1, form_row (sp_ok hc hd h2) (by simp [sp]), rfl⟩
theorem bx_fits (a b c d : Int) : Fits (bx (sp a b) (sp c d)) := ⟨by simp [bx, Rg.cnt, cntL], by simp [bx, Rg.slim, slimL, sp]⟩

theorem diag_union {k : Nat} (hk : k ≤ 32) : applyR (opf true true true false) (diag k) (bx (sp (3 * k) (3 * k)) (sp (3 * k) (3 * k))) = if k + 1 ≤ 32 then (diag (k + 1), 0) else (.mk 0 false [], 2) := by
  have h1 : Sm (3 * k) := by unfold Sm; omega
  have h2 : Sm (3 * k + 1) := by unfold Sm; omega
  rw [apply_union (by omega) (diag_form (by omega)) (bx_form h1 h2 h1 h2 (Int.le_refl _) (Int.le_refl _)) ⟨by rw [diag_cnt]; omega, diag_slim k⟩ (bx_fits _ _ _ _) (diag_step (by omega))]
  by_cases c : k + 1 ≤ 32
  · rw [if_pos c, if_pos ⟨by rw [diag_cnt]; omega, diag_slim _⟩]
  · rw [if_neg c, if_neg (fun h => by have := h.1; rw [diag_cnt] at this; omega)]
theorem diag_size {k : Nat} (hk : k ≤ 32) : szOf (diag k) = 2 * k := by
  rw [szOf, if_pos ⟨2, by omega, diag_form (by omega), by rw [diag_cnt]; omega, diag_slim k⟩, diag_cnt]
  omega

/-! The second example of the chapter. -/
def ex1 : Rg := bx (sp 1 4) (sp 5 6)
def ex2 : Rg := .mk 2 false [(sp 1 2, row 5 6), (sp 3 4, row 7 8)]
theorem sm {a : Int} (h : -100 ≤ a ∧ a ≤ 100) : Sm a := by unfold Sm; omega
theorem ex1_form : Ps.Form 2 ex1 := bx_form (sm (by decide)) (sm (by decide)) (sm (by decide)) (sm (by decide)) (by decide) (by decide)
theorem ex2_form : Ps.Form 2 ex2 := by
  refine ⟨rfl, rfl, ?_, ?_⟩
  · intro p hp
    simp only [ex2, Rg.ps, List.mem_cons, List.not_mem_nil, or_false] at hp
    rcases hp with rfl | rfl
    · exact ⟨by simp [sp], sp_ok (sm (by decide)) (sm (by decide)) (by decide), form_row (sp_ok (sm (by decide)) (sm (by decide)) (by decide)) (by simp [sp]), rfl⟩
    · exact ⟨by simp [sp], sp_ok (sm (by decide)) (sm (by decide)) (by decide), form_row (sp_ok (sm (by decide)) (sm (by decide)) (by decide)) (by simp [sp]), rfl⟩
  · show List.Pairwise _ [(sp 1 2, row 5 6), (sp 3 4, row 7 8)]
    refine List.pairwise_cons.2 ⟨?_, by simp⟩
    intro q hq
    simp only [List.mem_cons, List.not_mem_nil, or_false] at hq
    subst hq
    refine ⟨(vI_lt (sm (by decide)) (sm (by decide))).2 (by decide), ?_, fun e => ?_⟩
    · intro v h1 h2
      simp only [has_sp] at h1 h2
      have h3 : vI (2 + 1) ≤ vI 3 := (vI_le (sm (by decide)) (sm (by decide))).2 (by decide)
      have := h1.2
      have := h2.1
      grind
    · have := row_inj (sm (by decide)) (sm (by decide)) e
      omega
theorem ex1_is : form (opf true true true false) 2 (bx (sp 1 2) (sp 5 6)) (bx (sp 3 4) (sp 5 6)) = ex1 := by
  refine union_is (bx_form (sm (by decide)) (sm (by decide)) (sm (by decide)) (sm (by decide)) (by decide) (by decide)) (bx_form (sm (by decide)) (sm (by decide)) (sm (by decide)) (sm (by decide)) (by decide) (by decide)) ex1_form fun t ht => ?_
  obtain ⟨u, v, rfl, _, _⟩ := rows_two ht
  simp only [ex1, bx, mem_two, List.mem_cons, List.not_mem_nil, or_false, exists_eq_left, has_sp]
  have h1 : vI 1 < vI (2 + 1) := (vI_lt (sm (by decide)) (sm (by decide))).2 (by decide)
  have h2 : vI (2 + 1) < vI (4 + 1) := (vI_lt (sm (by decide)) (sm (by decide))).2 (by decide)
  have h3 : vI 3 = vI (2 + 1) := rfl
  rw [h3]
  constructor
  · rintro ⟨⟨a, b⟩, c⟩
    by_cases d : u < vI (2 + 1)
    · exact .inl ⟨⟨a, d⟩, c⟩
    · exact .inr ⟨⟨by grind, b⟩, c⟩
  · rintro (⟨⟨a, b⟩, c⟩ | ⟨⟨a, b⟩, c⟩)
    · exact ⟨⟨a, by grind⟩, c⟩
    · exact ⟨⟨by grind, b⟩, c⟩
theorem ex2_is : form (opf true true true false) 2 (bx (sp 1 2) (sp 5 6)) (bx (sp 3 4) (sp 7 8)) = ex2 := by
  refine union_is (bx_form (sm (by decide)) (sm (by decide)) (sm (by decide)) (sm (by decide)) (by decide) (by decide)) (bx_form (sm (by decide)) (sm (by decide)) (sm (by decide)) (sm (by decide)) (by decide) (by decide)) ex2_form fun t ht => ?_
  obtain ⟨u, v, rfl, _, _⟩ := rows_two ht
  simp only [ex2, bx, row, mem_two, List.mem_cons, List.not_mem_nil, or_false, exists_eq_left, exists_eq_or_imp]
theorem ex1_union : applyR (opf true true true false) (bx (sp 1 2) (sp 5 6)) (bx (sp 3 4) (sp 5 6)) = (ex1, 0) := by
  rw [apply_union (by omega) (bx_form (sm (by decide)) (sm (by decide)) (sm (by decide)) (sm (by decide)) (by decide) (by decide)) (bx_form (sm (by decide)) (sm (by decide)) (sm (by decide)) (sm (by decide)) (by decide) (by decide)) (bx_fits _ _ _ _) (bx_fits _ _ _ _) ex1_is]
  exact if_pos (bx_fits _ _ _ _)
theorem ex2_fits : Fits ex2 := ⟨by simp [ex2, Rg.cnt, cntL, row], by simp [ex2, row, Rg.slim, slimL, sp]⟩
theorem ex2_union : applyR (opf true true true false) (bx (sp 1 2) (sp 5 6)) (bx (sp 3 4) (sp 7 8)) = (ex2, 0) := by
  rw [apply_union (by omega) (bx_form (sm (by decide)) (sm (by decide)) (sm (by decide)) (sm (by decide)) (by decide) (by decide)) (bx_form (sm (by decide)) (sm (by decide)) (sm (by decide)) (sm (by decide)) (by decide) (by decide)) (bx_fits _ _ _ _) (bx_fits _ _ _ _) ex2_is]
  exact if_pos ex2_fits
theorem ex1_size : szOf ex1 = 2 := by
  rw [szOf, if_pos ⟨2, by omega, ex1_form, bx_fits _ _ _ _⟩]
  simp [ex1, bx, Rg.cnt, cntL]
theorem ex2_canon : Canon ex2 := ⟨2, by omega, ex2_form, ex2_fits⟩
theorem ex2_size : szOf ex2 = 4 := by
  rw [szOf, if_pos ex2_canon]
  simp [ex2, row, Rg.cnt, cntL]
theorem boxes_two {a b c d : Int} (ha : Sm a) (hb : Sm (b + 1)) (hc : Sm c) (hd : Sm (d + 1)) (h1 : a ≤ b) (h2 : c ≤ d) : boxesR [sp a b, sp c d] = (bx (sp a b) (sp c d), 0) := by
  rw [boxesR, if_neg (by simp), if_pos, boxR_two (by simp [sp]) (by simp [sp])]
  intro l hl
  simp only [List.mem_cons, List.not_mem_nil, or_false] at hl
  rcases hl with rfl | rfl
  · exact sp_slim ha hb h1
  · exact sp_slim hc hd h2

end Go.Proofs.YtbkgmahpfghheaaDoor
