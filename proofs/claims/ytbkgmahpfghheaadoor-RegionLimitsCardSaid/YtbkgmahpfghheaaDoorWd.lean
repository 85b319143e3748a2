/- Contract of slices.Compact at the program's values: equal neighbours are left out. -/
import Derived.Test.YtbkgmahpfghheaaDoorWc
import Derived.Test.YtbkgmahpfghheaaDoorPsC
import Derived.Lib.SliceRun
namespace Go.Proofs.YtbkgmahpfghheaaDoor
open Go.RowKit
open Ps

/-! ### A row of the call's own, written in place -/
def putL : List Value → Nat → List Value → List Value
  | xs, _, [] => xs
  | xs, o, v :: r => putL (xs.set o v) (o + 1) r

theorem own_setCells {base : Nat} {e : TypeId} {size g n cap : Nat} : ∀ (vs : List Value) (o : Nat) (w : World) (xs : List Value), w.ownsRow base e size (.slice (some ⟨g, 0, none⟩) n cap) n xs →
    (w.setCells g o vs).ownsRow base e size (.slice (some ⟨g, 0, none⟩) n cap) n (putL xs o vs) ∧ w.grownBy (w.setCells g o vs) (some g)
  | [], _, w, _, h => ⟨h, ⟨rfl, rfl, rfl, Nat.le_refl _, fun _ _ _ => rfl⟩⟩
  | v :: r, o, w, xs, h => by
    obtain ⟨a, b⟩ := h.stored o v
    obtain ⟨c, d⟩ := own_setCells r (o + 1) _ _ a
    exact ⟨c, b.trans d⟩

theorem putL_get : ∀ (vs xs : List Value) (o : Nat), o + vs.length ≤ xs.length → (putL xs o vs).length = xs.length ∧ ∀ j, (putL xs o vs)[j]? = if o ≤ j ∧ j < o + vs.length then vs[j - o]? else xs[j]?
  | [], xs, o, _ => ⟨rfl, fun j => by rw [if_neg (by simp only [List.length_nil, Nat.add_zero]; omega)]; rfl⟩
  | v :: r, xs, o, h => by
    simp only [List.length_cons] at h
    obtain ⟨a, b⟩ := putL_get r (xs.set o v) (o + 1) (by simp; omega)
    refine ⟨by rw [putL, a]; simp, fun j => ?_⟩
    rw [putL, b]
    simp only [List.length_cons]
    by_cases c : j = o
    · subst c
      rw [if_neg (by omega), if_pos (by omega), List.getElem?_set_self (by omega)]
      simp
    · by_cases d : o + 1 ≤ j ∧ j < o + 1 + r.length
      · rw [if_pos d, if_pos (by omega), show j - o = (j - (o + 1)) + 1 by omega, List.getElem?_cons_succ]
      · rw [if_neg d, if_neg (by omega), List.getElem?_set_ne (by omega)]

/-- An element stored. -/
theorem putL_elem {α : Type} {f : α → List Value} {k : Nat} (hk : ∀ x, (f x).length = k) (l : List α) (i : Nat) (x : α) (hi : i < l.length) : putL (l.flatMap f) (i * k) (f x) = (l.set i x).flatMap f := by
  have hlen := flatMap_len hk l
  have hle : i * k + k ≤ l.length * k := by
    have := Nat.mul_le_mul_right k (show i + 1 ≤ l.length from hi)
    rw [Nat.add_mul, Nat.one_mul] at this
    exact this
  obtain ⟨a, b⟩ := putL_get (f x) (l.flatMap f) (i * k) (by rw [hk, hlen]; exact hle)
  refine List.ext_getElem? fun t => ?_
  rw [b, hk]
  by_cases ht : t < l.length * k
  · have hk0 : 0 < k := by
      rcases Nat.eq_zero_or_pos k with h | h
      · subst h; simp at ht
      · exact h
    have hd : t / k < l.length := (Nat.div_lt_iff_lt_mul hk0).2 ht
    have hm := Nat.mod_lt t hk0
    have e : t / k * k + t % k = t := Nat.div_add_mod' t k
    by_cases c : t / k = i
    · have h1 := flatMap_get (f := f) hk (l := l.set i x) (i := i) (x := x) (by rw [List.getElem?_set_self hi]) (t % k) hm
      rw [if_pos ⟨by rw [← c]; omega, by rw [← c]; omega⟩]
      rw [show t = i * k + t % k by rw [← c]; exact e.symm, h1]
      congr 1
      omega
    · have hne : ¬ (i * k ≤ t ∧ t < i * k + k) := by
        rintro ⟨p, q⟩
        exact c ((Nat.div_eq_iff hk0).2 ⟨p, by omega⟩)
      rw [if_neg hne]
      have h1 := flatMap_get (f := f) hk (l := l.set i x) (i := t / k) (x := l[t / k]) (by rw [List.getElem?_set_ne (fun q => c q.symm), List.getElem?_eq_getElem hd]) (t % k) hm
      have h2 := flatMap_get (f := f) hk (l := l) (i := t / k) (x := l[t / k]) (List.getElem?_eq_getElem hd) (t % k) hm
      rw [e] at h1 h2
      rw [h1, h2]
  · rw [if_neg (by omega), List.getElem?_eq_none (by rw [hlen]; omega), List.getElem?_eq_none (by rw [flatMap_len hk]; simp; omega)]

theorem own_vl {w : World} {base g n cap : Nat} {d : List Vl} (h : w.ownsRow base 39 3 (.slice (some ⟨g, 0, none⟩) n cap) n (d.flatMap Vl.cells)) {i : Nat} {x : Vl} (hx : d[i]? = some x) :
    w.cell? ⟨g, i * 3, none⟩ = some (.int .i64 x.kind) ∧ w.cell? ⟨g, i * 3 + 1, none⟩ = some (.int .i64 x.num) ∧ w.cell? ⟨g, i * 3 + 2, none⟩ = some (.string x.text) := by
  have hl := flatMap_len (f := Vl.cells) (k := 3) (fun _ => rfl) d
  have hn : d.length = n := by have := h.1; omega
  have hi := (List.getElem?_eq_some_iff.1 hx).1
  have get := fun j hj => flatMap_get (f := Vl.cells) (k := 3) (fun _ => rfl) hx j hj
  have c := fun j (hj : j < 3) => (h.cellAt (i * 3 + j) (by omega)).trans (get j hj)
  exact ⟨c 0 (by omega), c 1 (by omega), c 2 (by omega)⟩

theorem own_shorten {w : World} {base g n m cap size : Nat} {e : TypeId} {xs : List Value} (h : w.ownsRow base e size (.slice (some ⟨g, 0, none⟩) n cap) n xs) (hm : m ≤ n) :
    w.ownsRow base e size (.slice (some ⟨g, 0, none⟩) m cap) m (xs.take (m * size)) := by
  have hle : m * size ≤ n * size := Nat.mul_le_mul_right _ hm
  refine ⟨by rw [List.length_take, h.1]; omega, ?_⟩
  rcases h.2 with ⟨h', _⟩ | ⟨g', cap', cur, h', hb, hg, hnc, hcm, hcs, ht⟩
  · simp at h'
  · simp only [Value.slice.injEq, Option.some.injEq, Addr.mk.injEq, and_true, true_and] at h'
    obtain ⟨rfl, rfl⟩ := h'
    refine .inr ⟨g, cap, cur, rfl, hb, hg, by omega, hcm, hcs, ?_⟩
    rw [← ht, List.take_take, Nat.min_eq_left hle]

/-- slices.Compact(points) on a row of the call's own. -/
def Packed (base g cap : Nat) (d : List Vl) (w : World) (e : Ending) (w' : World) : Prop := ∃ m : Nat, m = (dd d d.length).length ∧ e = .returned (.slice (some ⟨g, 0, none⟩) m cap) ∧
  w'.ownsRow base 39 3 (.slice (some ⟨g, 0, none⟩) m cap) m ((dd d d.length).flatMap Vl.cells) ∧ w.grownBy w' (some g)

theorem drewN_grown (w : World) (n : Nat) (row : Option Nat) : w.grownBy (w.drewN n) row := ⟨rfl, rfl, rfl, Nat.le_refl _, fun _ _ _ => rfl⟩

theorem take_flatMap {α : Type} {f : α → List Value} {k : Nat} (hk : ∀ x, (f x).length = k) (l : List α) (m : Nat) (hm : m ≤ l.length) : (l.flatMap f).take (m * k) = (l.take m).flatMap f := by
  have e := congrArg (List.flatMap f) (List.take_append_drop m l)
  rw [List.flatMap_append] at e
  have hl : ((l.take m).flatMap f).length = m * k := by rw [flatMap_len hk, List.length_take, Nat.min_eq_left hm]
  rw [← e, ← hl, List.take_left]

def zeros (n : Nat) : List Value := (Builtin.zeroCells #[.int .i64 0, .int .i64 0, .string ⟨#[]⟩] n).toList
theorem zeros_len (n : Nat) : (zeros n).length = n * 3 := by simp [zeros, Builtin.zeroCells]
theorem zeros_one (n : Nat) : ∀ v ∈ zeros n, v.oneCell' = true := by
  intro v hv
  simp only [zeros, Builtin.zeroCells, Array.toList_map, List.mem_map] at hv
  obtain ⟨i, _, rfl⟩ := hv
  have h3 : i % 3 < 3 := Nat.mod_lt _ (by omega)
  have : i % 3 = 0 ∨ i % 3 = 1 ∨ i % 3 = 2 := by omega
  simp only [List.size_toArray, List.length_cons, List.length_nil]
  rcases this with e | e | e <;> simp [e] <;> rfl

theorem run_clearV (w : World) (ty : TypeId) (g o n c : Nat) (hc : ∀ j, j < n * 3 → (w.cell? ⟨g, o + j, none⟩).isSome = true) (hf : ∀ j, j < n * 3 → w.frozen? ⟨g, o + j, none⟩ = false) (hn : 0 < n) :
    (Builtin.clear_ #[58] ty #[.slice (some ⟨g, o, none⟩) n c]).run Tryd.prog w = .ok (.tuple #[]) (w.setCells g o (zeros n)) := by
  have hst := run_storeCells_cells (P := Tryd.prog) g o (zeros n) 0 w (by rw [zeros_len]; simpa using hc) (by rw [zeros_len]; simpa using hf) (zeros_one n)
  simp only [Nat.add_zero] at hst
  obtain ⟨m, rfl⟩ : ∃ m, n = m + 1 := ⟨n - 1, by omega⟩
  have e : (Builtin.zeroCells (Value.cells (.agg #[.int .i64 0, .int .i64 0, .string ⟨#[]⟩])) (m + 1)).toList = zeros (m + 1) := rfl
  simp [Builtin.clear_, run_underlying Tryd.underlying58, Tryd.zeroValue39, e, hst]

/-- What the row holds while it is packed: the values up to place j, each once, ahead; all from j - 1 on as it was. -/
structure Packing (base g cap n : Nat) (d : List Vl) (w : World) (j m : Nat) (wr : World) (d' : List Vl) : Prop where
  len : d'.length = n
  own : wr.ownsRow base 39 3 (.slice (some ⟨g, 0, none⟩) n cap) n (d'.flatMap Vl.cells)
  cnt : m = (dd d j).length
  le : m + 1 ≤ j
  take : d'.take m = dd d j
  rest : ∀ i, j ≤ i + 1 → d'[i]? = d[i]?
  grown : w.grownBy wr (some g)

theorem Packing.same {base g cap n : Nat} {d : List Vl} {w : World} {j m : Nat} {wr : World} {d' : List Vl} (h : Packing base g cap n d w (j + 1) m wr d') (e : d[j + 1]? = d[j]?) (q : Nat) : Packing base g cap n d w (j + 2) m (wr.drewN q) d' :=
  ⟨h.len, h.own, by rw [dd_same e]; exact h.cnt, by have := h.le; omega, by rw [dd_same e]; exact h.take, fun i hi => h.rest i (by omega), h.grown.trans (drewN_grown wr q _)⟩

theorem Packing.more {base g cap n : Nat} {d : List Vl} {w : World} {j m : Nat} {wr : World} {d' : List Vl} (h : Packing base g cap n d w (j + 1) m wr d') {y : Vl} (hy : d[j + 1]? = some y) (e : d[j + 1]? ≠ d[j]?) (hj : j + 1 < n) (q : Nat) :
    Packing base g cap n d w (j + 2) (m + 1) ((wr.drewN q).setCells g (m * 3) y.cells) (d'.set m y) := by
  have hm := h.le
  have hl := h.len
  obtain ⟨a, b⟩ := own_setCells y.cells (m * 3) (wr.drewN q) _ h.own
  rw [putL_elem (f := Vl.cells) (k := 3) (fun _ => rfl) d' m y (by omega)] at a
  refine ⟨by simpa using hl, a, ?_, by omega, ?_, fun i hi => ?_, (h.grown.trans (drewN_grown wr q _)).trans b⟩
  · rw [dd_more hy e, List.length_append, ← h.cnt]; rfl
  · rw [dd_more hy e, ← h.take, List.take_succ_eq_append_getElem (by simp; omega)]
    congr 1
    · refine List.ext_getElem? fun i => ?_
      by_cases c : i < m
      · rw [List.getElem?_take_of_lt c, List.getElem?_take_of_lt c, List.getElem?_set_ne (by omega)]
      · rw [List.getElem?_take_eq_none (by omega), List.getElem?_take_eq_none (by omega)]
    · simp
  · rw [List.getElem?_set_ne (by omega)]
    exact h.rest i (by omega)

theorem Packing.fin {base g cap n : Nat} {d : List Vl} {w : World} {m : Nat} {wr : World} {d' : List Vl} (h : Packing base g cap n d w n m wr d') (hn : d.length = n) (z : List Value) (hz : m * 3 + z.length = n * 3) :
    Packed base g cap d w (.returned (.slice (some ⟨g, 0, none⟩) m cap)) (wr.setCells g (m * 3) z) := by
  obtain ⟨a, b⟩ := own_setCells z (m * 3) wr _ h.own
  have hle : m ≤ n := by have := h.le; omega
  have k := own_shorten a hle
  have hl := flatMap_len (f := Vl.cells) (k := 3) (fun _ => rfl) d'
  have e : (putL (d'.flatMap Vl.cells) (m * 3) z).take (m * 3) = (dd d d.length).flatMap Vl.cells := by
    rw [hn, ← h.take]
    obtain ⟨c1, c2⟩ := putL_get z (d'.flatMap Vl.cells) (m * 3) (by rw [hl, h.len]; omega)
    have h3 := take_flatMap (f := Vl.cells) (k := 3) (fun _ => rfl) d' m (by rw [h.len]; exact hle)
    rw [← h3]
    refine List.ext_getElem? fun i => ?_
    by_cases c : i < m * 3
    · rw [List.getElem?_take_of_lt c, List.getElem?_take_of_lt c, c2, if_neg (by omega)]
    · rw [List.getElem?_take_eq_none (by omega), List.getElem?_take_eq_none (by omega)]
  rw [e] at k
  exact ⟨m, by rw [hn]; exact h.cnt, rfl, k, h.grown.trans b⟩

set_option maxHeartbeats 800000 in
theorem compactV_any (base : Nat) (d : List Vl) (g cap : Nat) (w : World) (h : w.ownsRow base 39 3 (.slice (some ⟨g, 0, none⟩) d.length cap) d.length (d.flatMap Vl.cells)) (hlt : d.length ≤ 4611686018427387904) (hcap : d.length ≤ cap) (_hcm : cap ≤ 9223372036854775807) :
    Calls Tryd.prog 31 #[.slice (some ⟨g, 0, none⟩) d.length cap] w (Packed base g cap d w) := by
  have H := Lib.hid h; clear h
  by_cases h2 : d.length < 2
  · go_enter Tryd.func31, Tryd.ntmps31
    go_wp2_with fail
    go_ret
    have e : dd d d.length = d := by
      rcases d with _ | ⟨a, _ | ⟨b, d⟩⟩
      · rfl
      · rfl
      · simp at h2; omega
    refine ⟨d.length, by rw [e], rfl, by rw [e]; exact H.out, ⟨rfl, rfl, rfl, Nat.le_refl _, fun _ _ _ => rfl⟩⟩
  generalize hn : d.length = n at *
  have HN := Lib.hid hn; clear hn
  go_enter Tryd.func31, Tryd.ntmps31
  go_wp2_with fail
  go_loopw [3] (fun i wr => ∃ k : Nat, k + 1 ≤ n ∧ i = .int .i64 ((k + 1 : Nat) : Int) ∧ Hid (dd d (k + 1) = d.take (k + 1)) ∧ ∃ q, wr = w.drewN q) (fun i _ => n - (intOf i).toNat)
  case atStart => exact ⟨0, by omega, rfl, dd_one d, 0, rfl⟩
  case round =>
    obtain ⟨k, hk, rfl, hdd, q, rfl⟩ := hrel
    by_cases hlt : k + 1 < n
    · obtain ⟨x, hx⟩ : ∃ x, d[k]? = some x := ⟨d[k]'(by rw [HN.out]; omega), List.getElem?_eq_getElem (by rw [HN.out]; omega)⟩
      obtain ⟨y, hy⟩ : ∃ y, d[k + 1]? = some y := ⟨d[k + 1]'(by rw [HN.out]; omega), List.getElem?_eq_getElem (by rw [HN.out]; omega)⟩
      obtain ⟨x1, x2, x3⟩ := own_vl H.out hx
      obtain ⟨y1, y2, y3⟩ := own_vl H.out hy
      have HX := Lib.hid hx; clear hx
      have HY := Lib.hid hy; clear hy
      have a1 : IntKind.i64.wrap (((k + 1 : Nat) : Int) - 1) = k := by rw [IntWalk.i64_in _ (by omega)]; omega
      have a2 : (0 : Int) ≤ ((k + 1 : Nat) : Int) := by omega
      have heq := eqVl y x
      by_cases e : y = x
      · have he : decide (y = x) = true := by simp [e]
        have hsame : d[k + 1]? = d[k]? := by rw [HX.out, HY.out, e]
        have HE := Lib.hid hsame; clear hsame e
        go_wp2_with fail
        go_quiet (fail)
        clear a1 a2 heq
        go_wp2_with fail
        have hst : Hid (Packing base g cap n d w (k + 1 + 0 + 1) (k + 1) (w.drewN (q + nq)) d) := by
          have e3 := HN.out
          have e1 := dd_same HE.out
          have e2 := hdd.out
          refine ⟨e3, H.out, ?_, by omega, ?_, fun i _ => rfl, drewN_grown w _ _⟩
          · show _ = (dd d (k + 2)).length
            rw [e1, e2]; simp; omega
          · show _ = dd d (k + 2)
            rw [e1, e2]
        clear x1 x2 x3 y1 y2 y3 he
        go_loopw [3, 5] (fun u3 u5 wr => ∃ (t m : Nat) (d' : List Vl), k + 1 + (t + 1) ≤ n ∧ u3 = .int .i64 m ∧ u5 = .int .i64 ((t + 1 : Nat) : Int) ∧ Hid (Packing base g cap n d w (k + 1 + t + 1) m wr d')) (fun _ i _ => n - (intOf i).toNat)
        case atStart => exact ⟨0, k + 1, d, by omega, rfl, rfl, hst⟩
        case round =>
          obtain ⟨t, m, d', ht, rfl, rfl, hP⟩ := hrel
          have hle := hP.out.le
          by_cases hlt2 : t + 1 < n - (k + 1)
          · obtain ⟨x', hx⟩ : ∃ x', d[k + 1 + t]? = some x' := ⟨d[k + 1 + t]'(by rw [HN.out]; omega), List.getElem?_eq_getElem (by rw [HN.out]; omega)⟩
            obtain ⟨y', hy⟩ : ∃ y', d[k + 1 + t + 1]? = some y' := ⟨d[k + 1 + t + 1]'(by rw [HN.out]; omega), List.getElem?_eq_getElem (by rw [HN.out]; omega)⟩
            obtain ⟨z', hz⟩ : ∃ z', d'[m]? = some z' := ⟨d'[m]'(by rw [hP.out.len]; omega), List.getElem?_eq_getElem (by rw [hP.out.len]; omega)⟩
            have x1 := own_vl hP.out.own ((hP.out.rest (k + 1 + t) (by omega)).trans hx)
            have y1 := own_vl hP.out.own ((hP.out.rest (k + 1 + t + 1) (by omega)).trans hy)
            obtain ⟨z1, z2, z3⟩ := own_vl hP.out.own hz
            have f1 := hP.out.own.frozenAt (m * 3)
            have f2 := hP.out.own.frozenAt (m * 3 + 1)
            have f3 := hP.out.own.frozenAt (m * 3 + 2)
            rw [show (k + 1 + t) * 3 = (k + 1) * 3 + t * 3 by omega] at x1
            rw [show (k + 1 + t + 1) * 3 = (k + 1) * 3 + (t + 1) * 3 by omega] at y1
            obtain ⟨x1, x2, x3⟩ := x1
            obtain ⟨y1, y2, y3⟩ := y1
            have HX := Lib.hid hx; clear hx
            have HY := Lib.hid hy; clear hy hz
            have a1 : IntKind.i64.wrap (((t + 1 : Nat) : Int) - 1) = t := by rw [IntWalk.i64_in _ (by omega)]; omega
            have a2 : (0 : Int) ≤ ((t + 1 : Nat) : Int) := by omega
            have hne : (binOp .neq 39 (.agg #[.int .i64 y'.kind, .int .i64 y'.num, .string y'.text]) (.agg #[.int .i64 x'.kind, .int .i64 x'.num, .string x'.text])).run Tryd.prog = fun w => .ok (.bool (!decide (y' = x'))) w := by
              funext w; exact neVl y' x' w
            have heq := fun w => congrFun hne w
            clear hne
            by_cases e : y' = x'
            · have he : decide (y' = x') = true := by simp [e]
              have HE : Hid (d[k + 1 + t + 1]? = d[k + 1 + t]?) := by show _ = _; rw [HX.out, HY.out, e]
              clear e
              go_wp2_with fail
              go_quiet (fail)
              clear a1 a2 heq
              go_wp2_with fail
              go_roundw
              case rel => exact ⟨t + 1, m, d', by omega, rfl, by go_num, hP.out.same HE.out _⟩
              case measure => simp [intOf]; omega
            · have he : decide (y' = x') = false := by simp [e]
              have HE : Hid (d[k + 1 + t + 1]? ≠ d[k + 1 + t]?) := by show _ ≠ _; rw [HX.out, HY.out]; exact fun c => e (Option.some.inj c)
              clear e
              go_wp2_with fail
              go_quiet (fail)
              clear a1 a2 heq
              go_wp2_with fail
              go_roundw
              case rel => exact ⟨t + 1, m + 1, d'.set m y', by omega, by go_num, by go_num, hP.out.more HY.out HE.out (by omega) _⟩
              case measure => simp [intOf]; omega
          · have ej : k + 1 + t + 1 = n := by omega
            have hfin := hP.out
            rw [ej] at hfin
            have F := Lib.hid (hfin.fin HN.out (zeros (n - m)) (by rw [zeros_len]; omega))
            have hcl := fun ty => run_clearV wr ty g (m * 3) (n - m) (cap - m) (fun j hj => by
              have h1 := hfin.own.cellAt (m * 3 + j) (by omega)
              rw [h1]
              have h2 := flatMap_len (f := Vl.cells) (k := 3) (fun _ => rfl) d'
              have h3 := hfin.len
              rw [List.getElem?_eq_getElem (by omega)]
              rfl) (fun j _ => hfin.own.frozenAt _) (by omega)
            clear ej hfin
            go_wp2_with fail
            go_ret
            exact F.out
      · have he : decide (y = x) = false := by simp [e]
        have HE : Hid (dd d (k + 1 + 1) = d.take (k + 1 + 1)) := by
          have := hdd.out
          show dd d (k + 2) = _
          rw [dd_more HY.out (by rw [HX.out, HY.out]; intro c; exact e (Option.some.inj c)), this]
          obtain ⟨hk1, e2⟩ := List.getElem?_eq_some_iff.1 HY.out
          rw [List.take_succ_eq_append_getElem (l := d) (i := k + 1) hk1, e2]
        clear e
        go_wp2_with fail
        go_quiet (fail)
        clear a1 a2 heq
        go_wp2_with fail
        go_roundw
        case rel => exact ⟨k + 1, by omega, by go_num, HE.out, _, rfl⟩
        case measure => simp [intOf]; omega
    · go_wp2_with fail
      go_ret
      have e : k + 1 = n := by omega
      have e2 := hdd.out
      have e3 := HN.out
      rw [e, ← e3, List.take_length] at e2
      refine ⟨n, by rw [e2, e3], rfl, by rw [e2]; exact H.out, drewN_grown w q _⟩

theorem compactV_n (base : Nat) (d : List Vl) (n g cap : Nat) (w : World) (hn : d.length = n) (h : w.ownsRow base 39 3 (.slice (some ⟨g, 0, none⟩) n cap) n (d.flatMap Vl.cells)) (hlt : n ≤ 4611686018427387904) (hcap : n ≤ cap) (hcm : cap ≤ 9223372036854775807) :
    Calls Tryd.prog 31 #[.slice (some ⟨g, 0, none⟩) n cap] w (Packed base g cap d w) := by
  subst hn
  exact compactV_any base d g cap w h hlt hcap hcm

end Go.Proofs.YtbkgmahpfghheaaDoor
