/- Contracts of interval.contains and interval.Valid: for every list of intervals in memory. -/
import Derived.Test.YtbkgmahpfghheaaDoorWa
import Derived.Test.YtbkgmahpfghheaaDoorPsB
namespace Go.Proofs.YtbkgmahpfghheaaDoor
open Go.RowKit
open Ps

theorem has_take_succ {l : List Iv} {k : Nat} {x : Iv} (h : l[k]? = some x) (v : Vl) : has (l.take (k + 1)) v ↔ has (l.take k) v ∨ x.has v := by
  obtain ⟨hk, rfl⟩ := List.getElem?_eq_some_iff.1 h
  rw [List.take_succ_eq_append_getElem hk, has_append, has_cons]
  simp [has_nil]
theorem has_of_get {l : List Iv} {k : Nat} {x : Iv} (h : l[k]? = some x) {v : Vl} (hx : x.has v) : has l v := ⟨x, List.mem_of_getElem? h, hx⟩

/-! ### A region that draws its order, reads, and calls what lays blocks -/
structure Since (w : World) where
  w' : World
  h : Below w.heap.size w w'
instance (w : World) : Inhabited (Since w) := ⟨⟨w, Below.refl _ _⟩⟩

theorem wp_region_since {P : Program} {id : Nat} {Q : Exit → Act → World → Prop} {a : Act} {w : World} {l : List Oper} (hm : P.follows .mixedOrders = true) (hB : Region.lexB .any l.toArray = true)
    (h : wpQuiet P l.toArray (fun w' => ∃ p : Since w, w' = p.w') (fun a' => ∀ w', (∃ p : Since w, w' = p.w') → Q .normal a' w') l a) : (Code.region id l.toArray true).wp P Q a w :=
  wp_region_quiet (C := fun w' => ∃ p : Since w, w' = p.w') hm hB ⟨⟨w.drew, (Below.refl _ _).drew⟩, rfl⟩ (by simpa using h)

theorem Since.call {P : Program} {f : FuncId} {args : Array Value} {w : World} {p : Since w} {v : Value} (h : Calls P f args p.w' fun e w' => e = .returned v ∧ Below p.w'.heap.size p.w' w') :
    Calls P f args p.w' fun e w'' => e = .returned v ∧ ∃ q : Since w, w'' = q.w' :=
  h.mono fun _ w'' ⟨he, hb⟩ => ⟨he, ⟨w'', p.h.trans (hb.mono p.h.size)⟩, rfl⟩
theorem Since.cell {w : World} (p : Since w) {a : Addr} {v : Value} (h : w.cell? a = some v) : p.w'.cell? a = some v := (p.h.cell (World.block_lt_of_cell? w a h)).trans h

theorem below_box {w W w1 : World} {o : Obj} (h : Below w.heap.size w W) (k : Below (W.alloc o).heap.size (W.alloc o) w1) : Below w.heap.size w w1 :=
  (h.alloc h.size o).trans (k.mono (by have := h.size; simp; omega))
theorem below_call {w W w1 : World} (h : Below w.heap.size w W) (k : Below W.heap.size W w1) : Below w.heap.size w w1 := h.trans (k.mono h.size)

def YesB (w : World) (p : Prop) [Decidable p] : Prop := ∀ w', p → Below w.heap.size w w' → Ending.returned (.bool true) = .returned (.bool (decide p)) ∧ Below w.heap.size w w'
def NoB (w : World) (p : Prop) [Decidable p] : Prop := ∀ w', ¬ p → Below w.heap.size w w' → Ending.returned (.bool false) = .returned (.bool (decide p)) ∧ Below w.heap.size w w'
theorem yesB (w : World) (p : Prop) [Decidable p] : YesB w p := fun w' h k => ⟨by simp [h], k⟩
theorem noB (w : World) (p : Prop) [Decidable p] : NoB w p := fun w' h k => ⟨by simp [h], k⟩

set_option maxHeartbeats 400000 in
theorem contains_any (l : List Iv) (v : Vl) (A : Option Addr) (n c : Nat) (w : World) (hl : IvsAt any w A n l) (hnc : n ≤ c) (hc : c ≤ 9223372036854775807) :
    Calls Tryd.prog 62 #[.slice A n c, .agg #[.int .i64 v.kind, .int .i64 v.num, .string v.text]] w fun e w' => e = .returned (.bool (decide (has l v))) ∧ Below w.heap.size w w' := by
  have HL := Lib.hid hl; clear hl
  have YES := yesB w (has l v)
  have NO := noB w (has l v)
  go_enter Tryd.func62, Tryd.ntmps62
  go_wp2_with fail
  go_loopw [9] (fun i wr => ∃ k : Nat, k ≤ n ∧ i = .int .i64 k ∧ Hid (¬ has (l.take k) v) ∧ Below w.heap.size w wr ∧ Box wr w.heap.size v.cells) (fun i _ => n - (intOf i).toNat)
  case atStart => exact ⟨0, by omega, rfl, by simp [Hid, has_nil], (Below.refl _ _).alloc (Nat.le_refl _) _, Box.made w v.cells _⟩
  case round =>
    obtain ⟨k, hk, rfl, hno, hb, hv⟩ := hrel
    obtain ⟨v1, v2, v3⟩ := hv.vl
    by_cases hlt : k < n
    · have hlen := HL.out.1
      obtain ⟨x, hx⟩ : ∃ x, l[k]? = some x := ⟨l[k], List.getElem?_eq_getElem (by omega)⟩
      obtain ⟨b, off, eA, _, hbl, q1, q2, q3, q4, q5, q6, q7⟩ := (HL.out.keep (Keeps.of_below hb)).get hx
      clear hlen
      subst eA
      have HX := Lib.hid hx; clear hx
      have hv2 := hv.alloc (.cells x.cells.toArray 41)
      have hp := Box.made wr x.cells 41
      have hsz := hv.1
      have step : Hid (¬ x.has v → ¬ has (l.take (k + 1)) v) := fun h => by rw [has_take_succ HX.out]; exact fun c => c.elim hno h
      by_cases h1 : x.lo ≤ v
      · have g1 := cmpI_le.2 h1
        have G1 := Lib.hid h1; clear h1
        go_wp2_with fail
        refine (cmp_below x.lo v _).mono ?_
        rintro e w1 ⟨rfl, hb1⟩
        obtain ⟨p1, p2, p3, p4, p5, p6, p7⟩ := (hp.later hb1).iv
        obtain ⟨t1, t2, t3⟩ := (hv2.later hb1).vl
        have hb2 := below_box hb hb1
        have hv3 := hv2.later hb1
        clear hb1 hb
        cases ho : x.op
        · have HO := Lib.hid ho
          by_cases h2 : v < x.hi
          · have g2 := cmpI_neg.2 h2
            have HI : Hid (has l v) := has_of_get HX.out ⟨G1.out, .inr h2⟩
            clear h2
            go_wp2_with fail
            refine (cmp_below v x.hi _).mono ?_
            rintro e w2 ⟨rfl, hb3⟩
            go_wp2_with fail
            go_ret
            exact YES _ HI.out (below_call hb2 hb3)
          · have g2 : ¬ cmpI v x.hi < 0 := fun c => h2 (cmpI_neg.1 c)
            have HI : Hid (¬ x.has v) := fun c => c.2.elim (fun q => by rw [HO.out] at q; cases q) h2
            clear h2
            go_wp2_with fail
            refine (cmp_below v x.hi _).mono ?_
            rintro e w2 ⟨rfl, hb3⟩
            go_wp2_with fail
            go_roundw
            case rel => exact ⟨k + 1, by omega, by go_num, step HI.out, below_call hb2 hb3, hv3.later hb3⟩
            case measure => simp [intOf]; omega
        · have HI : Hid (has l v) := has_of_get HX.out ⟨G1.out, .inl ho⟩
          go_wp2_with fail
          go_ret
          exact YES _ HI.out hb2
      · have g1 : ¬ cmpI x.lo v ≤ 0 := fun c => h1 (cmpI_le.1 c)
        have HI : Hid (¬ x.has v) := fun c => h1 c.1
        clear h1
        go_wp2_with fail
        refine (cmp_below x.lo v _).mono ?_
        rintro e w1 ⟨rfl, hb1⟩
        obtain ⟨p1, p2, p3, p4, p5, p6, p7⟩ := (hp.later hb1).iv
        obtain ⟨t1, t2, t3⟩ := (hv2.later hb1).vl
        go_wp2_with fail
        go_roundw
        case rel => exact ⟨k + 1, by omega, by go_num, step HI.out, below_box hb hb1, hv2.later hb1⟩
        case measure => simp [intOf]; omega
    · go_wp2_with fail
      go_ret
      have hlen := HL.out.1
      have e : l.take k = l := List.take_of_length_le (by omega)
      rw [e] at hno
      exact NO _ hno hb

theorem neVl (a b : Vl) (w : World) : (binOp .neq 39 (.agg #[.int .i64 a.kind, .int .i64 a.num, .string a.text]) (.agg #[.int .i64 b.kind, .int .i64 b.num, .string b.text])).run Tryd.prog w = .ok (.bool (!decide (a = b))) w := by
  have h := eqVl a b w
  have h2 : (binOp .neq 39 (.agg #[.int .i64 a.kind, .int .i64 a.num, .string a.text]) (.agg #[.int .i64 b.kind, .int .i64 b.num, .string b.text])).run Tryd.prog w = ((binOp .eql 39 (.agg #[.int .i64 a.kind, .int .i64 a.num, .string a.text]) (.agg #[.int .i64 b.kind, .int .i64 b.num, .string b.text])).run Tryd.prog w).andThen fun u w' => match u with
      | .bool x => .ok (.bool (!x)) w'
      | _ => .ok undef w' := by
    rw [run_neq_struct, run_eql_struct]
    cases (Op.equalIn 10000 39 (.agg #[.int .i64 a.kind, .int .i64 a.num, .string a.text]) (.agg #[.int .i64 b.kind, .int .i64 b.num, .string b.text])).run Tryd.prog w <;> rfl
  rw [h2, h]
  rfl
theorem neZero (v : Vl) (w : World) : (binOp .neq 39 (.agg #[.int .i64 v.kind, .int .i64 v.num, .string v.text]) (.agg #[.int .i64 0, .int .i64 0, .string ⟨#[]⟩])).run Tryd.prog w = .ok (.bool (!decide (v = Vl.zero))) w := neVl v Vl.zero w

open Classical in
set_option maxHeartbeats 800000 in
theorem ivalid_any (l : List Iv) (A : Option Addr) (n c : Nat) (w : World) (hl : IvsAt any w A n l) (_hnc : n ≤ c) (_hc : c ≤ 9223372036854775807) :
    Calls Tryd.prog 10 #[.slice A n c] w fun e w' => e = .returned (.bool (decide (Slim l))) ∧ Below w.heap.size w w' := by
  have HL := Lib.hid hl; clear hl
  have YES := yesB w (Slim l)
  have NO := noB w (Slim l)
  by_cases h64 : n > 64
  · go_enter Tryd.func10, Tryd.ntmps10
    go_wp2_with fail
    go_ret
    have := HL.out.1
    exact NO _ (fun c => by have := c.2; omega) (Below.refl _ _)
  go_enter Tryd.func10, Tryd.ntmps10
  go_wp2_with fail
  go_loopw [10] (fun i wr => ∃ k : Nat, k ≤ n ∧ i = .int .i64 k ∧ Hid (∀ (i : Nat) (x : Iv), i < k → l[i]? = some x → GoodIv l i x) ∧ Below w.heap.size w wr) (fun i _ => n - (intOf i).toNat)
  case atStart => exact ⟨0, by omega, rfl, fun i x h => by omega, Below.refl _ _⟩
  case round =>
    obtain ⟨k, hk, rfl, hgood, hb⟩ := hrel
    by_cases hlt : k < n
    · have hlen := Lib.hid HL.out.1
      obtain ⟨x, hx⟩ : ∃ x, l[k]? = some x := ⟨l[k]'(by rw [hlen.out]; omega), List.getElem?_eq_getElem (by rw [hlen.out]; omega)⟩
      obtain ⟨b, off, eA, _, hbl, q1, q2, q3, q4, q5, q6, q7⟩ := (HL.out.keep (Keeps.of_below hb)).get hx
      subst eA
      have HX := Lib.hid hx; clear hx
      have hp := Box.made wr x.cells 41
      have bad : Hid (¬ GoodIv l k x → ¬ Slim l) := fun h c => h ((ok_iff l).1 c.1 k x HX.out)
      have step : Hid (GoodIv l k x → ∀ (i : Nat) (x : Iv), i < k + 1 → l[i]? = some x → GoodIv l i x) := fun h i y hi hy => by
        by_cases e : i = k
        · subst e
          have := HX.out
          rw [this] at hy
          cases hy
          exact h
        · exact hgood i y (by omega) hy
      go_wp2_with fail
      refine (valid_any x.lo _).mono ?_
      rintro e w1 ⟨rfl, hb1⟩
      obtain ⟨p1, p2, p3, p4, p5, p6, p7⟩ := (hp.later hb1).iv
      have hp1 := hp.later hb1
      have hb2 := below_box hb hb1
      clear hb hb1 hp q1 q2 q3 q4 q5 q6 q7 hbl
      cases h1 : x.lo.ok
      · go_wp2_with fail
        go_ret
        exact NO _ (bad fun c => by rw [c.1] at h1; cases h1) hb2
      · have H1 := Lib.hid h1
        cases ho : x.op
        · have HO := Lib.hid ho
          go_wp2_with fail
          refine (valid_any x.hi _).mono ?_
          rintro e w2 ⟨rfl, hb3⟩
          obtain ⟨p1, p2, p3, p4, p5, p6, p7⟩ := (hp1.later hb3).iv
          have hp2 := hp1.later hb3
          have hb4 := below_call hb2 hb3
          clear hb2 hb3 hp1
          cases h2 : x.hi.ok
          · have H2 := Lib.hid h2
            go_wp2_with fail
            go_ret
            exact NO _ (bad fun c => by have := (c.2.2 HO.out).1; rw [H2.out] at this; cases this) hb4
          · have H2 := Lib.hid h2
            go_wp2_with fail
            refine (cmp_below x.lo x.hi _).mono ?_
            rintro e w3 ⟨rfl, hb5⟩
            obtain ⟨p1, p2, p3, p4, p5, p6, p7⟩ := (hp2.later hb5).iv
            have hp3 := hp2.later hb5
            have hb6 := below_call hb4 hb5
            clear hb4 hb5 hp2
            by_cases h3 : x.lo < x.hi
            · have g3 := cmpI_neg.2 h3
              have H3 := Lib.hid h3
              clear h3
              have g3' : ¬ cmpI x.lo x.hi ≥ 0 := by omega
              by_cases hn : k + 1 < n
              · obtain ⟨y, hy⟩ : ∃ y, l[k + 1]? = some y := ⟨l[k + 1]'(by rw [hlen.out]; omega), List.getElem?_eq_getElem (by rw [hlen.out]; omega)⟩
                obtain ⟨b', off', eA, _, hbl, s1, s2, s3, s4, s5, s6, s7⟩ := (HL.out.keep (Keeps.of_below hb6)).get hy
                cases eA
                have HY := Lib.hid hy; clear hy
                go_wp2_with fail
                have r1 := fun p : Since w3 => p.cell s1
                have r2 := fun p : Since w3 => p.cell s2
                have r3 := fun p : Since w3 => p.cell s3
                have t1 := fun p : Since w3 => p.cell p4
                have t2 := fun p : Since w3 => p.cell p5
                have t3 := fun p : Since w3 => p.cell p6
                have a1 : IntKind.i64.wrap ((k : Int) + 1) = k + 1 := IntWalk.i64_in _ (by omega)
                have a2 : IntKind.i64.wrap ((n : Int) - 1) = n - 1 := IntWalk.i64_in _ (by omega)
                have a3 : (0 : Int) ≤ k + 1 := by omega
                have a4 : ((k : Int) + 1).toNat = k + 1 := by omega
                have a5 : decide ((k : Int) < n - 1) = true := by simp; omega
                have a6 : (k : Int) + 1 < n := by omega
                clear p1 p2 p3 p4 p5 p6 p7 s1 s2 s3 s4 s5 s6 s7
                refine wp_region_since (by kernel_rfl) (by kernel_rfl) ?_
                repeat (any_goals (first | go_big_quiet_step (exact Since.call (cmp_below x.hi y.lo _)) | quiet_step (exact Since.call (cmp_below x.hi y.lo _))))
                refine wpQuiet_nil ?_
                rintro w' ⟨⟨w4, hq⟩, rfl⟩
                have hb7 := below_call hb6 hq
                clear a1 a2 a3 a4 a5 a6 r1 r2 r3 t1 t2 t3 hb6
                by_cases h5 : x.hi < y.lo
                · have g5 := cmpI_neg.2 h5
                  have g5' : ¬ cmpI x.hi y.lo ≥ 0 := by omega
                  have HG : Hid (GoodIv l k x) := ⟨H1.out, fun c => (by rw [HO.out] at c; cases c), fun _ => ⟨H2.out, H3.out, fun z hz => by have := HY.out; rw [this] at hz; cases hz; exact h5⟩⟩
                  clear h5
                  go_wp2_with fail
                  go_roundw
                  case rel => exact ⟨k + 1, by omega, by go_num, step HG.out, hb7⟩
                  case measure => simp [intOf]; omega
                · have g5 : ¬ cmpI x.hi y.lo < 0 := fun c => h5 (cmpI_neg.1 c)
                  have g5' : cmpI x.hi y.lo ≥ 0 := by omega
                  have HG : Hid (¬ GoodIv l k x) := fun c => h5 ((c.2.2 HO.out).2.2 y HY.out)
                  clear h5
                  go_wp2_with fail
                  go_ret
                  exact NO _ (bad HG.out) hb7
              · have hy : Hid (l[k + 1]? = none) := List.getElem?_eq_none (by rw [hlen.out]; omega)
                have HG : Hid (GoodIv l k x) := ⟨H1.out, fun c => (by rw [HO.out] at c; cases c), fun _ => ⟨H2.out, H3.out, fun z hz => by have := hy.out; rw [this] at hz; cases hz⟩⟩
                go_wp2_with fail
                have a2 : IntKind.i64.wrap ((n : Int) - 1) = n - 1 := IntWalk.i64_in _ (by omega)
                have a5 : decide ((k : Int) < n - 1) = false := by simp; omega
                refine wp_region_since (by kernel_rfl) (by kernel_rfl) ?_
                repeat (any_goals (first | go_big_quiet_step (fail) | quiet_step (fail)))
                refine wpQuiet_nil ?_
                rintro w' ⟨⟨w4, hq⟩, rfl⟩
                have hb7 := below_call hb6 hq
                clear a2 a5 hb6
                go_wp2_with fail
                go_roundw
                case rel => exact ⟨k + 1, by omega, by go_num, step HG.out, hb7⟩
                case measure => simp [intOf]; omega
            · have g3 : ¬ cmpI x.lo x.hi < 0 := fun c => h3 (cmpI_neg.1 c)
              have g3' : cmpI x.lo x.hi ≥ 0 := by omega
              have H3 := Lib.hid h3
              clear h3
              go_wp2_with fail
              go_ret
              exact NO _ (bad fun c => H3.out (c.2.2 HO.out).2.1) hb6
        · have HO := Lib.hid ho
          have hz := neZero x.hi
          by_cases e1 : k + 1 = n
          · by_cases e2 : x.hi = Vl.zero
            · have d2 : decide (x.hi = Vl.zero) = true := by simp [e2]
              have HG : Hid (GoodIv l k x) := ⟨H1.out, fun _ => ⟨by rw [hlen.out]; exact e1, e2⟩, fun c => by rw [HO.out] at c; cases c⟩
              have g1 : ¬ (k : Int) < n - 1 := by omega
              clear e1 e2
              go_wp2_with fail
              go_roundw
              case rel => exact ⟨k + 1, by omega, by go_num, step HG.out, hb2⟩
              case measure => simp [intOf]; omega
            · have d2 : decide (x.hi = Vl.zero) = false := by simp [e2]
              have HG : Hid (¬ GoodIv l k x) := fun c => e2 (c.2.1 HO.out).2
              have g1 : ¬ (k : Int) < n - 1 := by omega
              clear e1 e2
              go_wp2_with fail
              go_ret
              exact NO _ (bad HG.out) hb2
          · have HG : Hid (¬ GoodIv l k x) := fun c => e1 (by have := (c.2.1 HO.out).1; rw [hlen.out] at this; exact this)
            have g1 : (k : Int) < n - 1 := by omega
            clear e1
            go_wp2_with fail
            go_ret
            exact NO _ (bad HG.out) hb2
    · go_wp2_with fail
      go_ret
      have hlen := HL.out.1
      refine YES _ ⟨(ok_iff l).2 fun i x hx => hgood i x ?_ hx, by omega⟩ hb
      have := (List.getElem?_eq_some_iff.1 hx).1
      omega

end Go.Proofs.YtbkgmahpfghheaaDoor
