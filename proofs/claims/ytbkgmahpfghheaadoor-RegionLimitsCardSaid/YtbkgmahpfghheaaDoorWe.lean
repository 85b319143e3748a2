/- Contracts of interval.least and interval.merge: lists of at most a million intervals. -/
import Derived.Test.YtbkgmahpfghheaaDoorWd
import Derived.Maps.AppendAt
namespace Go.Proofs.YtbkgmahpfghheaaDoor
open Go.RowKit
open Ps

set_option maxHeartbeats 400000 in
theorem least_any (w : World) : Calls Tryd.prog 61 #[] w fun e w' => e = .returned (.agg #[.int .i64 1, .int .i64 0, .string ⟨#[]⟩]) ∧ Below w.heap.size w w' := by
  go_enter Tryd.func61, Tryd.ntmps61
  go_wp2_with fail
  refine bodyPost_ret (v := .agg #[.int .i64 1, .int .i64 0, .string ⟨#[]⟩]) (by simp [results, Tryd.results61, go_sem]) rfl ⟨rfl, ?_⟩
  exact (Below.refl _ _).alloc (Nat.le_refl _) _

/-- What is asked of a function value that joins two bools. -/
def KeepAt (g : Nat) (lb : Array Value) (op : Bool → Bool → Bool) : Prop := ∀ (x y : Bool) (W : World), Calls Tryd.prog g (#[.bool x, .bool y] ++ lb) W fun e w' => e = .returned (.bool (op x y)) ∧ Below W.heap.size W w'

theorem keepAnd : KeepAt 36 #[] (fun x y => x && y) := by
  intro x y W
  simp only [Array.append_empty]
  cases x <;> cases y
  all_goals
    go_enter Tryd.func36, Tryd.ntmps36
    go_wp2_with fail
    go_ret
    exact ⟨rfl, Below.refl _ _⟩

/-- A slice of intervals of the call's own. -/
def OwnIvs (base : Nat) (w' : World) (v : Value) (L : List Iv) : Prop := w'.ownsRow base 41 7 v L.length (ivsCells L)

def Merged (base : Nat) (L : List Iv) (w : World) (e : Ending) (w' : World) : Prop := ∃ v, e = .returned v ∧ OwnIvs base w' v L ∧ Below w.heap.size w w'

theorem info_v : (Tryd.prog.info? 39).map (fun i => (i.zero, i.size, i.bytes)) = some (some (.agg #[.int .i64 0, .int .i64 0, .string ⟨#[]⟩]), 3, 32) := by kernel_rfl
theorem info_iv : (Tryd.prog.info? 41).map (fun i => (i.zero, i.size, i.bytes)) = some (some (.agg #[.int .i64 0, .int .i64 0, .string ⟨#[]⟩, .int .i64 0, .int .i64 0, .string ⟨#[]⟩, .bool false]), 7, 72) := by kernel_rfl

/-- The walk stands still here. -/
theorem stop_ {p : Prop} (h : Hid p) : p := h

/-- 'append(xs, x)' on a row of the call's own, elements of any size; the goal's world is the one in which x has been boxed. -/
theorem append_el {P : Program} {ops : Array Oper} {rest : List Oper} {o : Oper} {a : Act} {Q : Exit → Act → World → Prop} {W : World} (base : Nat) (hgd : o.guard = none) (s x : Operand) (t e : TypeId) (z : Value) (size bytes : Nat)
    (ho : o.op = .call { callee := .builtin .append, args := #[s, x], argTypes := #[t, t] })
    (ht : P.underlying t = some (.slice e)) (hinfo : (P.info? e).map (fun i => (i.zero, i.size, i.bytes)) = some (some z, size, bytes)) (hzs : z.cells.size = size) (hsz : 0 < size) (hby : 0 < bytes)
    (v : Value) (n : Nat) (xs cs : List Value) (hs : a.eval s = v) (N : Nat) (hx : a.eval x = .slice (some ⟨N, 0, none⟩) 1 1) (hN : N = W.heap.size) (hcs : cs.length = size) (h1 : ∀ u ∈ cs, u.oneCell' = true)
    (HO : W.ownsRow base e size v n xs) (hbase : base ≤ W.heap.size) (hl : (n + 1) * bytes ≤ 140737488355328)
    (h : ∀ v1 w1, w1.ownsRow base e size v1 (n + 1) (xs ++ cs) → W.grownBy w1 v.ownBlock → (v1.ownBlock = v.ownBlock ∨ ∃ b, v1.ownBlock = some b ∧ W.heap.size ≤ b) → wpList P ops Q rest (a.put o.dst v1) w1) :
    wpList P ops Q (o :: rest) a (W.alloc (.cells cs.toArray e)) := by
  subst hN
  obtain ⟨i0, hi, hzz⟩ := Option.map_eq_some_iff.1 hinfo
  simp only [Prod.mk.injEq] at hzz
  obtain ⟨hz0, hz1, hz2⟩ := hzz
  have hlen : n + 1 ≤ 140737488355328 := Nat.le_trans (Nat.le_mul_of_pos_right _ hby) hl
  refine wpList_append_own_at (W.alloc (.cells cs.toArray e)) hgd s x t ho base e i0 z size bytes ht hi hz0 hz1 hz2 hzs hsz v n xs hs (HO.alloc _) ⟨W.heap.size, 0, none⟩ 1 1 cs hx (by omega)
    (fun j u hu => by
      have hb := (Box.made W cs e).2 j u hu
      have ha : (⟨W.heap.size, 0, none⟩ : Addr).add j = ⟨W.heap.size, j, none⟩ := by unfold Addr.add; split <;> simp_all
      rw [ha]; exact hb) h1 (by simp only [maxLen]; omega) hl (by simp; omega) ?_
  intro v1 w1 hown hg _ hat
  refine h v1 w1 hown (World.grownBy.trans (World.grownBy_alloc W _ _) hg) ?_
  rcases hat with hat | hat
  · exact .inl hat
  · exact .inr ⟨_, hat, by simp⟩

theorem vl_one (v : Vl) : ∀ u ∈ v.cells, u.oneCell' = true := by
  intro u hu
  simp [Vl.cells] at hu
  rcases hu with rfl | rfl | rfl <;> rfl
theorem iv_one (x : Iv) : ∀ u ∈ x.cells, u.oneCell' = true := by
  intro u hu
  simp [Iv.cells] at hu
  rcases hu with rfl | rfl | rfl | rfl | rfl | rfl | rfl <;> rfl

/-- The points while they are gathered. -/
structure Gather (base D : Nat) (cs : List Value) (w : World) (P : List Vl) (v : Value) (wr : World) : Prop where
  own : wr.ownsRow base 39 3 v P.length (P.flatMap Vl.cells)
  blk : wr.heap[D]? = some (.cells cs.toArray 29 (0, 0))
  below : Below base w wr
  base : base ≤ wr.heap.size

theorem Gather.ne {base D : Nat} {cs : List Value} {w : World} {P : List Vl} {v : Value} {wr : World} (h : Gather base D cs w P v wr) : v.ownBlock ≠ some D := by
  intro e
  rcases h.own.2 with ⟨rfl, _⟩ | ⟨g, cap, cur, rfl, _, hh, _⟩
  · simp [Value.ownBlock] at e
  · have : g = D := by simpa [Value.ownBlock] using e
    subst this
    rw [h.blk] at hh
    injection hh with hh
    injection hh with _ ht _
    exact absurd ht (by decide)

theorem Gather.alloc {base D : Nat} {cs : List Value} {w : World} {P : List Vl} {v : Value} {wr : World} (h : Gather base D cs w P v wr) (o : Obj) : Gather base D cs w P v (wr.alloc o) := by
  refine ⟨h.own.alloc o, ?_, h.below.alloc h.base o, by have := h.base; simp; omega⟩
  rw [Below.heap_alloc _ _ _ (Array.getElem?_eq_some_iff.1 h.blk).1]
  exact h.blk

theorem Gather.append {base D : Nat} {cs : List Value} {w : World} {P : List Vl} {v : Value} {wr : World} (h : Gather base D cs w P v wr) {x : Vl} {v1 : Value} {w1 : World} (h1 : w1.ownsRow base 39 3 v1 (P.length + 1) (P.flatMap Vl.cells ++ x.cells)) (h2 : wr.grownBy w1 v.ownBlock) :
    Gather base D cs w (P ++ [x]) v1 w1 := by
  refine ⟨by simpa using h1, ?_, h.below.grown h2 h.base (fun k hk => (h.own.lt k hk).1), Nat.le_trans h.base h2.size⟩
  rw [h2.block D (Array.getElem?_eq_some_iff.1 h.blk).1 (fun e => h.ne e.symm)]
  exact h.blk

theorem Gather.cell {base D : Nat} {cs : List Value} {w : World} {P : List Vl} {v : Value} {wr : World} (h : Gather base D cs w P v wr) {j : Nat} {u : Value} (hu : cs[j]? = some u) : wr.cell? ⟨D, j, none⟩ = some u := by
  simp only [World.cell?, h.blk]
  simpa using hu

theorem bytes32 {n : Nat} (h : n ≤ 9000000) : (n + 1) * 32 ≤ 140737488355328 := by omega
theorem bytes72 {n : Nat} (h : n ≤ 9000000) : (n + 1) * 72 ≤ 140737488355328 := by omega
theorem ends_take_succ {l : List Iv} {k : Nat} {x : Iv} (h : l[k]? = some x) : ends (l.take (k + 1)) = ends (l.take k) ++ (if x.op then [x.lo] else [x.lo, x.hi]) := by
  obtain ⟨hk, rfl⟩ := List.getElem?_eq_some_iff.1 h
  unfold ends
  rw [List.take_succ_eq_append_getElem hk, List.flatMap_append]
  simp only [List.flatMap_cons, List.flatMap_nil, List.append_nil]
theorem ends_len (l : List Iv) : (ends l).length ≤ 2 * l.length := by
  induction l with
  | nil => simp [ends]
  | cons x l ih =>
    have : ends (x :: l) = (if x.op then [x.lo] else [x.lo, x.hi]) ++ ends l := by simp [ends]
    rw [this, List.length_append, List.length_cons]
    split <;> simp <;> omega

theorem pw_own {w w1 : World} {base : Nat} {e : TypeId} {size n : Nat} {v : Value} {xs : List Value} (h : w.ownsRow base e size v n xs) (hb : Below w.heap.size w w1) : w1.ownsRow base e size v n xs :=
  h.kept (row := none) ⟨hb.os, hb.tape, hb.output, hb.size, fun i hi _ => hb.block i hi⟩ (by cases v.ownBlock <;> simp)
theorem own_apart {w : World} {b b' : Nat} {e e' : TypeId} {s s' n n' g c' : Nat} {v : Value} {xs xs' : List Value} (h : w.ownsRow b e s v n xs) (h' : w.ownsRow b' e' s' (.slice (some ⟨g, 0, none⟩) n' c') n' xs') (hne : e ≠ e') : v.ownBlock = none ∨ v.ownBlock ≠ some g := by
  rcases h.2 with ⟨rfl, _⟩ | ⟨g1, cap, cur, rfl, _, hh, _⟩
  · exact .inl rfl
  · refine .inr fun hk => ?_
    rcases h'.2 with ⟨hc, _⟩ | ⟨g', cap', cur', hc, _, hh', _⟩
    · simp at hc
    · simp only [Value.slice.injEq, Option.some.injEq, Addr.mk.injEq, and_true, true_and] at hc
      have : g1 = g := by simpa [Value.ownBlock] using hk
      obtain ⟨rfl, _⟩ := hc
      subst this
      rw [hh] at hh'
      injection hh' with hh'
      injection hh' with _ ht
      exact hne ht

theorem iv_store (l : List Iv) (i : Nat) (x : Iv) (p : Vl) (hx : l[i]? = some x) :
    ((((ivsCells l).set (i * 7 + 6) (.bool false)).set (i * 7 + 3) (.int .i64 p.kind)).set (i * 7 + 4) (.int .i64 p.num)).set (i * 7 + 5) (.string p.text) = ivsCells (l.set i ⟨x.lo, p, false⟩) := by
  obtain ⟨hi, _⟩ := List.getElem?_eq_some_iff.1 hx
  have hl := flatMap_len (f := Iv.cells) (k := 7) (fun _ => rfl) l
  have hl' : (ivsCells l).length = l.length * 7 := hl
  have e := putL_elem (f := Iv.cells) (k := 7) (fun _ => rfl) l i ⟨x.lo, p, false⟩ hi
  have g := flatMap_get (f := Iv.cells) (k := 7) (fun _ => rfl) hx
  show _ = (l.set i ⟨x.lo, p, false⟩).flatMap Iv.cells
  rw [← e]
  obtain ⟨_, b⟩ := putL_get (Iv.cells ⟨x.lo, p, false⟩) (l.flatMap Iv.cells) (i * 7) (by rw [hl]; show i * 7 + 7 ≤ _; omega)
  refine List.ext_getElem? fun t => ?_
  rw [b]
  have h7 : (Iv.cells ⟨x.lo, p, false⟩).length = 7 := rfl
  rw [h7]
  simp only [List.getElem?_set, List.length_set, hl']
  by_cases c : i * 7 ≤ t ∧ t < i * 7 + 7
  · rw [if_pos c]
    have hj : ∃ j, j < 7 ∧ t = i * 7 + j := ⟨t - i * 7, by omega, by omega⟩
    obtain ⟨j, hj, rfl⟩ := hj
    have gj := g j hj
    have gj' : (ivsCells l)[i * 7 + j]? = (Iv.cells x)[j]? := gj
    rw [show i * 7 + j - i * 7 = j by omega]
    have : j = 0 ∨ j = 1 ∨ j = 2 ∨ j = 3 ∨ j = 4 ∨ j = 5 ∨ j = 6 := by omega
    rcases this with h | h | h | h | h | h | h <;> subst h
    all_goals simp [Iv.cells] at gj' ⊢
    all_goals first
      | exact gj'
      | omega
  · rw [if_neg c]
    rw [if_neg (by omega), if_neg (by omega), if_neg (by omega), if_neg (by omega)]
    rfl

theorem shutLast_set {l : List Iv} {x : Iv} {n : Nat} (hn : l.length = n + 1) (hx : l[n]? = some x) (p : Vl) : shutLast l p = l.set n ⟨x.lo, p, false⟩ := by
  rcases List.eq_nil_or_concat l with rfl | ⟨m, y, rfl⟩
  · simp at hn
  · rw [List.concat_eq_append] at *
    have hm : m.length = n := by simpa using hn
    subst hm
    have : y = x := by simpa using hx
    subst this
    rw [shutLast_snoc]
    simp

theorem ivs_append (l : List Iv) (x : Iv) : ivsCells l ++ x.cells = ivsCells (l ++ [x]) := by simp [ivsCells]

set_option maxRecDepth 100000 in
set_option maxHeartbeats 1000000 in
theorem merge_any (op : Bool → Bool → Bool) (kg : Nat) (lb : Array Value) (eg : ∀ args w, (callFunc kg args).run Tryd.prog w = .ok (.enter kg args) w) (hkeep : KeepAt kg lb op) (a b : List Iv) (A B : Option Addr) (n c m d : Nat) (w : World) (ha : IvsAt any w A n a) (hb : IvsAt any w B m b)
    (hn : n ≤ 1000000) (hm : m ≤ 1000000) (hnc : n ≤ c) (hmd : m ≤ d) (hc : c ≤ 9223372036854775807) (hd : d ≤ 9223372036854775807) :
    Calls Tryd.prog 41 #[.slice A n c, .slice B m d, .func (.func kg) #[] lb] w (Merged w.heap.size (mergeL op a b) w) := by
  have HA := Lib.hid ha; clear ha
  have HB := Lib.hid hb; clear hb
  have HK := Lib.hid hkeep; clear hkeep
  go_enter Tryd.func41, Tryd.ntmps41
  go_wp2_with fail
  refine (least_any _).mono ?_
  rintro e w1 ⟨rfl, hb1⟩
  have G0 : Hid (Gather w.heap.size (w1.heap.size + 1) [.slice A n c, .slice B m d] w [Vl.least] (.slice (some ⟨w1.heap.size, 0, none⟩) 1 1) ((w1.alloc (.cells Vl.least.cells.toArray 39)).alloc (.cells #[.slice A n c, .slice B m d] 29))) := by
    refine ⟨(World.ownsRow_lit w1 Vl.least.cells.toArray 1 hb1.size (by decide) rfl).alloc _, ?_, (hb1.alloc hb1.size _).alloc (by have := hb1.size; simp; omega) _, by have := hb1.size; simp; omega⟩
    have := heap_alloc_new (w1.alloc (.cells Vl.least.cells.toArray 39)) (.cells #[.slice A n c, .slice B m d] 29)
    simpa using this
  generalize hD : w1.heap.size + 1 = D at G0
  have HD := Lib.hid hD
  go_wp2_with fail
  go_loopw [7, 23] (fun v7 i wr => ∃ k : Nat, k ≤ 2 ∧ i = .int .i64 k ∧ Hid (Gather w.heap.size D [.slice A n c, .slice B m d] w (Vl.least :: (([a, b].take k).flatMap ends)) v7 wr)) (fun _ i _ => 2 - (intOf i).toNat)
  case atStart => exact ⟨0, by omega, rfl, G0⟩
  case round =>
    obtain ⟨k, hk, rfl, hG⟩ := hrel
    by_cases hlt : k < 2
    · obtain ⟨X, AX, nx, cx, hX, hcell, hnx, hnc, hcx, HX⟩ : ∃ X AX nx cx, Hid ([a, b][k]? = some X) ∧ wr.cell? ⟨D, k, none⟩ = some (.slice AX nx cx) ∧ nx ≤ 1000000 ∧ nx ≤ cx ∧ cx ≤ 9223372036854775807 ∧ Hid (IvsAt any w AX nx X) := by
        have kA := HA.out
        have kB := HB.out
        have : k = 0 ∨ k = 1 := by omega
        rcases this with e | e
        · subst e; exact ⟨a, A, n, c, rfl, hG.out.cell rfl, hn, hnc, hc, kA⟩
        · subst e; exact ⟨b, B, m, d, rfl, hG.out.cell rfl, hm, hmd, hd, kB⟩
      generalize hP : Vl.least :: (([a, b].take k).flatMap ends) = P at hG
      have HP := Lib.hid hP; clear hP
      have hPl : P.length ≤ 5000000 := by
        have h1 := HA.out.1
        have h2 := HB.out.1
        have h3 := ends_len a
        have h4 := ends_len b
        rw [← HP.out]
        have : k = 0 ∨ k = 1 := by omega
        rcases this with e | e <;> subst e <;> simp <;> omega
      have hd24 : decide ((k : Int) < 2) = true := by simp; omega
      go_wp2_with fail
      obtain ⟨wo, hwo⟩ : ∃ wo : World, wo = wr := ⟨_, rfl⟩
      subst hwo
      have hGb := hG.out.below
      go_loopw [7, 29] (fun v7 i wr => ∃ j : Nat, j ≤ nx ∧ i = .int .i64 j ∧ Hid (Gather w.heap.size D [.slice A n c, .slice B m d] w (P ++ ends (X.take j)) v7 wr)) (fun _ i _ => nx - (intOf i).toNat)
      case atStart => exact ⟨0, by omega, rfl, by simpa [ends] using hG⟩
      case round =>
        obtain ⟨j, hj, rfl, hG⟩ := hrel
        by_cases hlt2 : j < nx
        · have hlen := Lib.hid HX.out.1
          obtain ⟨x, hx⟩ : ∃ x, X[j]? = some x := ⟨X[j]'(by rw [hlen.out]; omega), List.getElem?_eq_getElem (by rw [hlen.out]; omega)⟩
          obtain ⟨bx, off, eA, _, hbl, q1, q2, q3, q4, q5, q6, q7⟩ := (HX.out.keep (Keeps.of_below hG.out.below)).get hx
          cases eA
          have hel := ends_len (X.take j)
          have hpl : (P ++ ends (X.take j)).length ≤ 8000000 := by rw [List.length_append]; rw [List.length_take] at hel; omega
          have HXx := Lib.hid hx; clear hx hel
          have hp := Box.made wr x.cells 41
          have hG1 := hG.out.alloc (.cells x.cells.toArray 41)
          have hne : Hid (wr.heap.size + 1 = (wr.alloc (.cells x.cells.toArray 41)).heap.size) := by simp [Hid]
          have HNE : Hid (∀ k, u7.ownBlock = some k → k < wr.heap.size) := fun k e => (hG.out.own.lt _ e).2
          have hby1 := bytes32 (Nat.le_trans hpl (show 8000000 ≤ 9000000 by decide))
          have hpl2 : (P ++ ends (X.take j) ++ [x.lo]).length ≤ 9000000 := by rw [List.length_append]; exact Nat.le_trans (Nat.add_le_add hpl (Nat.le_refl 1)) (by decide)
          have hby2 := bytes32 hpl2
          go_wp2_with (at_builtin; refine stop_ ?_)
          unfold Hid
          refine append_el w.heap.size rfl _ _ 58 39 (.agg #[.int .i64 0, .int .i64 0, .string ⟨#[]⟩]) 3 32 rfl Tryd.underlying58 info_v rfl (Nat.succ_pos _) (Nat.succ_pos _) u7 _ _ x.lo.cells rfl _ rfl hne.out rfl (vl_one _) hG1.own hG1.base hby1 ?_
          intro v1 w2 hown1 hgr1 hat1
          have hG2 := hG1.append hown1 hgr1
          have hp2 := hp.grown hgr1 (fun e => by have := HNE.out _ e; omega)
          obtain ⟨p1, p2, p3, p4, p5, p6, p7⟩ := hp2.iv
          clear hown1 hgr1 hat1 hG1 hp hne
          cases ho : x.op
          · go_wp2_with (at_builtin; refine stop_ ?_)
            unfold Hid
            refine append_el w.heap.size rfl _ _ 58 39 (.agg #[.int .i64 0, .int .i64 0, .string ⟨#[]⟩]) 3 32 rfl Tryd.underlying58 info_v rfl (Nat.succ_pos _) (Nat.succ_pos _) v1 _ _ x.hi.cells rfl _ rfl rfl rfl (vl_one _) hG2.own hG2.base hby2 ?_
            intro v2 w3 hown2 hgr2 hat2
            have hG3 := hG2.append hown2 hgr2
            have e1 : P ++ ends (X.take j) ++ [x.lo] ++ [x.hi] = P ++ ends (X.take (j + 1)) := by rw [ends_take_succ HXx.out, ho]; simp
            rw [e1] at hG3
            clear hown2 hgr2 hat2 e1 hG2
            go_wp2_with fail
            go_roundw
            case rel => exact ⟨j + 1, by omega, by go_num, hG3⟩
            case measure => simp [intOf]; omega
          · have e1 : P ++ ends (X.take j) ++ [x.lo] = P ++ ends (X.take (j + 1)) := by rw [ends_take_succ HXx.out, ho]; simp
            rw [e1] at hG2
            clear e1
            go_wp2_with fail
            go_roundw
            case rel => exact ⟨j + 1, by omega, by go_num, hG2⟩
            case measure => simp [intOf]; omega
        · go_wp2_with fail
          go_roundw
          case rel =>
            have hj2 : j = X.length := by have := HX.out.1; omega
            have e1 : P ++ ends (X.take j) = Vl.least :: (([a, b].take (k + 1)).flatMap ends) := by
              rw [hj2, List.take_length, ← HP.out]
              have e2 := hX.out
              have : k = 0 ∨ k = 1 := by omega
              rcases this with e | e
              · subst e; simp at e2; subst e2; simp
              · subst e; simp at e2; subst e2; simp
            rw [e1] at hG
            exact ⟨k + 1, by omega, by go_num, hG⟩
          case measure => simp [intOf]; omega
    · have ek : k = 2 := by omega
      subst ek
      have hown := hG.out.own
      have hP : Hid (Vl.least :: (([a, b].take 2).flatMap ends) = Vl.least :: (ends a ++ ends b)) := by simp [Hid]
      rw [hP.out] at hown
      obtain ⟨g, cap, hv, hcap⟩ : ∃ g cap, u7 = .slice (some ⟨g, 0, none⟩) (Vl.least :: (ends a ++ ends b)).length cap ∧ (Vl.least :: (ends a ++ ends b)).length ≤ cap ∧ cap ≤ 9223372036854775807 := by
        rcases hown.2 with ⟨_, h0⟩ | ⟨g, cap, cur, e, _, _, h1, h2, _⟩
        · simp at h0
        · exact ⟨g, cap, e, h1, h2⟩
      subst hv
      have hlen : (Vl.least :: (ends a ++ ends b)).length < 4611686018427387904 := by
        have h1 := HA.out.1
        have h2 := HB.out.1
        have h3 := ends_len a
        have h4 := ends_len b
        rw [List.length_cons, List.length_append]; omega
      generalize hPd : Vl.least :: (ends a ++ ends b) = P at *
      have HPd := Lib.hid hPd
      have HOWN := Lib.hid hown
      have hbw := hG.out.below
      clear hown hG hP hPd
      go_wp2_with fail
      refine (sortV_any w.heap.size P g cap _ HOWN.out hlen).mono ?_
      rintro e w2 ⟨rfl, P2, hperm, hsort, hown2, hg2⟩
      have hl2 := hperm.length_eq
      go_wp2_with fail
      refine (compactV_n w.heap.size P2 P.length g cap _ hl2 hown2 (by omega) hcap.1 hcap.2).mono ?_
      rintro e w3 ⟨m3, hm3, rfl, hown3, hg3⟩
      have hpts : dd P2 P2.length = mpoints a b := by rw [dd_sortU hperm hsort, mpoints, HPd.out]
      rw [hpts] at hm3 hown3
      have hgb : w.heap.size ≤ g := (HOWN.out.lt g rfl).1
      have hb3 : Below w.heap.size w w3 := (hbw.grown hg2 hbw.size (fun k e => by cases e; exact hgb)).grown hg3 (Nat.le_trans hbw.size hg2.size) (fun k e => by cases e; exact hgb)
      have hmP : m3 ≤ P.length := by rw [hm3, ← hpts, ← hl2]; exact dd_len _ _
      have hPb : P.length ≤ 5000000 := by
        have h1 := HA.out.1
        have h2 := HB.out.1
        have h3 := ends_len a
        have h4 := ends_len b
        rw [← HPd.out, List.length_cons, List.length_append]; omega
      have O3 := Lib.hid hown3
      have M3 := Lib.hid hm3
      clear hown3 hm3 hpts hown2 hg2 hg3 hperm hsort hl2 hbw HOWN hlen
      clear hk hlt hcap
      generalize hpt : mpoints a b = pts at O3 M3
      have HPT := Lib.hid hpt
      clear hpt
      go_wp2_with fail
      go_loopw [12, 13, 54] (fun u12 u13 u54 wr => ∃ (k : Nat) (L : List Iv) (o : Bool), k ≤ m3 ∧ u54 = .int .i64 k ∧ u13 = .bool o ∧ L.length ≤ k ∧ Hid (wr.ownsRow w.heap.size 41 7 u12 L.length (ivsCells L)) ∧ Hid (msweep (mergeF op a b) (pts.drop k) L o = mergeL op a b) ∧ Hid (o = true → L ≠ []) ∧
        Hid (wr.ownsRow w.heap.size 39 3 (.slice (some ⟨g, 0, none⟩) m3 cap) m3 (pts.flatMap Vl.cells)) ∧ Below w.heap.size w wr) (fun _ _ i _ => m3 - (intOf i).toNat)
      case atStart => exact ⟨0, [], false, by omega, rfl, rfl, by simp, World.ownsRow_nil _ _ _ _, by rw [← HPT.out]; rfl, fun c => (by cases c), O3, hb3⟩
      case round =>
        obtain ⟨k, L, o, hk, rfl, rfl, hLk, hO, hS, hN, hQ, hbr⟩ := hrel
        by_cases hlt : k < m3
        · obtain ⟨pt, hpt⟩ : ∃ pt, pts[k]? = some pt := ⟨pts[k]'(by rw [← M3.out]; exact hlt), List.getElem?_eq_getElem (by rw [← M3.out]; exact hlt)⟩
          obtain ⟨x1, x2, x3⟩ := own_vl hQ.out hpt
          have hp : Box (wr.alloc (.cells #[.int .i64 pt.kind, .int .i64 pt.num, .string pt.text] 39)) wr.heap.size pt.cells := Box.made wr pt.cells 39
          have HPTk := Lib.hid hpt; clear hpt
          have hbW : Below w.heap.size w (wr.alloc (.cells #[.int .i64 pt.kind, .int .i64 pt.num, .string pt.text] 39)) := hbr.alloc hbr.size _
          have hab : ∀ p : Since (wr.alloc (.cells #[.int .i64 pt.kind, .int .i64 pt.num, .string pt.text] 39)), Below w.heap.size w p.w' := fun p => below_call hbW p.h
          have IA : Hid (∀ p : Since (wr.alloc (.cells #[.int .i64 pt.kind, .int .i64 pt.num, .string pt.text] 39)), IvsAt any p.w' A n a) := fun p => HA.out.keep (Keeps.of_below (hab p))
          have IB : Hid (∀ p : Since (wr.alloc (.cells #[.int .i64 pt.kind, .int .i64 pt.num, .string pt.text] 39)), IvsAt any p.w' B m b) := fun p => HB.out.keep (Keeps.of_below (hab p))
          have r1 := fun p : Since (wr.alloc (.cells #[.int .i64 pt.kind, .int .i64 pt.num, .string pt.text] 39)) => p.cell hp.vl.1
          have r2 := fun p : Since (wr.alloc (.cells #[.int .i64 pt.kind, .int .i64 pt.num, .string pt.text] 39)) => p.cell hp.vl.2.1
          have r3 := fun p : Since (wr.alloc (.cells #[.int .i64 pt.kind, .int .i64 pt.num, .string pt.text] 39)) => p.cell hp.vl.2.2
          clear hab
          go_wp2_with fail
          clear x1 x2 x3
          refine wp_region_since (by kernel_rfl) (by kernel_rfl) ?_
          repeat (any_goals (first | go_big_quiet_step (first | (with_reducible exact Since.call (contains_any a pt A n c _ (IA.out _) hnc hc)) | (with_reducible exact Since.call (contains_any b pt B m d _ (IB.out _) hmd hd)) | (exact Since.call (HK.out _ _ _))) | quiet_step (first | (with_reducible exact Since.call (contains_any a pt A n c _ (IA.out _) hnc hc)) | (with_reducible exact Since.call (contains_any b pt B m d _ (IB.out _) hmd hd)) | (exact Since.call (HK.out _ _ _)))))
          refine wpQuiet_nil ?_
          intro w4 hw4
          obtain ⟨p4, hp4⟩ := hw4
          have hq := p4.h
          rw [← hp4] at hq
          clear hp4 p4
          have hb4 := below_call hbW hq
          obtain ⟨p1, p2, p3⟩ := (hp.later hq).vl
          have hpl := (hp.later hq).1
          have hO4 : Hid (w4.ownsRow w.heap.size 41 7 u12 L.length (ivsCells L)) := pw_own (hO.out.alloc _) hq
          have hQ4 : Hid (w4.ownsRow w.heap.size 39 3 (.slice (some ⟨g, 0, none⟩) m3 cap) m3 (pts.flatMap Vl.cells)) := pw_own (hQ.out.alloc _) hq
          have hlt12 : Hid (∀ j, u12.ownBlock = some j → j < wr.heap.size) := fun j e => (hO.out.lt j e).2
          have hapart : Hid (u12.ownBlock = none ∨ u12.ownBlock ≠ some g) := own_apart hO4.out hQ4.out (by decide)
          generalize hi : op (decide (has a pt)) (decide (has b pt)) = i
          have HI : Hid (mergeF op a b pt = i) := hi
          have hS2 : Hid (msweep (mergeF op a b) (pts.drop (k + 1)) (mstep L o pt i) i = mergeL op a b) := by
            have e := hS.out
            obtain ⟨hk1, e1⟩ := List.getElem?_eq_some_iff.1 HPTk.out
            rw [List.drop_eq_getElem_cons hk1, e1, msweep, HI.out] at e
            exact e
          clear hi hbW hq hO hQ hS r1 r2 r3 IA IB hp hbr
          cases i
          · cases o
            · have e1 : mstep L false pt false = L := by simp [mstep]
              rw [e1] at hS2
              clear e1
              go_wp2_with fail
              go_roundw
              case rel => exact ⟨k + 1, L, false, by omega, by go_num, rfl, by omega, hO4, hS2, fun c => (by cases c), hQ4, hb4⟩
              case measure => simp [intOf]; omega
            · have hLne : L ≠ [] := hN rfl
              obtain ⟨n1, hn1⟩ : ∃ n1, L.length = n1 + 1 := ⟨L.length - 1, by have := List.length_pos_iff.2 hLne; omega⟩
              obtain ⟨x, hx⟩ : ∃ x, L[n1]? = some x := ⟨L[n1], List.getElem?_eq_getElem (by omega)⟩
              obtain ⟨h, cap12, hv⟩ : ∃ h cap12, u12 = .slice (some ⟨h, 0, none⟩) L.length cap12 := by
                rcases hO4.out.2 with ⟨_, h0⟩ | ⟨h, cap12, cur, e, _⟩
                · omega
                · exact ⟨h, cap12, e⟩
              subst hv
              have hlth := hlt12 h rfl
              have hgh : h ≠ g := by
                rcases hapart.out with e | e
                · cases e
                · exact fun c => e (by rw [c]; rfl)
              have e1 : mstep L true pt false = L.set n1 ⟨x.lo, pt, false⟩ := by rw [← shutLast_set hn1 hx]; simp [mstep]
              rw [e1] at hS2
              have hst := iv_store L n1 x pt hx
              have hl7 : (ivsCells L).length = L.length * 7 := flatMap_len (f := Iv.cells) (k := 7) (fun _ => rfl) L
              obtain ⟨s1, t1⟩ := hO4.out.stored (n1 * 7 + 6) (.bool false)
              obtain ⟨s2, t2⟩ := s1.stored (n1 * 7 + 3) (.int .i64 pt.kind)
              obtain ⟨s3, t3⟩ := s2.stored (n1 * 7 + 4) (.int .i64 pt.num)
              obtain ⟨s4, t4⟩ := s3.stored (n1 * 7 + 5) (.string pt.text)
              have tt := ((t1.trans t2).trans t3).trans t4
              rw [hst] at s4
              have hQ5 := hQ4.out.kept tt (.inr (fun c => hgh (by simpa [Value.ownBlock] using c.symm)))
              have hb5 := hb4.grown tt hb4.size (fun j e => by cases e; exact (hO4.out.lt h rfl).1)
              have cell := fun j (hj : j < L.length * 7) => (hO4.out.cellAt j hj).trans (List.getElem?_eq_getElem (by rw [hl7]; exact hj))
              have c3 := cell (n1 * 7 + 3) (by omega)
              have c4 := cell (n1 * 7 + 4) (by omega)
              have c5 := cell (n1 * 7 + 5) (by omega)
              have c6 := cell (n1 * 7 + 6) (by omega)
              have f3 := hO4.out.frozenAt (n1 * 7 + 3)
              have f4 := hO4.out.frozenAt (n1 * 7 + 4)
              have f5 := hO4.out.frozenAt (n1 * 7 + 5)
              have f6 := hO4.out.frozenAt (n1 * 7 + 6)
              generalize (ivsCells L)[n1 * 7 + 3]'(by omega) = z3 at c3
              generalize (ivsCells L)[n1 * 7 + 4]'(by omega) = z4 at c4
              generalize (ivsCells L)[n1 * 7 + 5]'(by omega) = z5 at c5
              generalize (ivsCells L)[n1 * 7 + 6]'(by omega) = z6 at c6
              have S4 := Lib.hid s4
              have B5 := Lib.hid hb5
              have Q5 := Lib.hid hQ5
              have HN1 := Lib.hid hn1
              clear s1 s2 s3 s4 t1 t2 t3 t4 tt hst e1 hl7 cell hx hb5 hQ5 hO4 hQ4 hb4
              generalize hLl : L.length = ll at *
              have hll : Hid (ll = n1 + 1) := HN1
              clear HN1
              obtain rfl : ll = n1 + 1 := hll
              have e6 : Hid ((L.set n1 ⟨x.lo, pt, false⟩).length = n1 + 1) := by unfold Hid; rw [List.length_set]; exact hLl
              clear hLl
              go_wp2_with fail
              go_roundw
              case rel => exact ⟨k + 1, L.set n1 ⟨x.lo, pt, false⟩, false, by omega, by go_num, rfl, by rw [e6.out]; omega, by unfold Hid; rw [e6.out]; exact S4.out, hS2, fun c => (by cases c), Q5.out, B5.out⟩
              case measure => simp [intOf]; omega
          · cases o
            · have hby := bytes72 (show L.length ≤ 9000000 by omega)
              have e1 : mstep L false pt true = L ++ [(⟨pt, .zero, true⟩ : Iv)] := by simp [mstep]
              rw [e1] at hS2
              clear e1
              go_wp2_with (at_builtin; refine stop_ ?_)
              unfold Hid
              refine append_el w.heap.size rfl _ _ 29 41 (.agg #[.int .i64 0, .int .i64 0, .string ⟨#[]⟩, .int .i64 0, .int .i64 0, .string ⟨#[]⟩, .bool false]) 7 72 rfl Tryd.underlying29 info_iv rfl (Nat.succ_pos _) (Nat.succ_pos _) u12 _ _ (Iv.cells ⟨pt, .zero, true⟩) rfl _ rfl rfl rfl (iv_one _) hO4.out hb4.size hby ?_
              intro v1 w5 hown1 hgr1 hat1
              have hO5 : Hid (w5.ownsRow w.heap.size 41 7 v1 (L ++ [(⟨pt, .zero, true⟩ : Iv)]).length (ivsCells (L ++ [(⟨pt, .zero, true⟩ : Iv)]))) := by
                have e5 : (L ++ [(⟨pt, .zero, true⟩ : Iv)]).length = L.length + 1 := by simp
                unfold Hid
                rw [e5, ← ivs_append]
                exact hown1
              have hQ5 := hQ4.out.kept hgr1 (by rcases hapart.out with e | e; exact .inr (fun c => by rw [e] at c; cases c); exact .inr (fun c => e c.symm))
              have hb5 := hb4.grown hgr1 hb4.size (fun j e => (hO4.out.lt j e).1)
              clear hown1 hgr1 hat1
              go_wp2_with fail
              go_roundw
              case rel => exact ⟨k + 1, L ++ [(⟨pt, .zero, true⟩ : Iv)], true, by omega, by go_num, rfl, by simp; omega, hO5, hS2, fun _ => by simp, hQ5, hb5⟩
              case measure => simp [intOf]; omega
            · have e1 : mstep L true pt true = L := by simp [mstep]
              rw [e1] at hS2
              clear e1
              go_wp2_with fail
              go_roundw
              case rel => exact ⟨k + 1, L, true, by omega, by go_num, rfl, by omega, hO4, hS2, hN, hQ4, hb4⟩
              case measure => simp [intOf]; omega
        · have e1 : k = m3 := by omega
          have e2 := hS.out
          rw [e1, M3.out, List.drop_length, msweep] at e2
          go_wp2_with fail
          go_ret
          exact ⟨u12, rfl, by unfold OwnIvs; rw [← e2]; exact hO, hbr⟩

theorem OwnIvs.at_ {base : Nat} {w : World} {v : Value} {L : List Iv} (h : OwnIvs base w v L) : ∃ A c, v = .slice A L.length c ∧ IvsAt any w A L.length L ∧ L.length ≤ c ∧ c ≤ 9223372036854775807 := by
  have hl : (ivsCells L).length = L.length * 7 := flatMap_len (f := Iv.cells) (k := 7) (fun _ => rfl) L
  rcases h.2 with ⟨e, h0⟩ | ⟨g, cap, cur, e, hb, hg, h1, h2, _⟩
  · have : L = [] := List.eq_nil_of_length_eq_zero h0
    subst this
    exact ⟨none, 0, e, ⟨rfl, .inl rfl⟩, by simp, by omega⟩
  · subst e
    refine ⟨some ⟨g, 0, none⟩, cap, rfl, ⟨rfl, .inr ⟨g, 0, rfl, trivial, (h.lt g rfl).2, fun i c hc => ?_⟩⟩, h1, h2⟩
    have hi : i < L.length * 7 := by
      rw [← hl]
      exact (List.getElem?_eq_some_iff.1 hc).1
    rw [Nat.zero_add]
    exact (h.cellAt i hi).trans hc

/-- interval.Intersect, as its callers need it. -/
def Meets (a b : List Iv) (w : World) (e : Ending) (w' : World) : Prop := ∃ (A : Option Addr) (n c : Nat) (z : Int), e = .returned (.tuple #[.slice A n c, .int .i64 z]) ∧ (z = 0 ∧ n = 0 ↔ ∀ v, has a v → ¬ has b v) ∧ Below w.heap.size w w'

end Go.Proofs.YtbkgmahpfghheaaDoor
