/- Contract of region.segments: the sorted bounds of both lists of spans. -/
import Derived.Test.YtbkgmahpfghheaaDoorWn
namespace Go.Proofs.YtbkgmahpfghheaaDoor
open Go.RowKit
open Ps

/-- The points while they are gathered. -/
structure GatherS (base D : Nat) (cs : List Value) (w : World) (P : List Vl) (v : Value) (wr : World) : Prop where
  own : wr.ownsRow base 39 3 v P.length (P.flatMap Vl.cells)
  blk : wr.heap[D]? = some (.cells cs.toArray 56 (0, 0))
  below : Below base w wr
  base : base ≤ wr.heap.size

theorem GatherS.ne {base D : Nat} {cs : List Value} {w : World} {P : List Vl} {v : Value} {wr : World} (h : GatherS base D cs w P v wr) : v.ownBlock ≠ some D := by
  intro e
  rcases h.own.2 with ⟨rfl, _⟩ | ⟨g, cap, cur, rfl, _, hh, _⟩
  · simp [Value.ownBlock] at e
  · have : g = D := by simpa [Value.ownBlock] using e
    subst this
    rw [h.blk] at hh
    injection hh with hh
    injection hh with _ ht _
    exact absurd ht (by decide)

theorem GatherS.alloc {base D : Nat} {cs : List Value} {w : World} {P : List Vl} {v : Value} {wr : World} (h : GatherS base D cs w P v wr) (o : Obj) : GatherS base D cs w P v (wr.alloc o) := by
  refine ⟨h.own.alloc o, ?_, h.below.alloc h.base o, by have := h.base; simp; omega⟩
  rw [Below.heap_alloc _ _ _ (Array.getElem?_eq_some_iff.1 h.blk).1]
  exact h.blk

theorem GatherS.append {base D : Nat} {cs : List Value} {w : World} {P : List Vl} {v : Value} {wr : World} (h : GatherS base D cs w P v wr) {x : Vl} {v1 : Value} {w1 : World} (h1 : w1.ownsRow base 39 3 v1 (P.length + 1) (P.flatMap Vl.cells ++ x.cells)) (h2 : wr.grownBy w1 v.ownBlock) :
    GatherS base D cs w (P ++ [x]) v1 w1 := by
  refine ⟨by simpa using h1, ?_, h.below.grown h2 h.base (fun k hk => (h.own.lt k hk).1), Nat.le_trans h.base h2.size⟩
  rw [h2.block D (Array.getElem?_eq_some_iff.1 h.blk).1 (fun e => h.ne e.symm)]
  exact h.blk

theorem GatherS.cell {base D : Nat} {cs : List Value} {w : World} {P : List Vl} {v : Value} {wr : World} (h : GatherS base D cs w P v wr) {j : Nat} {u : Value} (hu : cs[j]? = some u) : wr.cell? ⟨D, j, none⟩ = some u := by
  simp only [World.cell?, h.blk]
  simpa using hu


def sends (l : List Sp) : List Vl := l.flatMap fun s => if s.1.op then [s.1.lo] else [s.1.lo, s.1.hi]
theorem sends_take_succ {l : List Sp} {k : Nat} {x : Sp} (h : l[k]? = some x) : sends (l.take (k + 1)) = sends (l.take k) ++ (if x.1.op then [x.1.lo] else [x.1.lo, x.1.hi]) := by
  obtain ⟨hk, rfl⟩ := List.getElem?_eq_some_iff.1 h
  unfold sends
  rw [List.take_succ_eq_append_getElem hk, List.flatMap_append]
  simp only [List.flatMap_cons, List.flatMap_nil, List.append_nil]
theorem sends_len (l : List Sp) : (sends l).length ≤ 2 * l.length := by
  induction l with
  | nil => simp [sends]
  | cons x l ih =>
    have : sends (x :: l) = (if x.1.op then [x.1.lo] else [x.1.lo, x.1.hi]) ++ sends l := by simp [sends]
    rw [this, List.length_append, List.length_cons]
    split <;> simp <;> omega

def SpIn (B : Nat) (w : World) (A : Option Addr) (n : Nat) (l : List Sp) : Prop := l.length = n ∧ At (· < B) w A (spCells l)
theorem SpIn.across {B : Nat} {w w' : World} {A : Option Addr} {n : Nat} {l : List Sp} (h : SpIn B w A n l) (hB : B ≤ w'.heap.size) (hk : ∀ k, k < B → w'.heap[k]? = w.heap[k]?) : SpIn B w' A n l := by
  refine ⟨h.1, ?_⟩
  rcases h.2 with h | ⟨b, off, e, o, hb, h⟩
  · exact .inl h
  · exact .inr ⟨b, off, e, o, Nat.lt_of_lt_of_le o hB, fun i c hc => (World.cell?_of_block (w := w) (hk b o)).trans (h i c hc)⟩
theorem SpIn.of {ok : Nat → Prop} {w : World} {A : Option Addr} {n : Nat} {l : List Sp} (h : SpAt ok w A n l) : SpIn w.heap.size w A n l := ⟨h.1, h.2.mono fun _ hi _ => hi⟩
theorem SpIn.get {B : Nat} {w : World} {A : Option Addr} {n : Nat} {l : List Sp} (h : SpIn B w A n l) {i : Nat} {s : Sp} (hx : l[i]? = some s) :
    ∃ b off, A = some ⟨b, off, none⟩ ∧ b < w.heap.size ∧ w.cell? ⟨b, off + i * 8, none⟩ = some (.int .i64 s.1.lo.kind) ∧ w.cell? ⟨b, off + i * 8 + 1, none⟩ = some (.int .i64 s.1.lo.num) ∧ w.cell? ⟨b, off + i * 8 + 2, none⟩ = some (.string s.1.lo.text) ∧
      w.cell? ⟨b, off + i * 8 + 3, none⟩ = some (.int .i64 s.1.hi.kind) ∧ w.cell? ⟨b, off + i * 8 + 4, none⟩ = some (.int .i64 s.1.hi.num) ∧ w.cell? ⟨b, off + i * 8 + 5, none⟩ = some (.string s.1.hi.text) ∧ w.cell? ⟨b, off + i * 8 + 6, none⟩ = some (.bool s.1.op) ∧ w.cell? ⟨b, off + i * 8 + 7, none⟩ = some (.int .i64 s.2) :=
  SpAt.get (ok := any) ⟨h.1, h.2.mono fun _ _ _ => trivial⟩ hx

theorem Box.sp {w : World} {B : Nat} {x : Sp} (h : Box w B (Sp.cells x)) : w.cell? ⟨B, 0, none⟩ = some (.int .i64 x.1.lo.kind) ∧ w.cell? ⟨B, 1, none⟩ = some (.int .i64 x.1.lo.num) ∧ w.cell? ⟨B, 2, none⟩ = some (.string x.1.lo.text) ∧
    w.cell? ⟨B, 3, none⟩ = some (.int .i64 x.1.hi.kind) ∧ w.cell? ⟨B, 4, none⟩ = some (.int .i64 x.1.hi.num) ∧ w.cell? ⟨B, 5, none⟩ = some (.string x.1.hi.text) ∧ w.cell? ⟨B, 6, none⟩ = some (.bool x.1.op) ∧ w.cell? ⟨B, 7, none⟩ = some (.int .i64 x.2) :=
  ⟨h.2 0 _ rfl, h.2 1 _ rfl, h.2 2 _ rfl, h.2 3 _ rfl, h.2 4 _ rfl, h.2 5 _ rfl, h.2 6 _ rfl, h.2 7 _ rfl⟩

/-- A row of values of the call's own. -/
def SegPost (pts : List Vl) (w : World) (e : Ending) (w' : World) : Prop :=
  ∃ g c, e = .returned (.slice (some ⟨g, 0, none⟩) pts.length c) ∧ w'.ownsRow w.heap.size 39 3 (.slice (some ⟨g, 0, none⟩) pts.length c) pts.length (pts.flatMap Vl.cells) ∧ Below w.heap.size w w'

set_option maxRecDepth 100000 in
set_option maxHeartbeats 1000000 in
theorem segments_any (ok ok' : Nat → Prop) (a b : List Sp) (A B : Option Addr) (n c m d : Nat) (w : World) (ha : SpAt ok w A n a) (hb : SpAt ok' w B m b)
    (hn : n ≤ 1000000) (hm : m ≤ 1000000) (hnc : n ≤ c) (hmd : m ≤ d) (hc : c ≤ 9223372036854775807) (hd : d ≤ 9223372036854775807) :
    Calls Tryd.prog 22 #[.slice A n c, .slice B m d] w (SegPost (sortU (Vl.least :: (sends a ++ sends b))) w) := by
  have HA := Lib.hid (SpIn.of ha); clear ha
  have HB := Lib.hid (SpIn.of hb); clear hb
  go_enter Tryd.func22, Tryd.ntmps22
  have G0 : Hid (GatherS w.heap.size (w.heap.size + 1) [.slice A n c, .slice B m d] w [Vl.least] (.slice (some ⟨w.heap.size, 0, none⟩) 1 1) ((w.alloc (.cells Vl.least.cells.toArray 39)).alloc (.cells #[.slice A n c, .slice B m d] 56))) := by
    refine ⟨(World.ownsRow_lit w Vl.least.cells.toArray 1 (Nat.le_refl _) (by decide) rfl).alloc _, ?_, ((Below.refl _ _).alloc (Nat.le_refl _) _).alloc (by simp) _, by simp; omega⟩
    have := heap_alloc_new (w.alloc (.cells Vl.least.cells.toArray 39)) (.cells #[.slice A n c, .slice B m d] 56)
    simpa using this
  generalize hD : w.heap.size + 1 = D at G0
  have HD := Lib.hid hD
  go_wp2_with fail
  go_loopw [5, 16] (fun v7 i wr => ∃ k : Nat, k ≤ 2 ∧ i = .int .i64 k ∧ Hid (GatherS w.heap.size D [.slice A n c, .slice B m d] w (Vl.least :: (([a, b].take k).flatMap sends)) v7 wr)) (fun _ i _ => 2 - (intOf i).toNat)
  case atStart => exact ⟨0, by omega, rfl, G0⟩
  case round =>
    obtain ⟨k, hk, rfl, hG⟩ := hrel
    by_cases hlt : k < 2
    · obtain ⟨X, AX, nx, cx, hX, hcell, hnx, hnc, hcx, HX⟩ : ∃ X AX nx cx, Hid ([a, b][k]? = some X) ∧ wr.cell? ⟨D, k, none⟩ = some (.slice AX nx cx) ∧ nx ≤ 1000000 ∧ nx ≤ cx ∧ cx ≤ 9223372036854775807 ∧ Hid (SpIn w.heap.size w AX nx X) := by
        have kA := HA.out
        have kB := HB.out
        have : k = 0 ∨ k = 1 := by omega
        rcases this with e | e
        · subst e; exact ⟨a, A, n, c, rfl, hG.out.cell rfl, hn, hnc, hc, kA⟩
        · subst e; exact ⟨b, B, m, d, rfl, hG.out.cell rfl, hm, hmd, hd, kB⟩
      generalize hP : Vl.least :: (([a, b].take k).flatMap sends) = P at hG
      have HP := Lib.hid hP; clear hP
      have hPl : P.length ≤ 5000000 := by
        have h1 := HA.out.1
        have h2 := HB.out.1
        have h3 := sends_len a
        have h4 := sends_len b
        rw [← HP.out]
        have : k = 0 ∨ k = 1 := by omega
        rcases this with e | e <;> subst e <;> simp <;> omega
      have hd24 : decide ((k : Int) < 2) = true := by simp; omega
      go_wp2_with fail
      obtain ⟨wo, hwo⟩ : ∃ wo : World, wo = wr := ⟨_, rfl⟩
      subst hwo
      have hGb := hG.out.below
      go_loopw [5, 22] (fun v7 i wr => ∃ j : Nat, j ≤ nx ∧ i = .int .i64 j ∧ Hid (GatherS w.heap.size D [.slice A n c, .slice B m d] w (P ++ sends (X.take j)) v7 wr)) (fun _ i _ => nx - (intOf i).toNat)
      case atStart => exact ⟨0, by omega, rfl, by simpa [sends] using hG⟩
      case round =>
        obtain ⟨j, hj, rfl, hG⟩ := hrel
        by_cases hlt2 : j < nx
        · have hlen := Lib.hid HX.out.1
          obtain ⟨x, hx⟩ : ∃ x, X[j]? = some x := ⟨X[j]'(by rw [hlen.out]; omega), List.getElem?_eq_getElem (by rw [hlen.out]; omega)⟩
          obtain ⟨bx, off, eA, hbl, q1, q2, q3, q4, q5, q6, q7, q8⟩ := (HX.out.across hG.out.base (fun k hk => hG.out.below.block k hk)).get hx
          cases eA
          have hel := sends_len (X.take j)
          have hpl : (P ++ sends (X.take j)).length ≤ 8000000 := by rw [List.length_append]; rw [List.length_take] at hel; omega
          have HXx := Lib.hid hx; clear hx hel
          have hp := Box.made wr (Sp.cells x) 73
          have hG1 := hG.out.alloc (.cells (Sp.cells x).toArray 73)
          have hne : Hid (wr.heap.size + 1 = (wr.alloc (.cells (Sp.cells x).toArray 73)).heap.size) := by simp [Hid]
          have HNE : Hid (∀ k, u5.ownBlock = some k → k < wr.heap.size) := fun k e => (hG.out.own.lt _ e).2
          have hby1 := bytes32 (Nat.le_trans hpl (show 8000000 ≤ 9000000 by decide))
          have hpl2 : (P ++ sends (X.take j) ++ [x.1.lo]).length ≤ 9000000 := by rw [List.length_append]; exact Nat.le_trans (Nat.add_le_add hpl (Nat.le_refl 1)) (by decide)
          have hby2 := bytes32 hpl2
          go_wp2_with (at_builtin; refine stop_ ?_)
          unfold Hid
          refine append_el w.heap.size rfl _ _ 58 39 (.agg #[.int .i64 0, .int .i64 0, .string ⟨#[]⟩]) 3 32 rfl Tryd.underlying58 info_v rfl (Nat.succ_pos _) (Nat.succ_pos _) u5 _ _ x.1.lo.cells rfl _ rfl hne.out rfl (vl_one _) hG1.own hG1.base hby1 ?_
          intro v1 w2 hown1 hgr1 hat1
          have hG2 := hG1.append hown1 hgr1
          have hp2 := hp.grown hgr1 (fun e => by have := HNE.out _ e; omega)
          obtain ⟨p1, p2, p3, p4, p5, p6, p7, p8⟩ := Box.sp hp2
          clear hown1 hgr1 hat1 hG1 hp hne
          cases ho : x.1.op
          · go_wp2_with (at_builtin; refine stop_ ?_)
            unfold Hid
            refine append_el w.heap.size rfl _ _ 58 39 (.agg #[.int .i64 0, .int .i64 0, .string ⟨#[]⟩]) 3 32 rfl Tryd.underlying58 info_v rfl (Nat.succ_pos _) (Nat.succ_pos _) v1 _ _ x.1.hi.cells rfl _ rfl rfl rfl (vl_one _) hG2.own hG2.base hby2 ?_
            intro v2 w3 hown2 hgr2 hat2
            have hG3 := hG2.append hown2 hgr2
            have e1 : P ++ sends (X.take j) ++ [x.1.lo] ++ [x.1.hi] = P ++ sends (X.take (j + 1)) := by rw [sends_take_succ HXx.out, ho]; simp
            rw [e1] at hG3
            clear hown2 hgr2 hat2 e1 hG2
            go_wp2_with fail
            go_roundw
            case rel => exact ⟨j + 1, by omega, by go_num, hG3⟩
            case measure => simp [intOf]; omega
          · have e1 : P ++ sends (X.take j) ++ [x.1.lo] = P ++ sends (X.take (j + 1)) := by rw [sends_take_succ HXx.out, ho]; simp
            rw [e1] at hG2
            clear e1
            go_wp2_with fail
            go_roundw
            case rel => exact ⟨j + 1, by omega, by go_num, hG2⟩
            case measure => simp [intOf]; omega
        · go_wp2_with fail
          go_roundw
          case rel =>
            have hj2 : j = X.length := by have := HX.out.1; omega
            have e1 : P ++ sends (X.take j) = Vl.least :: (([a, b].take (k + 1)).flatMap sends) := by
              rw [hj2, List.take_length, ← HP.out]
              have e2 := hX.out
              have : k = 0 ∨ k = 1 := by omega
              rcases this with e | e
              · subst e; simp at e2; subst e2; simp
              · subst e; simp at e2; subst e2; simp
            rw [e1] at hG
            exact ⟨k + 1, by omega, by go_num, hG⟩
          case measure => simp [intOf]; omega
    · have ek : k = 2 := by omega
      subst ek
      have hown := hG.out.own
      have hP : Hid (Vl.least :: (([a, b].take 2).flatMap sends) = Vl.least :: (sends a ++ sends b)) := by simp [Hid]
      rw [hP.out] at hown
      obtain ⟨g, cap, hv, hcap⟩ : ∃ g cap, u5 = .slice (some ⟨g, 0, none⟩) (Vl.least :: (sends a ++ sends b)).length cap ∧ (Vl.least :: (sends a ++ sends b)).length ≤ cap ∧ cap ≤ 9223372036854775807 := by
        rcases hown.2 with ⟨_, h0⟩ | ⟨g, cap, cur, e, _, _, h1, h2, _⟩
        · simp at h0
        · exact ⟨g, cap, e, h1, h2⟩
      subst hv
      have hlen : (Vl.least :: (sends a ++ sends b)).length < 4611686018427387904 := by
        have h1 := HA.out.1
        have h2 := HB.out.1
        have h3 := sends_len a
        have h4 := sends_len b
        rw [List.length_cons, List.length_append]; omega
      generalize hPd : Vl.least :: (sends a ++ sends b) = P at *
      have HPd := Lib.hid hPd
      have HOWN := Lib.hid hown
      have hbw := hG.out.below
      clear hown hG hP hPd
      go_wp2_with fail
      refine (sortV_any w.heap.size P g cap _ HOWN.out hlen).mono ?_
      rintro e w2 ⟨rfl, P2, hperm, hsort, hown2, hg2⟩
      have hl2 := hperm.length_eq
      go_wp2_with fail
      refine (compactV_n w.heap.size P2 P.length g cap _ hl2 hown2 (by omega) hcap.1 hcap.2).mono ?_
      rintro e w3 ⟨m3, hm3, rfl, hown3, hg3⟩
      have hpts : dd P2 P2.length = sortU P := dd_sortU hperm hsort
      rw [hpts] at hm3 hown3
      have hgb : w.heap.size ≤ g := (HOWN.out.lt g rfl).1
      have hb3 : Below w.heap.size w w3 := (hbw.grown hg2 hbw.size (fun k e => by cases e; exact hgb)).grown hg3 (Nat.le_trans hbw.size hg2.size) (fun k e => by cases e; exact hgb)
      rw [hm3] at hown3
      have O3 := Lib.hid hown3
      have M3 := Lib.hid hm3
      clear hown3 hm3 hpts hown2 hg2 hg3 hperm hsort hl2 hbw HOWN hlen
      go_wp2_with fail
      go_ret
      exact ⟨g, cap, by rw [← M3.out]; rfl, O3.out, hb3⟩

end Go.Proofs.YtbkgmahpfghheaaDoor
