/- Contracts of region.Empty, the law's span, slices.Clone at intervals and region.box. -/
import Derived.Test.YtbkgmahpfghheaaDoorWt
import Derived.Lib.SliceRun
import Derived.Deep.RegionHeld3
namespace Go.Proofs.YtbkgmahpfghheaaDoor
open Go.RowKit
open Ps

/-! ### Empty, span, slices.Clone -/
theorem empty_any (k : Nat) (hk : k ≤ 12) (w : World) :
    Calls Tryd.prog 4 #[.int .i64 k] w fun e w' => e = .returned (.tuple #[.agg #[.int .i64 k, .bool false, .slice none 0 0], .int .i64 0]) ∧ Below w.heap.size w w' := by
  have a1 : ¬ (k : Int) < 0 := by omega
  have a2 : ¬ (12 : Int) < k := by omega
  have a3 : decide ((k : Int) < 0) = false := decide_eq_false a1
  have a4 : decide ((k : Int) > 12) = false := decide_eq_false a2
  go_enter Tryd.func4, Tryd.ntmps4
  go_wp2_with fail
  refine bodyPost_ret (v := .tuple #[.agg #[.int .i64 k, .bool false, .slice none 0 0], .int .i64 0]) (by simp [results, Tryd.results4, go_sem]) rfl ⟨rfl, ?_⟩
  exact (Below.refl _ _).alloc (Nat.le_refl _) _

def vInt (n : Int) (h : -9223372036854775808 ≤ n ∧ n ≤ 9223372036854775807) : Vl := ⟨4, n, ⟨#[]⟩, by decide, h⟩

theorem span_any (a b : Int) (ha : -9223372036854775808 ≤ a ∧ a ≤ 9223372036854775807) (hb : -9223372036854775808 ≤ b + 1 ∧ b + 1 ≤ 9223372036854775807) (w : World) :
    Calls Tryd.prog 6 #[.int .i64 a, .int .i64 b] w fun e w' => ∃ A c, e = .returned (.slice A 1 c) ∧ 1 ≤ c ∧ c ≤ 9223372036854775807 ∧ IvsAt (w.heap.size ≤ ·) w' A 1 [⟨vInt a ha, vInt (b + 1) hb, false⟩] ∧ Below w.heap.size w w' := by
  have a1 : IntKind.i64.wrap (b + 1) = b + 1 := IntWalk.i64_in _ (by omega)
  go_enter Tryd.func6, Tryd.ntmps6
  go_wp2_with fail
  go_ret
  refine ⟨_, _, rfl, by omega, by omega, ⟨rfl, .inr ⟨w.heap.size, 0, rfl, Nat.le_refl _, by simp, fun i c hc => ?_⟩⟩, (Below.refl _ _).alloc (Nat.le_refl _) _⟩
  have hb := (Box.made w (Iv.cells ⟨vInt a ha, vInt (b + 1) hb, false⟩) 41).2 i c (by simpa [ivsCells] using hc)
  rw [Nat.zero_add]
  exact hb

set_option maxHeartbeats 1000000 in
set_option maxRecDepth 100000 in
theorem clone_any (l : List Iv) (A : Option Addr) (n c : Nat) (w : World) (hl : IvsAt any w A n l) (hn0 : 0 < n) (hn : n ≤ 1000000) :
    Calls Tryd.prog 17 #[.slice A n c] w fun e w' => ∃ A' c', e = .returned (.slice A' n c') ∧ n ≤ c' ∧ c' ≤ 9223372036854775807 ∧ IvsAt (w.heap.size ≤ ·) w' A' n l ∧ Below w.heap.size w w' := by
  obtain ⟨hln, hl⟩ := hl
  have hlc : (ivsCells l).length = l.length * 7 := flatMap_len (f := Iv.cells) (k := 7) (fun _ => rfl) l
  rcases hl with h0 | ⟨b, off, rfl, _, hb, hc⟩
  · have := congrArg List.length h0
    rw [hlc] at this
    simp only [List.length_nil] at this
    omega
  have q22 : ∀ (w : World) (a : Option Addr) (n c n' c' : Nat), (binOp .eql 29 (.slice a n c) (.slice none n' c')).run Tryd.prog w = .ok (.bool a.isNone) w := fun w a n c n' c' => Lib.run_eql_slice_nil w _ _ a n c n' c' Tryd.underlying29
  obtain ⟨i0, hi, hzz⟩ := Option.map_eq_some_iff.1 info_iv
  simp only [Prod.mk.injEq] at hzz
  obtain ⟨hz0, hz1, hz2⟩ := hzz
  have HI := Lib.hid hi; have H0 := Lib.hid hz0; have H1 := Lib.hid hz1; have H2 := Lib.hid hz2; have HLC := Lib.hid hlc; have HLN := Lib.hid hln
  have HC := Lib.hid hc
  clear hi hz0 hz1 hz2 hlc hln hc
  go_enter Tryd.func17, Tryd.ntmps17
  go_wp2_with (at_builtin; refine wpList_append_own _ rfl _ _ 29 rfl w.heap.size 41 i0 _ 7 72 Tryd.underlying29 HI.out H0.out H1.out H2.out rfl (by decide) _ _ _ rfl (World.ownsRow_made w #[] 0 (Nat.le_refl _) (Nat.zero_le _) (by simp)) ⟨b, off, none⟩ n c (ivsCells l) rfl ?qc1 ?qc2 ?qc3 ?qc4 ?qc5 ?qc6 ?_)
  case qc1 => rw [HLC.out, HLN.out]
  case qc2 =>
    intro j u hj
    rw [Addr.add_lit]
    exact Lib.cell?_alloc_some _ (HC.out j u hj)
  case qc3 =>
    intro u hu
    obtain ⟨x, _, hx⟩ := List.mem_flatMap.1 hu
    exact iv_one x u hx
  case qc4 => unfold maxLen; omega
  case qc5 => omega
  case qc6 => simp
  intro v' w1 hown hgrow hnil
  go_wp2_with fail
  go_ret
  have hown' : w1.ownsRow w.heap.size 41 7 v' n (ivsCells l) := by simpa using hown
  rcases hown'.2 with ⟨_, h0⟩ | ⟨g, cap, cur, rfl, hbg, hg, h1, h2, _⟩
  · omega
  · refine ⟨_, _, rfl, h1, h2, ⟨HLN.out, .inr ⟨g, 0, rfl, hbg, (hown'.lt g rfl).2, fun i u hu => ?_⟩⟩, ?_⟩
    · rw [Nat.zero_add]
      have hi := (List.getElem?_eq_some_iff.1 hu).1
      rw [HLC.out, HLN.out] at hi
      exact (hown'.cellAt i hi).trans hu
    · exact ((Below.refl _ w).alloc (Nat.le_refl _) _).grown hgrow (by simp) (by intro k hk; simp [Value.ownBlock] at hk; omega)

/-! ### box -/
def boxF : List (List Iv) → Rg
  | [] => .mk 0 true []
  | l :: t => .mk (t.length + 1) false [(l, boxF t)]
def boxR (L : List (List Iv)) : Rg := if [] ∈ L then .mk L.length false [] else boxF L
theorem boxF_w : ∀ L, (boxF L).w = L.length
  | [] => rfl
  | _ :: t => by simp [boxF, Rg.w]

def SetsAt (ok : Nat → Prop) (w : World) (A : Option Addr) (n : Nat) (L : List (List Iv)) : Prop :=
  L.length = n ∧ (n = 0 ∨ ∃ b off, A = some ⟨b, off, none⟩ ∧ ok b ∧ b < w.heap.size ∧ ∀ i l, L[i]? = some l → ∃ Ai ni ci, w.cell? ⟨b, off + i, none⟩ = some (.slice Ai ni ci) ∧ IvsAt ok w Ai ni l ∧ ni ≤ ci ∧ ci ≤ 9223372036854775807)
theorem SetsAt.keep {ok : Nat → Prop} {w w' : World} (k : Keeps ok w w') {A : Option Addr} {n : Nat} {L : List (List Iv)} (h : SetsAt ok w A n L) : SetsAt ok w' A n L := by
  obtain ⟨h1, h | ⟨b, off, e, o, hb, h⟩⟩ := h
  · exact ⟨h1, .inl h⟩
  · refine ⟨h1, .inr ⟨b, off, e, o, Nat.lt_of_lt_of_le hb k.size, fun i l hi => ?_⟩⟩
    obtain ⟨Ai, ni, ci, h2, h3, h4, h5⟩ := h i l hi
    exact ⟨Ai, ni, ci, (k.cell o hb).trans h2, ⟨h3.1, h3.2.keep k⟩, h4, h5⟩
theorem SetsAt.below {ok : Nat → Prop} {w w' : World} (k : Below w.heap.size w w') {A : Option Addr} {n : Nat} {L : List (List Iv)} (h : SetsAt ok w A n L) : SetsAt ok w' A n L := h.keep (Keeps.of_below k)
theorem SetsAt.mono {ok ok' : Nat → Prop} {w : World} (k : ∀ i, i < w.heap.size → ok i → ok' i) {A : Option Addr} {n : Nat} {L : List (List Iv)} (h : SetsAt ok w A n L) : SetsAt ok' w A n L := by
  obtain ⟨h1, h | ⟨b, off, e, o, hb, h⟩⟩ := h
  · exact ⟨h1, .inl h⟩
  · refine ⟨h1, .inr ⟨b, off, e, k b hb o, hb, fun i l hi => ?_⟩⟩
    obtain ⟨Ai, ni, ci, h2, h3, h4, h5⟩ := h i l hi
    exact ⟨Ai, ni, ci, h2, ⟨h3.1, h3.2.mono k⟩, h4, h5⟩

theorem blk6 {W : World} {D : Nat} {x : Int} {y : Bool} {z : Value} (h : W.heap[D]? = some (.cells #[.int .i64 x, .bool y, z] 24 (0, 0))) : W.cell? ⟨D, 0, none⟩ = some (.int .i64 x) ∧ W.cell? ⟨D, 1, none⟩ = some (.bool y) ∧ W.cell? ⟨D, 2, none⟩ = some z ∧
    W.frozen? ⟨D, 0, none⟩ = false ∧ W.frozen? ⟨D, 1, none⟩ = false ∧ W.frozen? ⟨D, 2, none⟩ = false := by
  simp [World.cell?, World.frozen?, h]

theorem box_step {w wo wr wA : World} {wd : Int} {fd : Bool} {psd : Pts} {A' A2 : Option Addr} {m' c' ni c2 : Nat} {l : List Iv} (hbr : Below wo.heap.size wo wr) (bA : Below wr.heap.size wr wA)
    (eA : wA.heap[wo.heap.size]? = some (.cells #[.int .i64 wd, .bool fd, .slice A' m' c'] 24 (0, 0))) (hw : w.heap.size < wo.heap.size) (hD : wo.heap.size < wr.heap.size)
    (hr : RgAt (fun k => w.heap.size < k ∧ k ≠ wo.heap.size) wr (.mk wd fd psd) A' m') (hl : IvsAt (wr.heap.size ≤ ·) wA A2 ni l) (h1 : ni ≤ c2) (h2 : c2 ≤ 9223372036854775807) (h3 : m' ≤ c') (h4 : c' ≤ 9223372036854775807) {W : World}
    (hW : W = ((((wA.alloc (.cells #[.slice A2 ni c2, .int .i64 wd, .bool fd, .slice A' m' c'] 50)).setCell ⟨wo.heap.size, 0, none⟩ (.int .i64 (wd + 1))).setCell ⟨wo.heap.size, 1, none⟩ (.bool false)).setCell ⟨wo.heap.size, 2, none⟩ (.slice (some ⟨wA.heap.size, 0, none⟩) 1 1))) :
    Below wo.heap.size wo W ∧ W.heap[wo.heap.size]? = some (.cells #[.int .i64 (wd + 1), .bool false, .slice (some ⟨wA.heap.size, 0, none⟩) 1 1] 24 (0, 0)) ∧
    RgAt (fun k => w.heap.size < k ∧ k ≠ wo.heap.size) W (.mk (wd + 1) false [(l, .mk wd fd psd)]) (some ⟨wA.heap.size, 0, none⟩) 1 := by
  have K0 : Below wA.heap.size wA (wA.alloc (.cells #[.slice A2 ni c2, .int .i64 wd, .bool fd, .slice A' m' c'] 50)) := (Below.refl _ _).alloc (Nat.le_refl _) _
  have hsA := bA.size
  have e0 : (wA.alloc (.cells #[.slice A2 ni c2, .int .i64 wd, .bool fd, .slice A' m' c'] 50)).heap[wo.heap.size]? = some (.cells #[.int .i64 wd, .bool fd, .slice A' m' c'] 24 (0, 0)) := (K0.block _ (by omega)).trans eA
  have K : Kb (fun i => i = wo.heap.size) (wA.alloc (.cells #[.slice A2 ni c2, .int .i64 wd, .bool fd, .slice A' m' c'] 50)) W := by
    rw [hW]
    exact ((Kb.set _ _ _ _).put rfl _ _).put rfl _ _
  have hb1 := below_call (below_call hbr bA) K0
  refine ⟨?_, ?_, ?_⟩
  · rw [hW]
    exact ((hb1.setCell (Nat.le_refl _) _).setCell (Nat.le_refl _) _).setCell (Nat.le_refl _) _
  · rw [hW]
    exact heap_setCell_same _ _ 2 _ _ _ (heap_setCell_same _ _ 1 _ _ _ (heap_setCell_same _ _ 0 _ _ _ e0))
  · have hN := heap_alloc_new wA (.cells #[.slice A2 ni c2, .int .i64 wd, .bool fd, .slice A' m' c'] 50)
    have hNW : W.heap[wA.heap.size]? = some (.cells #[.slice A2 ni c2, .int .i64 wd, .bool fd, .slice A' m' c'] 50 (0, 0)) := (K.block _ (by simp) (by omega)).trans hN
    have hrW : RgAt (fun k => w.heap.size < k ∧ k ≠ wo.heap.size) W (.mk wd fd psd) A' m' := rg_kb K (fun i e hi => hi.2 e) (RgAt.below K0 (RgAt.below bA hr))
    have hlA : IvsAt (fun k => w.heap.size < k ∧ k ≠ wo.heap.size) wA A2 ni l := ⟨hl.1, hl.2.mono fun i _ hi => by omega⟩
    have hlW : IvsAt (fun k => w.heap.size < k ∧ k ≠ wo.heap.size) W A2 ni l := by
      have h0 : IvsAt (fun k => w.heap.size < k ∧ k ≠ wo.heap.size) (wA.alloc (.cells #[.slice A2 ni c2, .int .i64 wd, .bool fd, .slice A' m' c'] 50)) A2 ni l := ⟨hlA.1, hlA.2.keep (Keeps.of_below K0)⟩
      exact ⟨h0.1, h0.2.keep ⟨K.size, fun i o hi => K.block i hi o.2⟩⟩
    rw [RgAt]
    refine ⟨rfl, .inr ⟨wA.heap.size, 0, rfl, by omega, (Array.getElem?_eq_some_iff.1 hNW).1, psAt_of _ _ fun j q hq => ?_⟩⟩
    cases j with
    | succ j => simp at hq
    | zero =>
      simp at hq
      subst hq
      refine ⟨A2, ni, c2, A', m', c', ?_, ?_, ?_, ?_, h1, h3, h2, h4, hlW, hrW⟩ <;> simp [World.cell?, hNW, Rg.w, Rg.full]

def BoxPost (r : Rg) (w : World) (e : Ending) (w' : World) : Prop :=
  Below w.heap.size w w' ∧ ∃ A m c, e = .returned (.agg #[.int .i64 r.w, .bool r.full, .slice A m c]) ∧ RgAt (w.heap.size ≤ ·) w' r A m ∧ m ≤ c ∧ c ≤ 9223372036854775807

set_option maxRecDepth 8192 in
set_option maxHeartbeats 3200000 in
theorem box_any (L : List (List Iv)) (A : Option Addr) (n c : Nat) (w : World) (hL : SetsAt any w A n L) (hn : n ≤ 1000) (hnc : n ≤ c) (hc : c ≤ 9223372036854775807) (hs : ∀ l ∈ L, l.length ≤ 1000000) :
    Calls Tryd.prog 11 #[.slice A n c] w (BoxPost (boxR L) w) := by
  have HL := Lib.hid hL; have HS := Lib.hid hs; clear hL hs
  go_enter Tryd.func11, Tryd.ntmps11
  go_wp2_with fail
  have hB0 : Hid (Below w.heap.size w (w.alloc (.cells #[.int .i64 0, .bool false, .slice none 0 0] 24))) := (Below.refl _ _).alloc (Nat.le_refl _) _
  have hZ0 : Hid (ZB w.heap.size (w.alloc (.cells #[.int .i64 0, .bool false, .slice none 0 0] 24))) := ZB.made w
  generalize w.alloc (.cells #[.int .i64 0, .bool false, .slice none 0 0] 24) = W0 at hB0 hZ0 ⊢
  have HL0 := Lib.hid (SetsAt.below hB0.out HL.out)
  go_loopw [9] (fun i wr => ∃ i0 : Nat, i0 ≤ n ∧ i = .int .i64 i0 ∧ Hid (∀ l ∈ L.take i0, l ≠ []) ∧ Hid (Below W0.heap.size W0 wr)) (fun i _ => n - (intOf i).toNat)
  case atStart => exact ⟨0, by omega, rfl, by show ∀ l ∈ L.take 0, _; simp, Below.refl _ _⟩
  case round =>
    obtain ⟨wo, rfl⟩ : ∃ wo, wo = wr := ⟨_, rfl⟩
    obtain ⟨i0, hi0, rfl, hall, hb⟩ := hrel
    have hw := Lib.hid (below_call hB0.out hb.out)
    by_cases hlt : i0 < n
    · have hLl : L.length = n := HL0.out.1
      obtain ⟨l, hl⟩ : ∃ l, L[i0]? = some l := ⟨L[i0]'(by omega), List.getElem?_eq_getElem (by omega)⟩
      have HLr := SetsAt.below hb.out HL0.out
      obtain ⟨b, off, rfl, hbb, Ai, ni, ci, hcell, hiv, _, _⟩ : ∃ b off, A = some ⟨b, off, none⟩ ∧ b < wo.heap.size ∧ ∃ Ai ni ci, wo.cell? ⟨b, off + i0, none⟩ = some (.slice Ai ni ci) ∧ IvsAt any wo Ai ni l ∧ ni ≤ ci ∧ ci ≤ 9223372036854775807 := by
        rcases HLr.2 with h | ⟨b, off, e, _, hb, h⟩
        · omega
        · obtain ⟨Ai, ni, ci, h2⟩ := h i0 l hl
          exact ⟨b, off, e, hb, Ai, ni, ci, h2⟩
      have hnl : Hid (l.length = ni) := hiv.1
      have htk : Hid (L.take (i0 + 1) = L.take i0 ++ [l]) := take_get hl
      have hlm : Hid (l ∈ L) := List.mem_of_getElem? hl
      have HLl := Lib.hid hLl
      clear hl hiv HLr hLl
      have hltI : (i0 : Int) < n := by omega
      by_cases h0 : ni = 0
      · have hd : ((ni : Int) == 0) = true := by simp; omega
        have HR : Hid (boxR L = .mk n false []) := by
          show _ = _
          have : l = [] := List.length_eq_zero_iff.1 (by rw [hnl.out]; exact h0)
          rw [boxR, if_pos (by rw [← this]; exact hlm.out), HLl.out]
        obtain ⟨z1, z2, z3, z4, z5, z6⟩ := (ZB.below hb.out hZ0.out).cells
        clear h0 hall
        go_wp2_with fail
        refine bodyPost_ret (v := .agg #[.int .i64 n, .bool false, .slice none 0 0]) (by simp [results, Tryd.results11, go_sem, z1, z2, z3]) rfl ?_
        rw [HR.out]
        exact ⟨((hw.out.setCell (by show w.heap.size ≤ w.heap.size; omega) _).setCell (by show w.heap.size ≤ w.heap.size; omega) _).setCell (by show w.heap.size ≤ w.heap.size; omega) _, none, 0, 0, rfl, by rw [RgAt]; exact ⟨rfl, .inl rfl⟩, by omega, by omega⟩
      · have hd : ((ni : Int) == 0) = false := by simp; omega
        go_wp2_with fail
        go_roundw
        case rel =>
          refine ⟨i0 + 1, by omega, by go_num, ?_, hb⟩
          show ∀ l ∈ L.take (i0 + 1), _
          rw [htk.out]
          intro l' hl'
          rcases List.mem_append.1 hl' with hl' | hl'
          · exact hall.out l' hl'
          · simp only [List.mem_cons, List.not_mem_nil, or_false] at hl'
            subst hl'
            intro e
            have := hnl.out
            rw [e] at this
            exact h0 this.symm
        case measure => simp [intOf]; omega
    · have ei : i0 = n := by omega
      have hLl : L.length = n := HL0.out.1
      have hne : Hid (∀ l ∈ L, l ≠ []) := by
        have := hall.out
        rw [ei, List.take_of_length_le (by omega)] at this
        exact this
      have HR : Hid (boxR L = boxF L) := by
        show _ = _
        rw [boxR, if_neg (fun h => hne.out _ h rfl)]
      have HLl := Lib.hid hLl
      have wrap1 : IntKind.i64.wrap ((n : Int) - 1) = (n : Int) - 1 := IntWalk.i64_in _ (by omega)
      clear hall hLl ei
      go_wp2_with fail
      have hbx : Hid (Below wo.heap.size wo (wo.alloc (.cells #[.int .i64 0, .bool true, .slice none 0 0] 24))) := (Below.refl _ _).alloc (Nat.le_refl _) _
      go_loopw [6] (fun i wr => ∃ (i1 : Nat) (A' : Option Addr) (m' c' : Nat), i1 ≤ n ∧ i = .int .i64 ((i1 : Int) - 1) ∧ Hid (Below wo.heap.size wo wr) ∧ Hid (wr.heap[wo.heap.size]? = some (.cells #[.int .i64 (boxF (L.drop i1)).w, .bool (boxF (L.drop i1)).full, .slice A' m' c'] 24 (0, 0))) ∧
        Hid (RgAt (fun k => w.heap.size < k ∧ k ≠ wo.heap.size) wr (boxF (L.drop i1)) A' m') ∧ m' ≤ c' ∧ c' ≤ 9223372036854775807) (fun i _ => (intOf i + 1).toNat)
      case atStart =>
        refine ⟨n, none, 0, 0, Nat.le_refl _, rfl, hbx, ?_, ?_, by omega, by omega⟩
        · rw [List.drop_of_length_le (by rw [HLl.out]; exact Nat.le_refl _)]
          exact heap_alloc_new _ _
        · rw [List.drop_of_length_le (by rw [HLl.out]; exact Nat.le_refl _)]
          show RgAt _ _ (.mk 0 true []) _ _
          rw [RgAt]
          exact ⟨rfl, .inl rfl⟩
      case round =>
        obtain ⟨i1, A', m', c', hi1, rfl, hb2, hblk, hrg, hm', hc'⟩ := hrel
        cases i1 with
        | zero =>
          have hd : decide (((0 : Nat) : Int) - 1 ≥ 0) = false := by decide
          have hd2 : ¬ (0 : Int) ≤ ((0 : Nat) : Int) - 1 := by decide
          obtain ⟨z1, z2, z3, z4, z5, z6⟩ := (ZB.below hb2.out (ZB.below hb.out hZ0.out)).cells
          have hblk' := hblk.out
          rw [List.drop_zero] at hblk'
          obtain ⟨y1, y2, y3⟩ := blk3 hblk'
          clear hblk'
          go_wp2_with fail
          refine bodyPost_ret (v := .agg #[.int .i64 (boxF L).w, .bool (boxF L).full, .slice A' m' c']) (by simp [results, Tryd.results11, go_sem, z1, z2, z3]) rfl ?_
          rw [HR.out]
          have hwr := below_call hw.out hb2.out
          have hrg' := hrg.out
          rw [List.drop_zero] at hrg'
          have K : Kb (fun i => i = w.heap.size) wr (((wr.setCell ⟨w.heap.size, 0, none⟩ (.int .i64 (boxF L).w)).setCell ⟨w.heap.size, 1, none⟩ (.bool (boxF L).full)).setCell ⟨w.heap.size, 2, none⟩ (.slice A' m' c')) := ((Kb.set _ _ _ _).put rfl _ _).put rfl _ _
          refine ⟨((hwr.setCell (by show w.heap.size ≤ w.heap.size; omega) _).setCell (by show w.heap.size ≤ w.heap.size; omega) _).setCell (by show w.heap.size ≤ w.heap.size; omega) _, A', m', c', rfl, ?_, hm', hc'⟩
          exact RgAt.mono (fun i _ hi => by omega) _ (rg_kb K (fun i e hi => by omega) hrg')
        | succ i =>
          rw [show (((i + 1 : Nat) : Int) - 1) = (i : Int) by omega]
          have hwr := Lib.hid (below_call hw.out hb2.out)
          have hLr := SetsAt.below (below_call hb.out hb2.out) HL0.out
          have hLl : L.length = n := HLl.out
          obtain ⟨l, hl⟩ : ∃ l, L[i]? = some l := ⟨L[i]'(by omega), List.getElem?_eq_getElem (by omega)⟩
          obtain ⟨b, off, rfl, hbb, Ai, ni, ci, hcell, hiv, _, _⟩ : ∃ b off, A = some ⟨b, off, none⟩ ∧ b < wr.heap.size ∧ ∃ Ai ni ci, wr.cell? ⟨b, off + i, none⟩ = some (.slice Ai ni ci) ∧ IvsAt any wr Ai ni l ∧ ni ≤ ci ∧ ci ≤ 9223372036854775807 := by
            rcases hLr.2 with h | ⟨b, off, e, _, hb, h⟩
            · omega
            · obtain ⟨Ai, ni, ci, h2⟩ := h i l hl
              exact ⟨b, off, e, hb, Ai, ni, ci, h2⟩
          have hlm : l ∈ L := List.mem_of_getElem? hl
          have hnl : l.length = ni := hiv.1
          have hni0 : 0 < ni := by
            have := List.length_pos_iff.2 (hne.out l hlm)
            omega
          have hni1 : ni ≤ 1000000 := by have := HS.out l hlm; omega
          have hdrop : Hid (boxF (L.drop i) = .mk ((boxF (L.drop (i + 1))).w + 1) false [(l, boxF (L.drop (i + 1)))]) := by
            show _ = _
            obtain ⟨h1, h2⟩ := List.getElem?_eq_some_iff.1 hl
            rw [List.drop_eq_getElem_cons h1, h2, boxF, boxF_w]
          have hwd0 : 0 ≤ (boxF (L.drop (i + 1))).w ∧ (boxF (L.drop (i + 1))).w ≤ 1000 := by
            rw [boxF_w, List.length_drop]
            omega
          generalize boxF (L.drop (i + 1)) = r at hblk hrg hdrop hwd0
          obtain ⟨wd, fd, psd⟩ := r
          simp only [Rg.w_mk, Rg.full_mk] at hblk hdrop hwd0
          have wrap2 : IntKind.i64.wrap (wd + 1) = wd + 1 := IntWalk.i64_in _ (by omega)
          have wrap3 : IntKind.i64.wrap ((i : Int) - 1) = (i : Int) - 1 := IntWalk.i64_in _ (by omega)
          obtain ⟨y1, y2, y3⟩ := blk3 hblk.out
          have HIV := Lib.hid hiv; have HNL := Lib.hid hnl
          have hiI : (i : Int) < n := by omega
          have hd : decide ((i : Int) ≥ 0) = true := by simp
          have hDlt : wo.heap.size < wr.heap.size := (Array.getElem?_eq_some_iff.1 hblk.out).1
          have HWW : Hid (w.heap.size < wo.heap.size) := by have h1 := hb.out.size; have h2 := hZ0.out.lt; show _ < _; omega
          clear hLr hLl hl hlm hnl hiv hwd0
          go_wp2_with fail
          go_region_with (go_at_call 17; refine (clone_any l Ai ni ci _ ?_ hni0 hni1).mono ?_; exact HIV.out; rintro e wA ⟨A2, c2, rfl, h1, h2, h3, h4⟩; have bA : Hid (Below wr.heap.size wr wA) := ⟨h4.os, h4.tape, h4.output, h4.size, h4.block⟩; have H3 : Hid (IvsAt (wr.heap.size ≤ ·) wA A2 ni l) := h3; clear h3 h4; have eA : Hid (wA.heap[wo.heap.size]? = some (.cells #[.int .i64 wd, .bool fd, .slice A' m' c'] 24 (0, 0))) := (bA.out.block _ hDlt).trans hblk.out; obtain ⟨x1, x2, x3⟩ := blk3 eA.out; have eB := blk6 ((Below.heap_alloc wA (.cells #[.slice A2 ni c2, .int .i64 wd, .bool fd, .slice A' m' c'] 50) _ (Array.getElem?_eq_some_iff.1 eA.out).1).trans eA.out); obtain ⟨v1, v2, v3, v4, v5, v6⟩ := eB)
          all_goals
            have HST := box_step hb2.out bA.out eA.out HWW.out hDlt hrg.out H3.out h1 h2 hm' hc' rfl
            have HST' := Lib.hid HST
            clear HST
            go_wp2_with fail
            go_roundw
            case rel =>
              refine ⟨i, some ⟨wA.heap.size, 0, none⟩, 1, 1, by omega, rfl, ⟨HST'.out.1.os, HST'.out.1.tape, HST'.out.1.output, HST'.out.1.size, HST'.out.1.block⟩, ?_, ?_, by omega, by omega⟩
              · rw [hdrop.out]
                exact HST'.out.2.1
              · rw [hdrop.out]
                exact HST'.out.2.2
            case measure => simp [intOf]

end Go.Proofs.YtbkgmahpfghheaaDoor
