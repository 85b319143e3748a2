/- Contract of region.Box: for every list of sets in memory. -/
import Derived.Test.YtbkgmahpfghheaaDoorWv
namespace Go.Proofs.YtbkgmahpfghheaaDoor
open Go.RowKit
open Ps

open Classical in
noncomputable def boxesR (L : List (List Iv)) : Rg × Int := if 12 < L.length then (.mk 0 false [], 1) else if ∀ l ∈ L, Slim l then (boxR L, 0) else (.mk 0 false [], 30)

def ansR (o : Option Rg) : Rg × Int := match o with
  | none => (.mk 0 false [], 2)
  | some r => (r, 0)
open Classical in
noncomputable def applyR (op : Bool → Bool → Bool) (a b : Rg) : Rg × Int := if ¬ Canon a ∨ ¬ Canon b ∨ a.w ≠ b.w then (.mk 0 false [], 40) else ansR (lform op a.w.toNat a b)

/-- An answer of a region and an error. -/
def AnsPost (x : Rg × Int) (w : World) (e : Ending) (w' : World) : Prop :=
  Below w.heap.size w w' ∧ ∃ A m c, e = .returned (.tuple #[.agg #[.int .i64 x.1.w, .bool x.1.full, .slice A m c], .int .i64 x.2]) ∧ RgAt (w.heap.size ≤ ·) w' x.1 A m ∧ m ≤ c ∧ c ≤ 9223372036854775807

set_option maxRecDepth 8192 in
set_option maxHeartbeats 3200000 in
open Classical in
theorem boxes_any (L : List (List Iv)) (A : Option Addr) (n c : Nat) (w : World) (hL : SetsAt any w A n L) (hnc : n ≤ c) (hc : c ≤ 9223372036854775807) :
    Calls Tryd.prog 5 #[.slice A n c] w (AnsPost (boxesR L) w) := by
  have HL := Lib.hid hL
  have hLn : Hid (L.length = n) := hL.1
  clear hL
  by_cases h12 : n ≤ 12
  · have hd : decide ((n : Int) > 12) = false := by simp; omega
    have hd2 : ¬ (12 : Int) < n := by omega
    go_enter Tryd.func5, Tryd.ntmps5
    go_wp2_with fail
    have hB0 : Hid (Below w.heap.size w (w.alloc (.cells #[.int .i64 0, .bool false, .slice none 0 0] 24))) := (Below.refl _ _).alloc (Nat.le_refl _) _
    have hZ0 : Hid (ZB w.heap.size (w.alloc (.cells #[.int .i64 0, .bool false, .slice none 0 0] 24))) := ZB.made w
    generalize w.alloc (.cells #[.int .i64 0, .bool false, .slice none 0 0] 24) = W0 at hB0 hZ0 ⊢
    have HL0 := Lib.hid (SetsAt.below hB0.out HL.out)
    go_loopw [12] (fun i wr => ∃ i0 : Nat, i0 ≤ n ∧ i = .int .i64 i0 ∧ Hid (∀ l ∈ L.take i0, Slim l) ∧ Hid (Below W0.heap.size W0 wr)) (fun i _ => n - (intOf i).toNat)
    case atStart => exact ⟨0, by omega, rfl, by show ∀ l ∈ L.take 0, _; simp, Below.refl _ _⟩
    case round =>
      obtain ⟨i0, hi0, rfl, hall, hb⟩ := hrel
      have hw := Lib.hid (below_call hB0.out hb.out)
      by_cases hlt : i0 < n
      · have hLl : L.length = n := hLn.out
        obtain ⟨l, hl⟩ : ∃ l, L[i0]? = some l := ⟨L[i0]'(by omega), List.getElem?_eq_getElem (by omega)⟩
        have HLr := SetsAt.below hb.out HL0.out
        obtain ⟨b, off, rfl, hbb, Ai, ni, ci, hcell, hiv, hi1, hi2⟩ : ∃ b off, A = some ⟨b, off, none⟩ ∧ b < wr.heap.size ∧ ∃ Ai ni ci, wr.cell? ⟨b, off + i0, none⟩ = some (.slice Ai ni ci) ∧ IvsAt any wr Ai ni l ∧ ni ≤ ci ∧ ci ≤ 9223372036854775807 := by
          rcases HLr.2 with h | ⟨b, off, e, _, hb, h⟩
          · omega
          · obtain ⟨Ai, ni, ci, h2⟩ := h i0 l hl
            exact ⟨b, off, e, hb, Ai, ni, ci, h2⟩
        have HIV := Lib.hid hiv
        have htk : Hid (L.take (i0 + 1) = L.take i0 ++ [l]) := take_get hl
        have hlm : Hid (l ∈ L) := List.mem_of_getElem? hl
        clear hl hiv HLr hLl
        have hltI : (i0 : Int) < n := by omega
        go_wp2_with fail
        refine (ivalid_any l Ai ni ci _ HIV.out hi1 hi2).mono ?_
        rintro e w2 ⟨rfl, hb2⟩
        have hb' := Lib.hid (below_call hb.out hb2)
        clear hb2
        by_cases hsl : Slim l
        · have hd : decide (Slim l) = true := decide_eq_true hsl
          generalize decide (Slim l) = dd at hd
          subst hd
          go_wp2_with fail
          go_roundw
          case rel =>
            refine ⟨i0 + 1, by omega, by go_num, ?_, hb'⟩
            show ∀ l ∈ L.take (i0 + 1), _
            rw [htk.out]
            intro l' hl'
            rcases List.mem_append.1 hl' with hl' | hl'
            · exact hall.out l' hl'
            · simp only [List.mem_cons, List.not_mem_nil, or_false] at hl'
              subst hl'
              exact hsl
          case measure => simp [intOf]; omega
        · have hd : decide (Slim l) = false := decide_eq_false hsl
          generalize decide (Slim l) = dd at hd
          subst hd
          have HR : Hid (boxesR L = (.mk 0 false [], 30)) := by
            show _ = _
            rw [boxesR, if_neg (by rw [hLn.out]; omega), if_neg (fun h => hsl (h l hlm.out))]
          obtain ⟨z1, z2, z3, z4, z5, z6⟩ := (ZB.below hb'.out hZ0.out).cells
          have hw2 := Lib.hid (below_call hB0.out hb'.out)
          clear hsl hall
          go_wp2_with fail
          refine bodyPost_ret (v := .tuple #[.agg #[.int .i64 0, .bool false, .slice none 0 0], .int .i64 30]) (by simp [results, Tryd.results5, go_sem, z1, z2, z3]) rfl ?_
          rw [HR.out]
          exact ⟨((hw2.out.setCell (by show w.heap.size ≤ w.heap.size; omega) _).setCell (by show w.heap.size ≤ w.heap.size; omega) _).setCell (by show w.heap.size ≤ w.heap.size; omega) _, none, 0, 0, rfl, by rw [RgAt]; exact ⟨rfl, .inl rfl⟩, by omega, by omega⟩
      · have ei : i0 = n := by omega
        have hsl : ∀ l ∈ L, Slim l := by
          have := hall.out
          rw [ei, List.take_of_length_le (by rw [hLn.out]; exact Nat.le_refl _)] at this
          exact this
        have HR : Hid (boxesR L = (boxR L, 0)) := by
          show _ = _
          rw [boxesR, if_neg (by rw [hLn.out]; omega), if_pos hsl]
        have HSL := Lib.hid hsl
        clear hall ei hsl
        go_wp2_with fail
        refine (box_any L A n c _ (SetsAt.below hb.out HL0.out) (by omega) hnc hc (fun l hl => by have := (HSL.out l hl).2; omega)).mono ?_
        rintro e w2 ⟨hb2, A2, m2, c2, rfl, hr2, hm2, hc2⟩
        have HR2 := Lib.hid hr2
        have hb' := Lib.hid (below_call hb.out hb2)
        have hw2 := Lib.hid (below_call hB0.out hb'.out)
        have hzw : Hid (w.heap.size < wr.heap.size) := by have := hb.out.size; have := hZ0.out.lt; show _ < _; omega
        obtain ⟨z1, z2, z3, z4, z5, z6⟩ := (ZB.below hb'.out hZ0.out).cells
        clear hr2 hb2
        go_wp2_with fail
        refine bodyPost_ret (v := .tuple #[.agg #[.int .i64 (boxR L).w, .bool (boxR L).full, .slice A2 m2 c2], .int .i64 0]) (by simp [results, Tryd.results5, go_sem, z1, z2, z3]) rfl ?_
        rw [HR.out]
        have K : Kb (fun i => i = w.heap.size) w2 (((w2.setCell ⟨w.heap.size, 0, none⟩ (.int .i64 (boxR L).w)).setCell ⟨w.heap.size, 1, none⟩ (.bool (boxR L).full)).setCell ⟨w.heap.size, 2, none⟩ (.slice A2 m2 c2)) := ((Kb.set _ _ _ _).put rfl _ _).put rfl _ _
        refine ⟨((hw2.out.setCell (by show w.heap.size ≤ w.heap.size; omega) _).setCell (by show w.heap.size ≤ w.heap.size; omega) _).setCell (by show w.heap.size ≤ w.heap.size; omega) _, A2, m2, c2, rfl, ?_, hm2, hc2⟩
        exact RgAt.mono (fun i _ hi => by have := hzw.out; omega) _ (rg_kb K (fun i e hi => by have := hzw.out; omega) HR2.out)
  · have hd : decide ((n : Int) > 12) = true := by simp; omega
    have hd2 : (12 : Int) < n := by omega
    have HR : Hid (boxesR L = (.mk 0 false [], 1)) := by
      show _ = _
      rw [boxesR, if_pos (by rw [hLn.out]; omega)]
    clear h12
    go_enter Tryd.func5, Tryd.ntmps5
    go_wp2_with fail
    refine bodyPost_ret (v := .tuple #[.agg #[.int .i64 0, .bool false, .slice none 0 0], .int .i64 1]) (by simp [results, Tryd.results5, go_sem]) rfl ?_
    rw [HR.out]
    exact ⟨(Below.refl _ _).alloc (Nat.le_refl _) _, none, 0, 0, rfl, by rw [RgAt]; exact ⟨rfl, .inl rfl⟩, by omega, by omega⟩

end Go.Proofs.YtbkgmahpfghheaaDoor
