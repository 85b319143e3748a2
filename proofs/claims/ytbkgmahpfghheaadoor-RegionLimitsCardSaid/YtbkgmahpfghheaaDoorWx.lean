/- Contract of region.apply: for every two regions in memory. -/
import Derived.Test.YtbkgmahpfghheaaDoorWs
import Derived.Test.YtbkgmahpfghheaaDoorWy
namespace Go.Proofs.YtbkgmahpfghheaaDoor
open Go.RowKit
open Ps

/-- The variables of apply. -/
structure AB (b0 : Nat) (ac bc oc : List Value) (W : World) : Prop where
  a : W.heap[b0]? = some (.cells ac.toArray 24 (0, 0))
  b : W.heap[b0 + 1]? = some (.cells bc.toArray 24 (0, 0))
  o : W.heap[b0 + 1 + 1]? = some (.cells oc.toArray 44 (0, 0))
  r : W.heap[b0 + 1 + 1 + 1]? = some (.cells #[.int .i64 0, .bool false, .slice none 0 0] 24 (0, 0))
theorem AB.below {b0 : Nat} {ac bc oc : List Value} {W W' : World} (h : AB b0 ac bc oc W) (k : Below W.heap.size W W') : AB b0 ac bc oc W' :=
  ⟨(k.block _ (Array.getElem?_eq_some_iff.1 h.a).1).trans h.a, (k.block _ (Array.getElem?_eq_some_iff.1 h.b).1).trans h.b, (k.block _ (Array.getElem?_eq_some_iff.1 h.o).1).trans h.o, (k.block _ (Array.getElem?_eq_some_iff.1 h.r).1).trans h.r⟩
theorem AB.made (w : World) (ac bc oc : List Value) : AB w.heap.size ac bc oc ((((w.alloc (.cells ac.toArray 24)).alloc (.cells bc.toArray 24)).alloc (.cells oc.toArray 44)).alloc (.cells #[.int .i64 0, .bool false, .slice none 0 0] 24)) := by
  constructor
  · rw [Below.heap_alloc _ _ _ (by simp <;> omega), Below.heap_alloc _ _ _ (by simp <;> omega), Below.heap_alloc _ _ _ (by simp)]
    exact heap_alloc_new w _
  · rw [Below.heap_alloc _ _ _ (by simp <;> omega), Below.heap_alloc _ _ _ (by simp)]
    have := heap_alloc_new (w.alloc (.cells ac.toArray 24)) (.cells bc.toArray 24)
    simpa using this
  · rw [Below.heap_alloc _ _ _ (by simp)]
    have := heap_alloc_new ((w.alloc (.cells ac.toArray 24)).alloc (.cells bc.toArray 24)) (.cells oc.toArray 44)
    simpa using this
  · have := heap_alloc_new (((w.alloc (.cells ac.toArray 24)).alloc (.cells bc.toArray 24)).alloc (.cells oc.toArray 44)) (.cells #[.int .i64 0, .bool false, .slice none 0 0] 24)
    simpa using this
theorem blk4 {W : World} {D : Nat} {x y z u : Value} {t : TypeId} (h : W.heap[D]? = some (.cells #[x, y, z, u] t (0, 0))) : W.cell? ⟨D, 0, none⟩ = some x ∧ W.cell? ⟨D, 1, none⟩ = some y ∧ W.cell? ⟨D, 2, none⟩ = some z ∧ W.cell? ⟨D, 3, none⟩ = some u := by
  simp [World.cell?, h]

set_option maxRecDepth 8192 in
set_option maxHeartbeats 3200000 in
open Classical in
theorem apply_any (b4 f4 s4 n4 : Bool) (a b : Rg) (A B : Option Addr) (m c m' c' : Nat) (w : World) (T : Nat) (hra : RgAt any w a A m) (hrb : RgAt any w b B m') (hmc : m ≤ c) (hc : c ≤ 9223372036854775807) (hmc' : m' ≤ c') (hc' : c' ≤ 9223372036854775807) (hT : TabB T w) (hTw : T ≤ w.heap.size) :
    Calls Tryd.prog 12 #[.agg #[.int .i64 a.w, .bool a.full, .slice A m c], .agg #[.int .i64 b.w, .bool b.full, .slice B m' c'], .agg #[.bool b4, .bool f4, .bool s4, .bool n4]] w (AnsPost (applyR (opf b4 f4 s4 n4) a b) w) := by
  have RA := Lib.hid hra; have RB := Lib.hid hrb; have HT := Lib.hid hT
  clear hra hrb hT
  have HB0 : Hid (Below w.heap.size w ((((w.alloc (.cells #[.int .i64 a.w, .bool a.full, .slice A m c] 24)).alloc (.cells #[.int .i64 b.w, .bool b.full, .slice B m' c'] 24)).alloc (.cells #[.bool b4, .bool f4, .bool s4, .bool n4] 44)).alloc (.cells #[.int .i64 0, .bool false, .slice none 0 0] 24))) :=
    ((((Below.refl _ _).alloc (Nat.le_refl _) _).alloc (by simp) _).alloc (by simp <;> omega) _).alloc (by simp <;> omega) _
  have HAB : Hid (AB w.heap.size [.int .i64 a.w, .bool a.full, .slice A m c] [.int .i64 b.w, .bool b.full, .slice B m' c'] [.bool b4, .bool f4, .bool s4, .bool n4] ((((w.alloc (.cells #[.int .i64 a.w, .bool a.full, .slice A m c] 24)).alloc (.cells #[.int .i64 b.w, .bool b.full, .slice B m' c'] 24)).alloc (.cells #[.bool b4, .bool f4, .bool s4, .bool n4] 44)).alloc (.cells #[.int .i64 0, .bool false, .slice none 0 0] 24))) := AB.made w _ _ _
  go_enter Tryd.func12, Tryd.ntmps12
  go_wp2_with fail
  generalize (((w.alloc (.cells #[.int .i64 a.w, .bool a.full, .slice A m c] 24)).alloc (.cells #[.int .i64 b.w, .bool b.full, .slice B m' c'] 24)).alloc (.cells #[.bool b4, .bool f4, .bool s4, .bool n4] 44)).alloc (.cells #[.int .i64 0, .bool false, .slice none 0 0] 24) = W0 at HB0 HAB ⊢
  refine (rvalid_any a A m c W0 (RgAt.below HB0.out RA.out) hmc hc (HT.out.on (HB0.out.mono hTw)) (Nat.le_trans hTw HB0.out.size)).mono ?_
  rintro e w1 ⟨rfl, hb1⟩
  have HB1 := Lib.hid (below_call HB0.out hb1)
  have HA1 := Lib.hid (HAB.out.below hb1)
  clear hb1 HB0 HAB
  obtain ⟨x1, x2, x3⟩ := blk3 HA1.out.b
  by_cases ca : Canon a
  · have hd : decide (Canon a) = true := decide_eq_true ca
    generalize decide (Canon a) = d at hd
    subst hd
    have CA := Lib.hid ca; clear ca
    go_wp2_with fail
    refine (rvalid_any b B m' c' w1 (RgAt.below HB1.out RB.out) hmc' hc' (HT.out.on (HB1.out.mono hTw)) (Nat.le_trans hTw HB1.out.size)).mono ?_
    rintro e w2 ⟨rfl, hb2⟩
    have HB2 := Lib.hid (below_call HB1.out hb2)
    have HA2 := Lib.hid (HA1.out.below hb2)
    clear hb2 HB1 HA1 x1 x2 x3
    obtain ⟨x1, x2, x3⟩ := blk3 HA2.out.b
    obtain ⟨y1, y2, y3⟩ := blk3 HA2.out.a
    obtain ⟨o1, o2, o3, o4⟩ := blk4 HA2.out.o
    by_cases cb : Canon b
    · have hd : decide (Canon b) = true := decide_eq_true cb
      generalize decide (Canon b) = d at hd
      subst hd
      have CB := Lib.hid cb; clear cb
      by_cases hw : a.w = b.w
      · obtain ⟨n, hn12, hwa, hfa, hta⟩ := CA.out.w
        obtain ⟨_, hfb, htb⟩ := CB.out.form (n := n) (by rw [← hw]; exact hwa)
        have hwb : b.w = n := by rw [← hw]; exact hwa
        have hd : (a.w != b.w) = false := by simp [hw]
        have hcb := Lib.hid (combine_any b4 f4 s4 n4 n hn12 a b A B m c m' c' w2 T hfa hfb hta htb (RgAt.below HB2.out RA.out) (RgAt.below HB2.out RB.out) hmc hc hmc' hc' (HT.out.on (HB2.out.mono hTw)) (Nat.le_trans hTw HB2.out.size))
        have HR : Hid (applyR (opf b4 f4 s4 n4) a b = ansR (lform (opf b4 f4 s4 n4) n a b)) := by
          show _ = _
          have e : a.w.toNat = n := by omega
          rw [applyR, if_neg (by rintro (h | h | h); exact h CA.out; exact h CB.out; exact h hw), e]
        have HW := Lib.hid hw
        clear hw hwa hwb hfa hfb hta htb
        go_wp2_with fail
        refine hcb.out.mono ?_
        rintro e w3 ⟨hb3, h3⟩
        have HB3 := Lib.hid (below_call HB2.out hb3)
        have HA3 := Lib.hid (HA2.out.below hb3)
        have hs2 : Hid (w.heap.size + 1 + 1 + 1 < w2.heap.size) := (Array.getElem?_eq_some_iff.1 HA2.out.r).1
        have hs3 := Lib.hid hb3.size
        clear hb3 hcb HB2 HA2 x1 x2 x3 y1 y2 y3 o1 o2 o3 o4
        cases hL : lform (opf b4 f4 s4 n4) n a b with
        | none =>
          rw [hL] at h3
          simp only at h3
          subst h3
          have HN : Hid (applyR (opf b4 f4 s4 n4) a b = (.mk 0 false [], 2)) := by show _ = _; rw [HR.out, hL]; rfl
          clear hL
          have HB4 : Hid (Below w.heap.size w (w3.alloc (.cells #[.int .i64 0, .bool false, .slice none 0 0] 24))) := HB3.out.alloc HB3.out.size _
          have HA4 : Hid (AB w.heap.size [.int .i64 a.w, .bool a.full, .slice A m c] [.int .i64 b.w, .bool b.full, .slice B m' c'] [.bool b4, .bool f4, .bool s4, .bool n4] (w3.alloc (.cells #[.int .i64 0, .bool false, .slice none 0 0] 24))) := HA3.out.below ((Below.refl _ _).alloc (Nat.le_refl _) _)
          obtain ⟨z1, z2, z3, _⟩ := blk6 HA4.out.r
          go_wp2_with fail
          refine bodyPost_ret (v := .tuple #[.agg #[.int .i64 0, .bool false, .slice none 0 0], .int .i64 2]) (by simp [results, Tryd.results12, go_sem, z1, z2, z3]) rfl ?_
          rw [HN.out]
          exact ⟨((HB4.out.setCell (by show w.heap.size ≤ w.heap.size + 1 + 1 + 1; omega) _).setCell (by show w.heap.size ≤ w.heap.size + 1 + 1 + 1; omega) _).setCell (by show w.heap.size ≤ w.heap.size + 1 + 1 + 1; omega) _, none, 0, 0, rfl, by rw [RgAt]; exact ⟨rfl, .inl rfl⟩, by omega, by omega⟩
        | some r =>
          rw [hL] at h3
          simp only at h3
          obtain ⟨Ar, mr, cr, rfl, hrr, hmr, hcr⟩ := h3
          have HN : Hid (applyR (opf b4 f4 s4 n4) a b = (r, 0)) := by show _ = _; rw [HR.out, hL]; rfl
          have HRR := Lib.hid hrr
          clear hL hrr
          have HB4 : Hid (Below w.heap.size w (w3.alloc (.cells #[.int .i64 r.w, .bool r.full, .slice Ar mr cr] 24))) := HB3.out.alloc HB3.out.size _
          have HA4 : Hid (AB w.heap.size [.int .i64 a.w, .bool a.full, .slice A m c] [.int .i64 b.w, .bool b.full, .slice B m' c'] [.bool b4, .bool f4, .bool s4, .bool n4] (w3.alloc (.cells #[.int .i64 r.w, .bool r.full, .slice Ar mr cr] 24))) := HA3.out.below ((Below.refl _ _).alloc (Nat.le_refl _) _)
          have HR4 : Hid (RgAt (w2.heap.size ≤ ·) (w3.alloc (.cells #[.int .i64 r.w, .bool r.full, .slice Ar mr cr] 24)) r Ar mr) := rg_alloc _ HRR.out
          obtain ⟨z1, z2, z3, z4, z5, z6⟩ := blk6 HA4.out.r
          go_wp2_with fail
          refine bodyPost_ret (v := .tuple #[.agg #[.int .i64 r.w, .bool r.full, .slice Ar mr cr], .int .i64 0]) (by simp [results, Tryd.results12, go_sem, z1, z2, z3]) rfl ?_
          rw [HN.out]
          refine ⟨((HB4.out.setCell (by show w.heap.size ≤ w.heap.size + 1 + 1 + 1; omega) _).setCell (by show w.heap.size ≤ w.heap.size + 1 + 1 + 1; omega) _).setCell (by show w.heap.size ≤ w.heap.size + 1 + 1 + 1; omega) _, Ar, mr, cr, rfl, ?_, hmr, hcr⟩
          exact RgAt.mono (fun i _ hi => by have := hs2.out; omega) _ (rg_kb (((Kb.set _ (w.heap.size + 1 + 1 + 1) _ _).put rfl _ _).put rfl _ _) (fun i e hi => by have := hs2.out; omega) HR4.out)
      · have HR : Hid (applyR (opf b4 f4 s4 n4) a b = (.mk 0 false [], 40)) := by
          show _ = _
          rw [applyR, if_pos (.inr (.inr hw))]
        have hd : (a.w != b.w) = true := by simp [hw]
        obtain ⟨z1, z2, z3, _⟩ := blk6 HA2.out.r
        go_wp2_with fail
        refine bodyPost_ret (v := .tuple #[.agg #[.int .i64 0, .bool false, .slice none 0 0], .int .i64 40]) (by simp [results, Tryd.results12, go_sem, z1, z2, z3]) rfl ?_
        rw [HR.out]
        exact ⟨((HB2.out.setCell (by show w.heap.size ≤ w.heap.size + 1 + 1 + 1; omega) _).setCell (by show w.heap.size ≤ w.heap.size + 1 + 1 + 1; omega) _).setCell (by show w.heap.size ≤ w.heap.size + 1 + 1 + 1; omega) _, none, 0, 0, rfl, by rw [RgAt]; exact ⟨rfl, .inl rfl⟩, by omega, by omega⟩
    · have hd : decide (Canon b) = false := decide_eq_false cb
      generalize decide (Canon b) = d at hd
      subst hd
      have HR : Hid (applyR (opf b4 f4 s4 n4) a b = (.mk 0 false [], 40)) := by
        show _ = _
        rw [applyR, if_pos (.inr (.inl cb))]
      clear cb
      obtain ⟨z1, z2, z3, _⟩ := blk6 HA2.out.r
      go_wp2_with fail
      refine bodyPost_ret (v := .tuple #[.agg #[.int .i64 0, .bool false, .slice none 0 0], .int .i64 40]) (by simp [results, Tryd.results12, go_sem, z1, z2, z3]) rfl ?_
      rw [HR.out]
      exact ⟨((HB2.out.setCell (by show w.heap.size ≤ w.heap.size + 1 + 1 + 1; omega) _).setCell (by show w.heap.size ≤ w.heap.size + 1 + 1 + 1; omega) _).setCell (by show w.heap.size ≤ w.heap.size + 1 + 1 + 1; omega) _, none, 0, 0, rfl, by rw [RgAt]; exact ⟨rfl, .inl rfl⟩, by omega, by omega⟩
  · have hd : decide (Canon a) = false := decide_eq_false ca
    generalize decide (Canon a) = d at hd
    subst hd
    have HR : Hid (applyR (opf b4 f4 s4 n4) a b = (.mk 0 false [], 40)) := by
      show _ = _
      rw [applyR, if_pos (.inl ca)]
    clear ca
    obtain ⟨z1, z2, z3, _⟩ := blk6 HA1.out.r
    go_wp2_with fail
    refine bodyPost_ret (v := .tuple #[.agg #[.int .i64 0, .bool false, .slice none 0 0], .int .i64 40]) (by simp [results, Tryd.results12, go_sem, z1, z2, z3]) rfl ?_
    rw [HR.out]
    exact ⟨((HB1.out.setCell (by show w.heap.size ≤ w.heap.size + 1 + 1 + 1; omega) _).setCell (by show w.heap.size ≤ w.heap.size + 1 + 1 + 1; omega) _).setCell (by show w.heap.size ≤ w.heap.size + 1 + 1 + 1; omega) _, none, 0, 0, rfl, by rw [RgAt]; exact ⟨rfl, .inl rfl⟩, by omega, by omega⟩

end Go.Proofs.YtbkgmahpfghheaaDoor
