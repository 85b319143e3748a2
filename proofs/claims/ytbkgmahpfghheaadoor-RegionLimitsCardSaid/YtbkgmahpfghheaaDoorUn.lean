/- Contract of region.Union: for every two regions in memory. -/
import Derived.Test.YtbkgmahpfghheaaDoorWx
namespace Go.Proofs.YtbkgmahpfghheaaDoor
open Go.RowKit
open Ps

set_option maxRecDepth 8192 in
set_option maxHeartbeats 3200000 in
theorem union_any (a b : Rg) (A B : Option Addr) (m c m' c' : Nat) (w : World) (T : Nat) (hra : RgAt any w a A m) (hrb : RgAt any w b B m') (hmc : m ≤ c) (hc : c ≤ 9223372036854775807) (hmc' : m' ≤ c') (hc' : c' ≤ 9223372036854775807) (hT : TabB T w) (hTw : T ≤ w.heap.size) :
    Calls Tryd.prog 7 #[.agg #[.int .i64 a.w, .bool a.full, .slice A m c], .agg #[.int .i64 b.w, .bool b.full, .slice B m' c']] w (AnsPost (applyR (opf true true true false) a b) w) := by
  have RA := Lib.hid hra; have RB := Lib.hid hrb; have HT := Lib.hid hT
  clear hra hrb hT
  have HB0 : Hid (Below w.heap.size w (((w.alloc (.cells #[.int .i64 a.w, .bool a.full, .slice A m c] 24)).alloc (.cells #[.int .i64 b.w, .bool b.full, .slice B m' c'] 24)).alloc (.cells #[.int .i64 0, .bool false, .slice none 0 0] 24))) :=
    (((Below.refl _ _).alloc (Nat.le_refl _) _).alloc (by simp) _).alloc (by simp <;> omega) _
  have HZ : Hid (ZB (w.heap.size + 1 + 1) (((w.alloc (.cells #[.int .i64 a.w, .bool a.full, .slice A m c] 24)).alloc (.cells #[.int .i64 b.w, .bool b.full, .slice B m' c'] 24)).alloc (.cells #[.int .i64 0, .bool false, .slice none 0 0] 24))) := by
    have := ZB.made ((w.alloc (.cells #[.int .i64 a.w, .bool a.full, .slice A m c] 24)).alloc (.cells #[.int .i64 b.w, .bool b.full, .slice B m' c'] 24))
    show ZB _ _
    simpa using this
  obtain ⟨r, z, hx⟩ : ∃ r z, Hid (applyR (opf true true true false) a b = (r, z)) := ⟨_, _, rfl⟩
  go_enter Tryd.func7, Tryd.ntmps7
  go_wp2_with fail
  generalize ((w.alloc (.cells #[.int .i64 a.w, .bool a.full, .slice A m c] 24)).alloc (.cells #[.int .i64 b.w, .bool b.full, .slice B m' c'] 24)).alloc (.cells #[.int .i64 0, .bool false, .slice none 0 0] 24) = W0 at HB0 HZ ⊢
  refine (apply_any true true true false a b A B m c m' c' W0 T (RgAt.below HB0.out RA.out) (RgAt.below HB0.out RB.out) hmc hc hmc' hc' (HT.out.on (HB0.out.mono hTw)) (Nat.le_trans hTw HB0.out.size)).mono ?_
  rw [hx.out]
  rintro e w1 ⟨hb1, Ar, mr, cr, rfl, hrr, hmr, hcr⟩
  have HB1 := Lib.hid (below_call HB0.out hb1)
  have HZ1 := Lib.hid (HZ.out.below hb1)
  have hz0 : Hid (w.heap.size + 1 + 1 < W0.heap.size) := HZ.out.lt
  have HRR := Lib.hid hrr
  clear hb1 hrr HB0 HZ
  obtain ⟨z1, z2, z3, z4, z5, z6⟩ := HZ1.out.cells
  simp only
  go_wp2_with fail
  refine bodyPost_ret (v := .tuple #[.agg #[.int .i64 r.w, .bool r.full, .slice Ar mr cr], .int .i64 z]) (by simp [results, Tryd.results7, go_sem, z1, z2, z3]) rfl ?_
  rw [hx.out]
  refine ⟨((HB1.out.setCell (by show w.heap.size ≤ w.heap.size + 1 + 1; omega) _).setCell (by show w.heap.size ≤ w.heap.size + 1 + 1; omega) _).setCell (by show w.heap.size ≤ w.heap.size + 1 + 1; omega) _, Ar, mr, cr, rfl, ?_, hmr, hcr⟩
  exact RgAt.mono (fun i _ hi => by have := hz0.out; omega) _ (rg_kb (((Kb.set _ (w.heap.size + 1 + 1) _ _).put rfl _ _).put rfl _ _) (fun i e hi => by have := hz0.out; omega) HRR.out)

end Go.Proofs.YtbkgmahpfghheaaDoor
