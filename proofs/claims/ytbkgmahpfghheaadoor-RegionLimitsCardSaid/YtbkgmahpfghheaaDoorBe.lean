/- Contract of the law's begun: it returns true. -/
import Derived.Test.YtbkgmahpfghheaaDoorUn
import Derived.Test.YtbkgmahpfghheaaDoorDa
namespace Go.Proofs.YtbkgmahpfghheaaDoor
open Go.RowKit
open Ps

theorem span_sp (a b : Int) (ha : Sm a) (hb : Sm (b + 1)) (w : World) :
    Calls Tryd.prog 6 #[.int .i64 a, .int .i64 b] w fun e w' => ∃ A c, e = .returned (.slice A 1 c) ∧ 1 ≤ c ∧ c ≤ 9223372036854775807 ∧ IvsAt (w.heap.size ≤ ·) w' A 1 (sp a b) ∧ Below w.heap.size w w' := by
  unfold Sm at ha hb
  have := span_any a b (by omega) (by omega) w
  rw [vI_int, vI_int] at this
  exact this

theorem sets_two {w : World} {l l' : List Iv} {A A' : Option Addr} {n c n' c' : Nat} (h : IvsAt any w A n l) (h' : IvsAt any w A' n' l') (h1 : n ≤ c) (h2 : c ≤ 9223372036854775807) (h1' : n' ≤ c') (h2' : c' ≤ 9223372036854775807) :
    SetsAt any (w.alloc (.cells #[.slice A n c, .slice A' n' c'] 29)) (some ⟨w.heap.size, 0, none⟩) 2 [l, l'] := by
  have K : Below w.heap.size w (w.alloc (.cells #[.slice A n c, .slice A' n' c'] 29)) := (Below.refl _ _).alloc (Nat.le_refl _) _
  have hN := heap_alloc_new w (.cells #[.slice A n c, .slice A' n' c'] 29)
  refine ⟨rfl, .inr ⟨w.heap.size, 0, rfl, trivial, by simp, fun i x hi => ?_⟩⟩
  have k0 : IvsAt any (w.alloc (.cells #[.slice A n c, .slice A' n' c'] 29)) A n l := ⟨h.1, h.2.keep (Keeps.of_below K)⟩
  have k1 : IvsAt any (w.alloc (.cells #[.slice A n c, .slice A' n' c'] 29)) A' n' l' := ⟨h'.1, h'.2.keep (Keeps.of_below K)⟩
  match i, hi with
  | 0, hi =>
    simp at hi
    subst hi
    exact ⟨A, n, c, by simp only [World.cell?, hN]; rfl, k0, h1, h2⟩
  | 1, hi =>
    simp at hi
    subst hi
    exact ⟨A', n', c', by simp only [World.cell?, hN]; rfl, k1, h1', h2'⟩

theorem ivs_any {w : World} {ok : Nat → Prop} {A : Option Addr} {n : Nat} {l : List Iv} (h : IvsAt ok w A n l) : IvsAt any w A n l := ⟨h.1, h.2.mono fun _ _ _ => trivial⟩
theorem ivs_below {w w' : World} {ok : Nat → Prop} (k : Below w.heap.size w w') {A : Option Addr} {n : Nat} {l : List Iv} (h : IvsAt ok w A n l) : IvsAt ok w' A n l := ⟨h.1, h.2.keep (Keeps.of_below k)⟩
theorem rg_any {w : World} {ok : Nat → Prop} {A : Option Addr} {n : Nat} {r : Rg} (h : RgAt ok w r A n) : RgAt any w r A n := RgAt.mono (fun _ _ _ => trivial) _ h

/-- A region in memory, and the cells of a variable that holds it. -/
structure RV (D : Nat) (r : Rg) (A : Option Addr) (m c : Nat) (w : World) : Prop where
  blk : w.heap[D]? = some (.cells #[.int .i64 r.w, .bool r.full, .slice A m c] 24 (0, 0))
  rg : RgAt any w r A m
  mc : m ≤ c
  hc : c ≤ 9223372036854775807
theorem RV.below {D : Nat} {r : Rg} {A : Option Addr} {m c : Nat} {w w' : World} (h : RV D r A m c w) (k : Below w.heap.size w w') : RV D r A m c w' := ⟨(k.block _ (Array.getElem?_eq_some_iff.1 h.blk).1).trans h.blk, RgAt.below k h.rg, h.mc, h.hc⟩
theorem RV.made {ok : Nat → Prop} {r : Rg} {A : Option Addr} {m c : Nat} {w : World} (h : RgAt ok w r A m) (h1 : m ≤ c) (h2 : c ≤ 9223372036854775807) : RV w.heap.size r A m c (w.alloc (.cells #[.int .i64 r.w, .bool r.full, .slice A m c] 24)) :=
  ⟨heap_alloc_new _ _, rg_alloc _ (rg_any h), h1, h2⟩

set_option maxRecDepth 8192 in
set_option maxHeartbeats 6400000 in
open Classical in
theorem begun_any (w : World) (T : Nat) (hT : TabB T w) (hTw : T ≤ w.heap.size) :
    Calls Tryd.prog 8 #[] w fun e w' => e = .returned (.bool true) ∧ Below w.heap.size w w' := by
  have HT := Lib.hid hT; clear hT
  obtain ⟨r1, hr1⟩ : ∃ r, Hid (r = bx (sp 1 2) (sp 5 6)) := ⟨_, rfl⟩
  obtain ⟨r2, hr2⟩ : ∃ r, Hid (r = bx (sp 3 4) (sp 5 6)) := ⟨_, rfl⟩
  obtain ⟨r3, hr3⟩ : ∃ r, Hid (r = bx (sp 3 4) (sp 7 8)) := ⟨_, rfl⟩
  obtain ⟨s1, hs1⟩ : ∃ r, Hid (r = ex1) := ⟨_, rfl⟩
  obtain ⟨s2, hs2⟩ : ∃ r, Hid (r = ex2) := ⟨_, rfl⟩
  have sm := fun (a : Int) (h : -100 ≤ a ∧ a ≤ 100) => sm h
  have HSM := Lib.hid sm; clear sm
  go_enter Tryd.func8, Tryd.ntmps8
  have B10 : Hid (Below w.heap.size w w) := Below.refl _ _
  go_wp2_with fail
  refine (span_sp 1 2 (HSM.out _ (by decide)) (HSM.out _ (by decide)) _).mono ?_
  rintro e w11 ⟨A11, c11, rfl, a1, a2, a3, a4⟩
  have I1 := Lib.hid (ivs_any a3); have B11 := Lib.hid (below_call B10.out a4)
  clear a3 a4 B10
  go_wp2_with fail
  refine (span_sp 5 6 (HSM.out _ (by decide)) (HSM.out _ (by decide)) _).mono ?_
  rintro e w12 ⟨A12, c12, rfl, b1, b2, b3, b4⟩
  have I2 := Lib.hid (ivs_any b3); have B12 := Lib.hid (below_call B11.out b4)
  have I1' := Lib.hid (ivs_below b4 I1.out)
  clear b3 b4 I1 B11
  have B13 : Hid (Below w.heap.size w (w12.alloc (.cells #[.slice A11 1 c11, .slice A12 1 c12] 29))) := B12.out.alloc B12.out.size _
  have hset := boxes_any [sp 1 2, sp 5 6] (some ⟨w12.heap.size, 0, none⟩) 2 2 _ (sets_two I1'.out I2.out a1 a2 b1 b2) (by omega) (by omega)
  rw [boxes_two (HSM.out _ (by decide)) (HSM.out _ (by decide)) (HSM.out _ (by decide)) (HSM.out _ (by decide)) (by decide) (by decide), ← hr1.out] at hset
  have HSET := Lib.hid hset
  clear hset I1' I2 a1 a2 b1 b2
  go_wp2_with fail
  refine HSET.out.mono ?_
  rintro e w14 ⟨hb, E1, m1, d1, rfl, hrg, h1, h2⟩
  simp only
  have B14 := Lib.hid (below_call B13.out hb)
  have B15 : Hid (Below w.heap.size w (w14.alloc (.cells #[.int .i64 r1.w, .bool r1.full, .slice E1 m1 d1] 24))) := B14.out.alloc B14.out.size _
  have V115 := Lib.hid (RV.made hrg h1 h2)
  clear hb hrg h1 h2 HSET B12 B13 B14
  have B20 := B15; clear B15
  have V120 := V115; clear V115
  go_wp2_with fail
  refine (span_sp 3 4 (HSM.out _ (by decide)) (HSM.out _ (by decide)) _).mono ?_
  rintro e w21 ⟨A21, c21, rfl, a1, a2, a3, a4⟩
  have I1 := Lib.hid (ivs_any a3); have B21 := Lib.hid (below_call B20.out a4)
  have V121 := Lib.hid (V120.out.below a4)
  clear a3 a4 B20 V120
  go_wp2_with fail
  refine (span_sp 5 6 (HSM.out _ (by decide)) (HSM.out _ (by decide)) _).mono ?_
  rintro e w22 ⟨A22, c22, rfl, b1, b2, b3, b4⟩
  have I2 := Lib.hid (ivs_any b3); have B22 := Lib.hid (below_call B21.out b4)
  have I1' := Lib.hid (ivs_below b4 I1.out)
  have V122 := Lib.hid (V121.out.below b4)
  clear b3 b4 I1 B21 V121
  have B23 : Hid (Below w.heap.size w (w22.alloc (.cells #[.slice A21 1 c21, .slice A22 1 c22] 29))) := B22.out.alloc B22.out.size _
  have V123 := Lib.hid (V122.out.below ((Below.refl _ _).alloc (Nat.le_refl _) (.cells #[.slice A21 1 c21, .slice A22 1 c22] 29)))
  have hset := boxes_any [sp 3 4, sp 5 6] (some ⟨w22.heap.size, 0, none⟩) 2 2 _ (sets_two I1'.out I2.out a1 a2 b1 b2) (by omega) (by omega)
  rw [boxes_two (HSM.out _ (by decide)) (HSM.out _ (by decide)) (HSM.out _ (by decide)) (HSM.out _ (by decide)) (by decide) (by decide), ← hr2.out] at hset
  have HSET := Lib.hid hset
  clear hset I1' I2 a1 a2 b1 b2
  go_wp2_with fail
  refine HSET.out.mono ?_
  rintro e w24 ⟨hb, E2, m2, d2, rfl, hrg, h1, h2⟩
  simp only
  have B24 := Lib.hid (below_call B23.out hb)
  have V124 := Lib.hid (V123.out.below hb)
  have B25 : Hid (Below w.heap.size w (w24.alloc (.cells #[.int .i64 r2.w, .bool r2.full, .slice E2 m2 d2] 24))) := B24.out.alloc B24.out.size _
  have V125 := Lib.hid (V124.out.below ((Below.refl _ _).alloc (Nat.le_refl _) (.cells #[.int .i64 r2.w, .bool r2.full, .slice E2 m2 d2] 24)))
  have V225 := Lib.hid (RV.made hrg h1 h2)
  clear hb hrg h1 h2 HSET B22 B23 B24 V122 V123 V124
  have B30 := B25; clear B25
  have V130 := V125; clear V125
  have V230 := V225; clear V225
  go_wp2_with fail
  refine (span_sp 3 4 (HSM.out _ (by decide)) (HSM.out _ (by decide)) _).mono ?_
  rintro e w31 ⟨A31, c31, rfl, a1, a2, a3, a4⟩
  have I1 := Lib.hid (ivs_any a3); have B31 := Lib.hid (below_call B30.out a4)
  have V131 := Lib.hid (V130.out.below a4)
  have V231 := Lib.hid (V230.out.below a4)
  clear a3 a4 B30 V130 V230
  go_wp2_with fail
  refine (span_sp 7 8 (HSM.out _ (by decide)) (HSM.out _ (by decide)) _).mono ?_
  rintro e w32 ⟨A32, c32, rfl, b1, b2, b3, b4⟩
  have I2 := Lib.hid (ivs_any b3); have B32 := Lib.hid (below_call B31.out b4)
  have I1' := Lib.hid (ivs_below b4 I1.out)
  have V132 := Lib.hid (V131.out.below b4)
  have V232 := Lib.hid (V231.out.below b4)
  clear b3 b4 I1 B31 V131 V231
  have B33 : Hid (Below w.heap.size w (w32.alloc (.cells #[.slice A31 1 c31, .slice A32 1 c32] 29))) := B32.out.alloc B32.out.size _
  have V133 := Lib.hid (V132.out.below ((Below.refl _ _).alloc (Nat.le_refl _) (.cells #[.slice A31 1 c31, .slice A32 1 c32] 29)))
  have V233 := Lib.hid (V232.out.below ((Below.refl _ _).alloc (Nat.le_refl _) (.cells #[.slice A31 1 c31, .slice A32 1 c32] 29)))
  have hset := boxes_any [sp 3 4, sp 7 8] (some ⟨w32.heap.size, 0, none⟩) 2 2 _ (sets_two I1'.out I2.out a1 a2 b1 b2) (by omega) (by omega)
  rw [boxes_two (HSM.out _ (by decide)) (HSM.out _ (by decide)) (HSM.out _ (by decide)) (HSM.out _ (by decide)) (by decide) (by decide), ← hr3.out] at hset
  have HSET := Lib.hid hset
  clear hset I1' I2 a1 a2 b1 b2
  go_wp2_with fail
  refine HSET.out.mono ?_
  rintro e w34 ⟨hb, E3, m3, d3, rfl, hrg, h1, h2⟩
  simp only
  have B34 := Lib.hid (below_call B33.out hb)
  have V134 := Lib.hid (V133.out.below hb)
  have V234 := Lib.hid (V233.out.below hb)
  have B35 : Hid (Below w.heap.size w (w34.alloc (.cells #[.int .i64 r3.w, .bool r3.full, .slice E3 m3 d3] 24))) := B34.out.alloc B34.out.size _
  have V135 := Lib.hid (V134.out.below ((Below.refl _ _).alloc (Nat.le_refl _) (.cells #[.int .i64 r3.w, .bool r3.full, .slice E3 m3 d3] 24)))
  have V235 := Lib.hid (V234.out.below ((Below.refl _ _).alloc (Nat.le_refl _) (.cells #[.int .i64 r3.w, .bool r3.full, .slice E3 m3 d3] 24)))
  have V335 := Lib.hid (RV.made hrg h1 h2)
  clear hb hrg h1 h2 HSET B32 B33 B34 V132 V133 V134 V232 V233 V234
  have B40 := B35; clear B35
  have V140 := V135; clear V135
  have V240 := V235; clear V235
  have V340 := V335; clear V335
  obtain ⟨x1, x2, x3⟩ := blk3 V140.out.blk
  obtain ⟨y1, y2, y3⟩ := blk3 V240.out.blk
  have hun := union_any r1 r2 E1 E2 m1 d1 m2 d2 _ T V140.out.rg V240.out.rg V140.out.mc V140.out.hc V240.out.mc V240.out.hc (HT.out.on (B40.out.mono hTw)) (Nat.le_trans hTw B40.out.size)
  rw [show applyR (opf true true true false) r1 r2 = (s1, 0) by rw [hr1.out, hr2.out, hs1.out]; exact ex1_union] at hun
  have HUN := Lib.hid hun
  clear hun
  go_wp2_with fail
  refine HUN.out.mono ?_
  rintro e u1 ⟨hb, F1, n1, f1, rfl, hrg, h1, h2⟩
  simp only
  clear x1 x2 x3 y1 y2 y3
  have C10 := Lib.hid (below_call B40.out hb)
  have V151 := Lib.hid ((V140.out.below hb).below ((Below.refl _ _).alloc (Nat.le_refl _) (.cells #[.int .i64 s1.w, .bool s1.full, .slice F1 n1 f1] 24)))
  have V251 := Lib.hid ((V240.out.below hb).below ((Below.refl _ _).alloc (Nat.le_refl _) (.cells #[.int .i64 s1.w, .bool s1.full, .slice F1 n1 f1] 24)))
  have V351 := Lib.hid ((V340.out.below hb).below ((Below.refl _ _).alloc (Nat.le_refl _) (.cells #[.int .i64 s1.w, .bool s1.full, .slice F1 n1 f1] 24)))
  have B51 : Hid (Below w.heap.size w (u1.alloc (.cells #[.int .i64 s1.w, .bool s1.full, .slice F1 n1 f1] 24))) := C10.out.alloc C10.out.size _
  have U151 := Lib.hid (RV.made hrg h1 h2)
  have hn1 : n1 = 1 := by
    have := hrg.len
    rw [hs1.out] at this
    simpa [ex1, bx, ex2, Rg.ps] using this.symm
  clear hb hrg h1 h2 HUN C10 B40 V140 V240 V340
  subst hn1
  obtain ⟨x1, x2, x3⟩ := blk3 V151.out.blk
  obtain ⟨y1, y2, y3⟩ := blk3 V351.out.blk
  have hun := union_any r1 r3 E1 E3 m1 d1 m3 d3 _ T V151.out.rg V351.out.rg V151.out.mc V151.out.hc V351.out.mc V351.out.hc (HT.out.on (B51.out.mono hTw)) (Nat.le_trans hTw B51.out.size)
  rw [show applyR (opf true true true false) r1 r3 = (s2, 0) by rw [hr1.out, hr3.out, hs2.out]; exact ex2_union] at hun
  have HUN := Lib.hid hun
  clear hun
  go_wp2_with fail
  refine HUN.out.mono ?_
  rintro e u2 ⟨hb, F2, n2, f2, rfl, hrg, h1, h2⟩
  simp only
  clear x1 x2 x3 y1 y2 y3
  have C20 := Lib.hid (below_call B51.out hb)
  have U152 := Lib.hid ((U151.out.below hb).below ((Below.refl _ _).alloc (Nat.le_refl _) (.cells #[.int .i64 s2.w, .bool s2.full, .slice F2 n2 f2] 24)))
  have V152 := Lib.hid ((V151.out.below hb).below ((Below.refl _ _).alloc (Nat.le_refl _) (.cells #[.int .i64 s2.w, .bool s2.full, .slice F2 n2 f2] 24)))
  have V252 := Lib.hid ((V251.out.below hb).below ((Below.refl _ _).alloc (Nat.le_refl _) (.cells #[.int .i64 s2.w, .bool s2.full, .slice F2 n2 f2] 24)))
  have V352 := Lib.hid ((V351.out.below hb).below ((Below.refl _ _).alloc (Nat.le_refl _) (.cells #[.int .i64 s2.w, .bool s2.full, .slice F2 n2 f2] 24)))
  have B52 : Hid (Below w.heap.size w (u2.alloc (.cells #[.int .i64 s2.w, .bool s2.full, .slice F2 n2 f2] 24))) := C20.out.alloc C20.out.size _
  have U252 := Lib.hid (RV.made hrg h1 h2)
  have hn2 : n2 = 2 := by
    have := hrg.len
    rw [hs2.out] at this
    simpa [ex1, bx, ex2, Rg.ps] using this.symm
  clear hb hrg h1 h2 HUN C20 B51 U151 V151 V251 V351
  subst hn2
  obtain ⟨x1, x2, x3⟩ := blk3 U152.out.blk
  have hz1 : szOf s1 = 2 := by rw [hs1.out]; exact ex1_size
  have hz2 : szOf s2 = 4 := by rw [hs2.out]; exact ex2_size
  have hz3 : Canon s2 := by rw [hs2.out]; exact ex2_canon
  have HZ1 := Lib.hid hz1; have HZ2 := Lib.hid hz2; have HZ3 := Lib.hid hz3
  clear hz1 hz2 hz3
  go_wp2_with fail
  refine (rsize_any s1 F1 1 f1 _ U152.out.rg U152.out.mc U152.out.hc (HT.out.on (B52.out.mono hTw)) (Nat.le_trans hTw B52.out.size)).mono ?_
  rintro e v1 ⟨rfl, hb1⟩
  rw [HZ1.out]
  have B6 := Lib.hid (below_call B52.out hb1)
  have U26 := Lib.hid (U252.out.below hb1)
  clear hb1 x1 x2 x3 B52 U152 U252
  obtain ⟨x1, x2, x3⟩ := blk3 U26.out.blk
  go_wp2_with fail
  refine (rsize_any s2 F2 2 f2 _ U26.out.rg U26.out.mc U26.out.hc (HT.out.on (B6.out.mono hTw)) (Nat.le_trans hTw B6.out.size)).mono ?_
  rintro e v2 ⟨rfl, hb2⟩
  rw [HZ2.out]
  have B7 := Lib.hid (below_call B6.out hb2)
  have U27 := Lib.hid (U26.out.below hb2)
  clear hb2 x1 x2 x3 B6 U26
  obtain ⟨x1, x2, x3⟩ := blk3 U27.out.blk
  go_wp2_with fail
  refine (rvalid_any s2 F2 2 f2 _ U27.out.rg U27.out.mc U27.out.hc (HT.out.on (B7.out.mono hTw)) (Nat.le_trans hTw B7.out.size)).mono ?_
  rintro e v3 ⟨rfl, hb3⟩
  have B8 := Lib.hid (below_call B7.out hb3)
  have hd : decide (Canon s2) = true := decide_eq_true HZ3.out
  generalize decide (Canon s2) = d at hd
  subst hd
  clear hb3
  go_wp2_with fail
  go_ret
  exact ⟨rfl, B8.out⟩

end Go.Proofs.YtbkgmahpfghheaaDoor
