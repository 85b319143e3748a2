/- Contract of RegionLimits: it returns true, for every byte. -/
import Derived.Test.YtbkgmahpfghheaaDoorBe
namespace Go.Proofs.YtbkgmahpfghheaaDoor
open Go.RowKit
open Ps

def stR (i : Nat) : Rg × Int := if i ≤ 32 then (diag i, 0) else (.mk 0 false [], 2)
theorem RV.put {D : Nat} {r0 r : Rg} {A0 A : Option Addr} {m0 c0 m c : Nat} {w : World} (h : RV D r0 A0 m0 c0 w) {B : Nat} (hB : D < B) (hr : RgAt (B ≤ ·) w r A m) (h1 : m ≤ c) (h2 : c ≤ 9223372036854775807) :
    RV D r A m c (((w.setCell ⟨D, 0, none⟩ (.int .i64 r.w)).setCell ⟨D, 1, none⟩ (.bool r.full)).setCell ⟨D, 2, none⟩ (.slice A m c)) := by
  have K : Kb (fun i => i = D) w (((w.setCell ⟨D, 0, none⟩ (.int .i64 r.w)).setCell ⟨D, 1, none⟩ (.bool r.full)).setCell ⟨D, 2, none⟩ (.slice A m c)) := ((Kb.set _ _ _ _).put rfl _ _).put rfl _ _
  exact ⟨heap_setCell_same _ _ 2 _ _ _ (heap_setCell_same _ _ 1 _ _ _ (heap_setCell_same _ _ 0 _ _ _ h.blk)), rg_any (rg_kb K (fun i e hi => by omega) hr), h1, h2⟩

set_option maxRecDepth 8192 in
set_option maxHeartbeats 1600000 in
open Classical in
/-- RegionLimits: it returns true, whatever the byte. -/
theorem limits_any (n : Nat) (hn : n < 256) (w : World) (T : Nat) (hT : TabB T w) (hTw : T ≤ w.heap.size) :
    Calls Tryd.prog 3 #[.int .u8 n] w fun e w' => e = .returned (.bool true) ∧ Below w.heap.size w w' := by
  have HT := Lib.hid hT; clear hT
  obtain ⟨k, hk⟩ : ∃ k : Nat, k = 28 + n % 10 := ⟨_, rfl⟩
  have hk1 : 28 ≤ k := by omega
  have hk2 : k ≤ 37 := by omega
  have c1 : IntKind.i64.wrap (n : Int) = n := IntWalk.i64_in _ (by omega)
  have c2 : Int.tmod (n : Int) 10 = ((n % 10 : Nat) : Int) := by
    rw [Int.tmod_eq_emod_of_nonneg (by omega)]
    omega
  have c3 : IntKind.i64.wrap ((n % 10 : Nat) : Int) = ((n % 10 : Nat) : Int) := IntWalk.i64_in _ (by omega)
  have c4 : IntKind.i64.wrap (28 + ((n % 10 : Nat) : Int)) = (k : Int) := by rw [IntWalk.i64_in _ (by omega)]; omega
  have HK := Lib.hid hk; clear hk
  go_enter Tryd.func3, Tryd.ntmps3
  go_wp2_with fail
  have hke : (28 : Int) + (n : Int) % 10 = k := by have := HK.out; omega
  rw [hke]
  clear c1 c2 c3 c4 hke
  refine (empty_any 2 (by omega) w).mono ?_
  rintro e w1 ⟨rfl, hb1⟩
  have B1 : Hid (Below w.heap.size w (w1.alloc (.cells #[.int .i64 (2 : Nat), .bool false, .slice none 0 0] 24))) := hb1.alloc hb1.size _
  have V1 : Hid (RV w1.heap.size (diag 0) none 0 0 (w1.alloc (.cells #[.int .i64 (2 : Nat), .bool false, .slice none 0 0] 24))) := by
    refine RV.made (r := diag 0) (ok := any) ?_ (Nat.le_refl _) (by omega)
    show RgAt _ _ (.mk 2 false []) _ _
    rw [RgAt]
    exact ⟨rfl, .inl rfl⟩
  have hD : Hid (w.heap.size ≤ w1.heap.size) := hb1.size
  clear hb1
  go_wp2_with fail
  go_loopw [5, 6] (fun u5 u6 wr => ∃ (i : Nat) (A : Option Addr) (m c : Nat), i ≤ k ∧ i ≤ 33 ∧ u6 = .int .i64 i ∧ u5 = .int .i64 (stR i).2 ∧ Hid (RV w1.heap.size (stR i).1 A m c wr) ∧ Hid (Below w.heap.size w wr)) (fun _ i _ => k - (intOf i).toNat)
  case atStart => exact ⟨0, none, 0, 0, by omega, by omega, rfl, rfl, V1, B1⟩
  case round =>
    obtain ⟨wo, rfl⟩ : ∃ wo, wo = wr := ⟨_, rfl⟩
    obtain ⟨i, A, m, c, hi, hi33, rfl, rfl, hRV, hB⟩ := hrel
    have c6 : IntKind.i64.wrap (2 * (k : Int)) = 2 * (k : Int) := IntWalk.i64_in _ (by omega)
    by_cases hgo : i < k ∧ i ≤ 32
    · obtain ⟨hlt, h32⟩ := hgo
      have hst : stR i = (diag i, 0) := if_pos h32
      rw [hst] at hRV ⊢
      simp only at hRV ⊢
      obtain ⟨r1, hr1⟩ : ∃ r, Hid (r = diag i) := ⟨_, rfl⟩
      obtain ⟨r2, hr2⟩ : ∃ r, Hid (r = bx (sp (3 * i) (3 * i)) (sp (3 * i) (3 * i))) := ⟨_, rfl⟩
      rw [← hr1.out] at hRV
      have c5 : IntKind.i64.wrap (3 * (i : Int)) = 3 * (i : Int) := IntWalk.i64_in _ (by omega)
      have HS1 : Hid (Sm (3 * (i : Int))) := by show -1000000 ≤ _ ∧ _ ≤ _; omega
      have HS2 : Hid (Sm (3 * (i : Int) + 1)) := by show -1000000 ≤ _ ∧ _ ≤ _; omega
      have hltI : (i : Int) < k := by omega
      clear hst
      have B10 := hB; clear hB
      have V10 := hRV; clear hRV
      go_wp2_with fail
      refine (span_sp (3 * i) (3 * i) HS1.out HS2.out _).mono ?_
      rintro e w11 ⟨A11, c11, rfl, a1, a2, a3, a4⟩
      have I1 := Lib.hid (ivs_any a3); have B11 := Lib.hid (below_call B10.out a4)
      have V11 := Lib.hid (V10.out.below a4)
      clear a3 a4 B10 V10
      go_wp2_with fail
      refine (span_sp (3 * i) (3 * i) HS1.out HS2.out _).mono ?_
      rintro e w12 ⟨A12, c12, rfl, b1, b2, b3, b4⟩
      have I2 := Lib.hid (ivs_any b3); have B12 := Lib.hid (below_call B11.out b4)
      have I1' := Lib.hid (ivs_below b4 I1.out)
      have V12 := Lib.hid (V11.out.below b4)
      clear b3 b4 I1 B11 V11
      have B13 : Hid (Below w.heap.size w (w12.alloc (.cells #[.slice A11 1 c11, .slice A12 1 c12] 29))) := B12.out.alloc B12.out.size _
      have V13 := Lib.hid (V12.out.below ((Below.refl _ _).alloc (Nat.le_refl _) (.cells #[.slice A11 1 c11, .slice A12 1 c12] 29)))
      have hset := boxes_any [sp (3 * i) (3 * i), sp (3 * i) (3 * i)] (some ⟨w12.heap.size, 0, none⟩) 2 2 _ (sets_two I1'.out I2.out a1 a2 b1 b2) (by omega) (by omega)
      rw [boxes_two HS1.out HS2.out HS1.out HS2.out (Int.le_refl _) (Int.le_refl _), ← hr2.out] at hset
      have HSET := Lib.hid hset
      clear hset I1' I2 a1 a2 b1 b2
      go_wp2_with fail
      refine HSET.out.mono ?_
      rintro e w14 ⟨hb, E2, m2, d2, rfl, hrg, h1, h2⟩
      simp only
      have B14 := Lib.hid (below_call B13.out hb)
      have V14 := Lib.hid (V13.out.below hb)
      have B15 : Hid (Below w.heap.size w (w14.alloc (.cells #[.int .i64 r2.w, .bool r2.full, .slice E2 m2 d2] 24))) := B14.out.alloc B14.out.size _
      have V15 := Lib.hid (V14.out.below ((Below.refl _ _).alloc (Nat.le_refl _) (.cells #[.int .i64 r2.w, .bool r2.full, .slice E2 m2 d2] 24)))
      have V25 := Lib.hid (RV.made hrg h1 h2)
      clear hb hrg h1 h2 HSET B12 B13 B14 V12 V13 V14
      obtain ⟨x1, x2, x3, x4, x5, x6⟩ := blk6 V15.out.blk
      obtain ⟨y1, y2, y3⟩ := blk3 V25.out.blk
      have hun := union_any r1 r2 A E2 m c m2 d2 _ T V15.out.rg V25.out.rg V15.out.mc V15.out.hc V25.out.mc V25.out.hc (HT.out.on (B15.out.mono hTw)) (Nat.le_trans hTw B15.out.size)
      rw [show applyR (opf true true true false) r1 r2 = stR (i + 1) by
        rw [hr1.out, hr2.out, diag_union h32]
        rfl] at hun
      have HUN := Lib.hid hun
      clear hun
      obtain ⟨s, z, hsz⟩ : ∃ s z, Hid (stR (i + 1) = (s, z)) := ⟨_, _, rfl⟩
      go_wp2_with fail
      refine HUN.out.mono ?_
      rw [hsz.out]
      rintro e u1 ⟨hb, F, mf, cf, rfl, hrg, h1, h2⟩
      simp only
      have hDlt : w1.heap.size < (w14.alloc (.cells #[.int .i64 r2.w, .bool r2.full, .slice E2 m2 d2] 24)).heap.size := (Array.getElem?_eq_some_iff.1 V15.out.blk).1
      have V6 := Lib.hid ((V15.out.below hb).put hDlt hrg h1 h2)
      have B6 : Hid (Below w.heap.size w (((u1.setCell ⟨w1.heap.size, 0, none⟩ (.int .i64 s.w)).setCell ⟨w1.heap.size, 1, none⟩ (.bool s.full)).setCell ⟨w1.heap.size, 2, none⟩ (.slice F mf cf))) := (((below_call B15.out hb).setCell hD.out _).setCell hD.out _).setCell hD.out _
      obtain ⟨x1, x2, x3, x4, x5, x6⟩ := blk6 (V15.out.below hb).blk
      clear hb hrg h1 h2 HUN V15 V25 B15 hDlt
      go_wp2_with fail
      go_roundw
      case rel => exact ⟨i + 1, F, mf, cf, by omega, by omega, by go_num, by rw [hsz.out], by rw [hsz.out]; exact V6, B6⟩
      case measure => simp [intOf]; omega
    · have HV := hRV
      have hout : Hid (Below w.heap.size w wo) := hB
      clear hRV hB
      by_cases hk32 : k ≤ 32
      · have hik : i = k := by
          by_cases h : i < k
          · exact absurd ⟨h, by omega⟩ hgo
          · omega
        subst hik
        have hst : stR i = (diag i, 0) := if_pos hk32
        rw [hst] at HV ⊢
        simp only at HV ⊢
        obtain ⟨r1, hr1⟩ : ∃ r, Hid (r = diag i) := ⟨_, rfl⟩
        rw [← hr1.out] at HV
        have hsz : Hid (szOf r1 = 2 * i) := by show _ = _; rw [hr1.out, diag_size hk32]
        have hd : decide (2 * (i : Int) > 64) = false := by simp; omega
        have hd2 : ¬ (64 : Int) < 2 * (i : Int) := by omega
        clear hst hgo
        go_wp2_with fail
        refine (begun_any wo T (HT.out.on (hout.out.mono hTw)) (Nat.le_trans hTw hout.out.size)).mono ?_
        rintro e w2 ⟨rfl, hb2⟩
        have B2 := Lib.hid (below_call hout.out hb2)
        have V2 := Lib.hid (HV.out.below hb2)
        clear hb2
        obtain ⟨x1, x2, x3⟩ := blk3 V2.out.blk
        go_wp2_with fail
        refine (rsize_any r1 A m c _ V2.out.rg V2.out.mc V2.out.hc (HT.out.on (B2.out.mono hTw)) (Nat.le_trans hTw B2.out.size)).mono ?_
        rintro e w3 ⟨rfl, hb3⟩
        rw [hsz.out]
        have B3 := Lib.hid (below_call B2.out hb3)
        clear hb3
        have heq : ((2 * (i : Int)) == 2 * (i : Int)) = true := by simp
        go_wp2_with fail
        go_ret
        exact ⟨rfl, B3.out⟩
      · have hi : i = 33 := by
          by_cases h : i < k
          · by_cases h2 : i ≤ 32
            · exact absurd ⟨h, h2⟩ hgo
            · omega
          · omega
        have hst : stR i = (.mk 0 false [], 2) := if_neg (by omega)
        rw [hst] at HV ⊢
        simp only at HV ⊢
        have hm0 : m = 0 := HV.out.rg.len.symm
        subst hm0
        have hd : decide (2 * (k : Int) > 64) = true := by simp; omega
        have hd2 : (64 : Int) < 2 * (k : Int) := by omega
        clear hst
        by_cases hlt : i < k
        · have hltI : (i : Int) < k := by omega
          clear hgo hi
          go_wp2_with fail
          refine (begun_any wo T (HT.out.on (hout.out.mono hTw)) (Nat.le_trans hTw hout.out.size)).mono ?_
          rintro e w2 ⟨rfl, hb2⟩
          have B2 := Lib.hid (below_call hout.out hb2)
          have V2 := Lib.hid (HV.out.below hb2)
          clear hb2
          obtain ⟨x1, x2, x3⟩ := blk3 V2.out.blk
          go_wp2_with fail
          go_ret
          exact ⟨rfl, B2.out⟩
        · have hltI : ¬ (i : Int) < k := by omega
          clear hgo hi
          go_wp2_with fail
          refine (begun_any wo T (HT.out.on (hout.out.mono hTw)) (Nat.le_trans hTw hout.out.size)).mono ?_
          rintro e w2 ⟨rfl, hb2⟩
          have B2 := Lib.hid (below_call hout.out hb2)
          have V2 := Lib.hid (HV.out.below hb2)
          clear hb2
          obtain ⟨x1, x2, x3⟩ := blk3 V2.out.blk
          go_wp2_with fail
          go_ret
          exact ⟨rfl, B2.out⟩

end Go.Proofs.YtbkgmahpfghheaaDoor
