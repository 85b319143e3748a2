/- Contract of region.combine: for canonical regions of one width, at most 12, it returns what the plain law lform says. -/
import Derived.Test.YtbkgmahpfghheaaDoorWt
import Derived.Deep.RegionWith
import Derived.Deep.RegionHeld3
import Derived.Deep.AppendLies
import Derived.Test.YtbkgmahpfghheaaDoorWq2
namespace Go.Proofs.YtbkgmahpfghheaaDoor
open Go.RowKit
open Ps
open Go.Maps (Keyed)

set_option maxRecDepth 8192 in
set_option maxHeartbeats 40000000 in
open Classical in
theorem combine_any (b4 f4 s4 n4 : Bool) (n : Nat) : n ≤ 12 → ∀ (a b : Rg) (A B : Option Addr) (m c m' c' : Nat) (w : World) (T : Nat), Ps.Form n a → Ps.Form n b → Fits a → Fits b → RgAt any w a A m → RgAt any w b B m' → m ≤ c → c ≤ 9223372036854775807 → m' ≤ c' → c' ≤ 9223372036854775807 →
    TabB T w → T ≤ w.heap.size →
    Calls Tryd.prog 18 #[.agg #[.int .i64 a.w, .bool a.full, .slice A m c], .agg #[.int .i64 b.w, .bool b.full, .slice B m' c'], holdsV b4 f4 s4 n4] w (CombPost (lform (opf b4 f4 s4 n4) n a b) w) := by
  induction n with
  | zero =>
    intro _ a b A B m c m' c' w T ha hb _ _ _ _ _ _ _ _ _ _
    rw [ha.1, hb.1]
    have hF : Hid (lform (opf b4 f4 s4 n4) 0 a b = some (.mk 0 (opf b4 f4 s4 n4 a.full b.full) [])) := by show lform _ 0 a b = _; rw [lform]
    clear ha hb
    have hb0 : Hid (Below w.heap.size w (((w.alloc (.cells #[.int .i64 0, .bool a.full, .slice A m c] 24)).alloc (.cells #[.int .i64 0, .bool b.full, .slice B m' c'] 24)).alloc (.cells #[.int .i64 0, .bool false, .slice none 0 0] 24))) := (((Below.refl _ _).alloc (Nat.le_refl _) _).alloc (by simp) _).alloc (by simp; omega) _
    go_enter Tryd.func18, Tryd.ntmps18
    go_wp2_with fail
    refine (holds_any b4 f4 s4 n4 a.full b.full _).mono ?_
    rintro e w2 ⟨rfl, hb2⟩
    have hr : Hid (w2.heap[w.heap.size + 1 + 1]? = some (.cells #[.int .i64 0, .bool false, .slice none 0 0] 24 (0, 0))) := by
      refine (hb2.block _ (by simp)).trans ?_
      have := heap_alloc_new ((w.alloc (.cells #[.int .i64 0, .bool a.full, .slice A m c] 24)).alloc (.cells #[.int .i64 0, .bool b.full, .slice B m' c'] 24)) (.cells #[.int .i64 0, .bool false, .slice none 0 0] 24)
      have e : ((w.alloc (.cells #[.int .i64 0, .bool a.full, .slice A m c] 24)).alloc (.cells #[.int .i64 0, .bool b.full, .slice B m' c'] 24)).heap.size = w.heap.size + 1 + 1 := by simp
      rw [e] at this
      exact this
    have HB2 : Hid (Below w.heap.size w w2) := hb0.out.trans (hb2.mono (by simp; omega))
    have c0 : w2.cell? ⟨w.heap.size + 1 + 1, 0, none⟩ = some (.int .i64 0) := by simp [World.cell?, hr.out]
    have c1 : w2.cell? ⟨w.heap.size + 1 + 1, 1, none⟩ = some (.bool false) := by simp [World.cell?, hr.out]
    have c2 : w2.cell? ⟨w.heap.size + 1 + 1, 2, none⟩ = some (.slice none 0 0) := by simp [World.cell?, hr.out]
    have f0 : w2.frozen? ⟨w.heap.size + 1 + 1, 0, none⟩ = false := by simp [World.frozen?, hr.out]
    have f1 : w2.frozen? ⟨w.heap.size + 1 + 1, 1, none⟩ = false := by simp [World.frozen?, hr.out]
    have f2 : w2.frozen? ⟨w.heap.size + 1 + 1, 2, none⟩ = false := by simp [World.frozen?, hr.out]
    clear hb2 hb0
    go_wp2_with fail
    refine bodyPost_ret (v := .tuple #[.agg #[.int .i64 0, .bool (opf b4 f4 s4 n4 a.full b.full), .slice none 0 0], .bool true]) (by simp [results, Tryd.results18, go_sem, c0, c1, c2]) rfl ⟨?_, ?_⟩
    · exact ((HB2.out.setCell (by simp; omega) _).setCell (by simp; omega) _).setCell (by simp; omega) _
    · rw [hF.out]
      exact ⟨none, 0, 0, rfl, by rw [RgAt]; exact ⟨rfl, .inl rfl⟩, by omega, by omega⟩
  | succ n ih =>
    intro hn12 a b A B m c m' c' w T ha hb hfa hfb hra hrb hmc hc hmc' hc' hT hTw
    have hla := hra.len
    have hlb := hrb.len
    have IH := Lib.hid (ih (by omega)); clear ih
    have FA := Lib.hid ha; have FB := Lib.hid hb; have LA := Lib.hid hfa; have LB := Lib.hid hfb
    have RA := Lib.hid hra; have RB := Lib.hid hrb; have HT := Lib.hid hT
    have hwa := ha.1
    have hwb := hb.1
    have ha64 : m ≤ 64 := by
      have h1 := hfa.1
      rw [Rg.cnt_ps] at h1
      have : ∀ (ps : Pts), ps.length ≤ cntL ps := by
        intro ps
        induction ps with
        | nil => simp
        | cons q t ih => rw [cntL_cons]; simp only [List.length_cons]; omega
      have := this a.ps
      omega
    have hb64 : m' ≤ 64 := by
      have h1 := hfb.1
      rw [Rg.cnt_ps] at h1
      have : ∀ (ps : Pts), ps.length ≤ cntL ps := by
        intro ps
        induction ps with
        | nil => simp
        | cons q t ih => rw [cntL_cons]; simp only [List.length_cons]; omega
      have := this b.ps
      omega
    have hsa : ∀ p ∈ a.ps, p.1.length ≤ 64 := fun p hp => ((Rg.slim_iff a).1 hfa.2 p hp).1
    have hsb : ∀ p ∈ b.ps, p.1.length ≤ 64 := fun p hp => ((Rg.slim_iff b).1 hfb.2 p hp).1
    have SA := Lib.hid hsa; have SB := Lib.hid hsb
    clear ha hb hfa hfb hra hrb hT hsa hsb
    rw [hwa, hwb]
    have a2 : ((n : Int) + 1 == 0) = false := by simp; omega
    go_enter Tryd.func18, Tryd.ntmps18
    go_upto_region 4 with fail
    have hX : Hid (CBox w.heap.size ((n : Int) + 1) [.int .i64 ((n : Int) + 1), .bool a.full, .slice A m c] [.int .i64 ((n : Int) + 1), .bool b.full, .slice B m' c'] ((((w.alloc (.cells #[.int .i64 ((n : Int) + 1), .bool a.full, .slice A m c] 24)).alloc (.cells #[.int .i64 ((n : Int) + 1), .bool b.full, .slice B m' c'] 24)).alloc (.cells #[.int .i64 0, .bool false, .slice none 0 0] 24)).alloc (.cells #[.int .i64 ((n : Int) + 1), .bool false, .slice none 0 0] 24)) (.slice none 0 0)) := by
      constructor
      · rw [Below.heap_alloc _ _ _ (by simp <;> omega), Below.heap_alloc _ _ _ (by simp <;> omega), Below.heap_alloc _ _ _ (by simp)]
        exact heap_alloc_new w _
      · rw [Below.heap_alloc _ _ _ (by simp <;> omega), Below.heap_alloc _ _ _ (by simp)]
        have := heap_alloc_new (w.alloc (.cells #[.int .i64 ((n : Int) + 1), .bool a.full, .slice A m c] 24)) (.cells #[.int .i64 ((n : Int) + 1), .bool b.full, .slice B m' c'] 24)
        simpa using this
      · rw [Below.heap_alloc _ _ _ (by simp)]
        have := heap_alloc_new ((w.alloc (.cells #[.int .i64 ((n : Int) + 1), .bool a.full, .slice A m c] 24)).alloc (.cells #[.int .i64 ((n : Int) + 1), .bool b.full, .slice B m' c'] 24)) (.cells #[.int .i64 0, .bool false, .slice none 0 0] 24)
        simpa using this
      · have := heap_alloc_new (((w.alloc (.cells #[.int .i64 ((n : Int) + 1), .bool a.full, .slice A m c] 24)).alloc (.cells #[.int .i64 ((n : Int) + 1), .bool b.full, .slice B m' c'] 24)).alloc (.cells #[.int .i64 0, .bool false, .slice none 0 0] 24)) (.cells #[.int .i64 ((n : Int) + 1), .bool false, .slice none 0 0] 24)
        simpa using this
    have hB0 : Hid (Below w.heap.size w ((((w.alloc (.cells #[.int .i64 ((n : Int) + 1), .bool a.full, .slice A m c] 24)).alloc (.cells #[.int .i64 ((n : Int) + 1), .bool b.full, .slice B m' c'] 24)).alloc (.cells #[.int .i64 0, .bool false, .slice none 0 0] 24)).alloc (.cells #[.int .i64 ((n : Int) + 1), .bool false, .slice none 0 0] 24))) :=
      ((((Below.refl _ _).alloc (Nat.le_refl _) _).alloc (by simp) _).alloc (by simp <;> omega) _).alloc (by simp <;> omega) _
    generalize ((((w.alloc (.cells #[.int .i64 ((n : Int) + 1), .bool a.full, .slice A m c] 24)).alloc (.cells #[.int .i64 ((n : Int) + 1), .bool b.full, .slice B m' c'] 24)).alloc (.cells #[.int .i64 0, .bool false, .slice none 0 0] 24)).alloc (.cells #[.int .i64 ((n : Int) + 1), .bool false, .slice none 0 0] 24)) = W0 at hX hB0 ⊢
    have HA0 : Hid (∀ W, W0.heap.size ≤ W.heap.size → (∀ k, k < W0.heap.size → W.heap[k]? = W0.heap[k]?) → RgAt any W a A m) := fun W h1 h2 => RgAt.keep ⟨h1, fun k _ hk => h2 k hk⟩ a (RA.out.below hB0.out)
    have HB0' : Hid (∀ W, W0.heap.size ≤ W.heap.size → (∀ k, k < W0.heap.size → W.heap[k]? = W0.heap[k]?) → RgAt any W b B m') := fun W h1 h2 => RgAt.keep ⟨h1, fun k _ hk => h2 k hk⟩ b (RB.out.below hB0.out)
    go_cut [9, 10] from 26 (fun u9 u10 wx => ∃ A1 c1 L1 A2 c2 L2, u9 = .slice A1 (L1 : List Sp).length c1 ∧ u10 = .slice A2 (L2 : List Sp).length c2 ∧ Hid (SpAt (W0.heap.size ≤ ·) wx A1 L1.length L1) ∧ Hid (SpAt (W0.heap.size ≤ ·) wx A2 L2.length L2) ∧ L1.length ≤ c1 ∧ L2.length ≤ c2 ∧ c1 ≤ 9223372036854775807 ∧ c2 ≤ 9223372036854775807 ∧
      Hid (L1.Perm (flatS 0 a.ps) ∧ L1.Pairwise (fun s t => s.1.lo ≤ t.1.lo)) ∧ Hid (L2.Perm (flatS 0 b.ps) ∧ L2.Pairwise (fun s t => s.1.lo ≤ t.1.lo)) ∧ Below W0.heap.size W0 wx)
    case first => as_aux_lemma =>
      obtain ⟨g0, g1, g2, g3⟩ := hX.out
      have ca0 : W0.cell? ⟨w.heap.size, 0, none⟩ = some (.int .i64 ((n : Int) + 1)) := by simp [World.cell?, g0]
      have ca1 : W0.cell? ⟨w.heap.size, 1, none⟩ = some (.bool a.full) := by simp [World.cell?, g0]
      have ca2 : W0.cell? ⟨w.heap.size, 2, none⟩ = some (.slice A m c) := by simp [World.cell?, g0]
      have cb0 : W0.cell? ⟨w.heap.size + 1, 0, none⟩ = some (.int .i64 ((n : Int) + 1)) := by simp [World.cell?, g1]
      have cb1 : W0.cell? ⟨w.heap.size + 1, 1, none⟩ = some (.bool b.full) := by simp [World.cell?, g1]
      have cb2 : W0.cell? ⟨w.heap.size + 1, 2, none⟩ = some (.slice B m' c') := by simp [World.cell?, g1]
      have hba : w.heap.size < W0.heap.size := (Array.getElem?_eq_some_iff.1 g0).1
      have hbb : w.heap.size + 1 < W0.heap.size := (Array.getElem?_eq_some_iff.1 g1).1
      have hca : ∀ W, RgAt any W a A m → Calls Tryd.prog 21 #[.agg #[.int .i64 ((n : Int) + 1), .bool a.full, .slice A m c]] W (SpansPost a W) := fun W h => by
        have := spans_any a A m c W h hmc hc ha64 SA.out
        rwa [hwa] at this
      have hcb : ∀ W, RgAt any W b B m' → Calls Tryd.prog 21 #[.agg #[.int .i64 ((n : Int) + 1), .bool b.full, .slice B m' c']] W (SpansPost b W) := fun W h => by
        have := spans_any b B m' c' W h hmc' hc' hb64 SB.out
        rwa [hwb] at this
      have HCA := Lib.hid hca; have HCB := Lib.hid hcb
      clear hca hcb g0 g1 g2 g3
      go_region_with (first
        | (go_at_call_of 21 (Value.slice A m c); refine (HCA.out _ ?_).mono ?_; exact HA0.out _ (Nat.le_refl _) (fun _ _ => rfl); rintro e w1 ⟨A1, c1, L1, rfl, q1, q2, q3, q4, q5, gb1⟩; have cb0 := (gb1.cell hbb).trans cb0; have cb1 := (gb1.cell hbb).trans cb1; have cb2 := (gb1.cell hbb).trans cb2; have Q1 := Lib.hid q1; have Q2 := Lib.hid (And.intro q4 q5); have GB := Lib.hid gb1; clear q1 q4 q5 gb1)
        | (go_at_call_of 21 (Value.slice B m' c'); refine (HCB.out _ ?_).mono ?_; exact HB0'.out _ GB.out.size GB.out.block; rintro e w2 ⟨A2, c2, L2, rfl, q1', q2', q3', q4', q5', gb2⟩; have Q3 := Lib.hid q1'; have Q4 := Lib.hid (And.intro q4' q5'); have GB2 := Lib.hid gb2; clear q1' q4' q5' gb2))
      all_goals
        go_wp2_with fail
        go_meet
        refine ⟨A1, c1, L1, A2, c2, L2, rfl, rfl, SpAt.below GB2.out Q1.out, ⟨Q3.out.1, Q3.out.2.mono (fun i _ hi => Nat.le_trans GB.out.size hi)⟩, q2, q2', q3, q3', Q2, Q4, ?_⟩
        exact below_call (show Below W0.heap.size W0 w1 from ⟨GB.out.os, GB.out.tape, GB.out.output, GB.out.size, GB.out.block⟩) GB2.out
    case rest =>
      obtain ⟨A1, c1, L1, A2, c2, L2, rfl, rfl, S1, S2, hl1, hl2, hk1, hk2, P1, P2, hbc⟩ := hcut
      have hL1 : L1.length ≤ 4096 := by
        have h1 := P1.out.1.length_eq
        have h2 := flatS_len 0 a.ps SA.out
        rw [hla] at h2
        omega
      have hL2 : L2.length ≤ 4096 := by
        have h1 := P2.out.1.length_eq
        have h2 := flatS_len 0 b.ps SB.out
        rw [hlb] at h2
        omega
      have X1 := Lib.hid (hX.out.below hbc)
      have BC := Lib.hid hbc; clear hbc
      have hmm := @run_makeMap Tryd.prog
      go_wp2_with fail
      refine (segments_any _ _ L1 L2 A1 A2 L1.length c1 L2.length c2 wc S1.out S2.out (by omega) (by omega) hl1 hl2 hk1 hk2).mono ?_
      rintro e w3 ⟨g3, c3, rfl, hown3, hb3⟩
      have hpts := sends_points P1.out.1 P2.out.1
      rw [hpts] at hown3 ⊢
      clear hpts
      have HO3 := Lib.hid hown3; clear hown3
      have HB3 := Lib.hid hb3; clear hb3
      go_wp2_with fail
      have hs3 : w.heap.size + 1 + 1 + 1 < w3.heap.size := by
        have h1 := (Array.getElem?_eq_some_iff.1 X1.out.o).1
        have h2 := HB3.out.size
        omega
      have RO1 : Hid (SpAt (fun k => k < w3.heap.size ∧ k ∉ fixOf w.heap.size w3.heap.size) ((w3.alloc (.map #[] 0)).alloc (.map #[] 0)) A1 L1.length L1) := by
        have hW := (Array.getElem?_eq_some_iff.1 hX.out.o).1
        have hs := HB3.out.size
        have h1 : SpAt (fun k => k < w3.heap.size ∧ k ∉ fixOf w.heap.size w3.heap.size) wc A1 L1.length L1 := ⟨S1.out.1, S1.out.2.mono (fun i hi ho => ⟨by omega, by simp only [fixOf, List.mem_cons, List.not_mem_nil, or_false]; omega⟩)⟩
        exact SpAt.below (((HB3.out.alloc hs _).alloc (by simp; omega) _)) h1
      have RO2 : Hid (SpAt (fun k => k < w3.heap.size ∧ k ∉ fixOf w.heap.size w3.heap.size) ((w3.alloc (.map #[] 0)).alloc (.map #[] 0)) A2 L2.length L2) := by
        have hW := (Array.getElem?_eq_some_iff.1 hX.out.o).1
        have hs := HB3.out.size
        have h1 : SpAt (fun k => k < w3.heap.size ∧ k ∉ fixOf w.heap.size w3.heap.size) wc A2 L2.length L2 := ⟨S2.out.1, S2.out.2.mono (fun i hi ho => ⟨by omega, by simp only [fixOf, List.mem_cons, List.not_mem_nil, or_false]; omega⟩)⟩
        exact SpAt.below (((HB3.out.alloc hs _).alloc (by simp; omega) _)) h1
      have MW0 : Hid (MW w.heap.size w3.heap.size ((n : Int) + 1) [.int .i64 ((n : Int) + 1), .bool a.full, .slice A m c] [.int .i64 ((n : Int) + 1), .bool b.full, .slice B m' c'] ((w3.alloc (.map #[] 0)).alloc (.map #[] 0)) 0 0 [] [] (.slice none 0 0) (fun _ => none) (fun _ => none) ((w3.alloc (.map #[] 0)).alloc (.map #[] 0))) := by
        refine ⟨(X1.out.below HB3.out).below (((Below.refl _ _).alloc (Nat.le_refl _) _).alloc (by simp) _), OutAt.nil _ _ _, ?_, ?_, ⟨rfl, rfl, rfl, Nat.le_refl _, fun _ _ _ => rfl⟩, by simp, hs3⟩
        · exact (MI.made 62 w3).kept (by rw [Below.heap_alloc _ _ _ (by simp)])
        · have := MI.made 9 (w3.alloc (.map #[] 0))
          have e : (w3.alloc (.map #[] 0)).heap.size = w3.heap.size + 1 := by simp
          rw [e] at this
          exact this
      have BW4 : Hid (Below w.heap.size w ((w3.alloc (.map #[] 0)).alloc (.map #[] 0))) := by
        have q1 := hB0.out
        have q2 := below_call q1 BC.out
        have q3 := below_call q2 HB3.out
        exact (q3.alloc q3.size _).alloc (by have := q3.size; simp; omega) _
      have hpl : (points a b).length ≤ 20000 := points_len P1.out.1 P2.out.1 hL1 hL2
      obtain ⟨R, hR⟩ : ∃ R, R = lsweep (fun v => lform (opf b4 f4 s4 n4) n (restAt a v) (restAt b v)) (points a b) [] none := ⟨_, rfl⟩
      have LS0 : Hid (LS (opf b4 f4 s4 n4) n a b L1 L2 (points a b) R 0 none [] (fun _ => none) (fun _ => none) L1 L2) := ⟨CS.start _ _ _ _, fun p _ => rfl, fun p _ => rfl, hR.symm⟩
      have HR := Lib.hid hR; clear hR
      have HPL := Lib.hid hpl; clear hpl
      generalize hw4 : ((w3.alloc (.map #[] 0)).alloc (.map #[] 0)) = w4 at MW0 BW4 RO1 RO2 ⊢
      have HW4 := Lib.hid hw4; clear hw4
      obtain ⟨RO, hRO⟩ : ∃ RO : Nat → Prop, RO = fun k => k < w3.heap.size ∧ k ∉ fixOf w.heap.size w3.heap.size := ⟨_, rfl⟩
      rw [← hRO] at RO1 RO2
      have HRO := Lib.hid hRO; clear hRO
      go_loopw [9, 10, 14, 50] (fun u9 u10 u14 u50 wr => ∃ (k : Nat) (last : Option Nat) (ps : Pts) (us : List (Value × Value)) (v : Value) (known byText : Lit → Option Int) (LA LB : List Sp) (Aa Ab : Option Addr) (ca cb : Nat), k ≤ (points a b).length ∧ u50 = .int .i64 k ∧ u14 = .int .i64 (kI last) ∧ u9 = .slice Aa LA.length ca ∧ u10 = .slice Ab LB.length cb ∧
        Hid (SpAt RO wr Aa LA.length LA) ∧ Hid (SpAt RO wr Ab LB.length LB) ∧ LA.length ≤ ca ∧ ca ≤ 9223372036854775807 ∧ LB.length ≤ cb ∧ cb ≤ 9223372036854775807 ∧
        Hid (MW w.heap.size w3.heap.size ((n : Int) + 1) [.int .i64 ((n : Int) + 1), .bool a.full, .slice A m c] [.int .i64 ((n : Int) + 1), .bool b.full, .slice B m' c'] w4 k k ps us v known byText wr) ∧
        Hid (LS (opf b4 f4 s4 n4) n a b L1 L2 (points a b) R k last ps known byText LA LB)) (fun _ _ _ i _ => (points a b).length - (intOf i).toNat)
      case atStart => exact ⟨0, none, [], [], _, _, _, L1, L2, A1, A2, c1, c2, by omega, rfl, rfl, rfl, rfl, RO1, RO2, hl1, hk1, hl2, hk2, MW0, LS0⟩
      case round =>
        obtain ⟨wo, rfl⟩ : ∃ wo, wo = wr := ⟨_, rfl⟩
        obtain ⟨k, last, ps, us, v, known, byText, LA0, LB0, Aa, Ab, ca, cb, hk, rfl, rfl, rfl, rfl, SA1, SB1, e1, e2, e3, e4, X, Y⟩ := hrel
        by_cases hlt : k < (points a b).length
        · have HLT := Lib.hid hlt
          obtain ⟨p, hp⟩ : ∃ p, (points a b)[k]? = some p := ⟨(points a b)[k], List.getElem?_eq_getElem hlt⟩
          have hdrop : Hid ((points a b).drop k = p :: (points a b).drop (k + 1)) := by
            obtain ⟨h1, h2⟩ := List.getElem?_eq_some_iff.1 hp
            show _ = _
            rw [List.drop_eq_getElem_cons h1, h2]
          have hrow : wo.ownsRow wc.heap.size 39 3 (.slice (some ⟨g3, 0, none⟩) (points a b).length c3) (points a b).length ((points a b).flatMap Vl.cells) := by
            refine own_kept_of HO3.out fun j e => ?_
            have hj := HO3.out.lt j e
            have hW := (Array.getElem?_eq_some_iff.1 X1.out.o).1
            rw [X.out.low.block j (by omega) (by rw [fix_iff]; omega), ← HW4.out, Below.heap_alloc _ _ _ (by simp; omega), Below.heap_alloc _ _ _ hj.2]
          obtain ⟨x1, x2, x3⟩ := own_vl hrow hp
          clear hrow hp
          have ZA := X.out.low.size
          have ZB := X.out.sz
          have ZC := X.out.b4
          have XS := Lib.hid (And.intro ZA (And.intro ZB ZC)); clear ZA ZB ZC
          have BP : Hid (Below wo.heap.size wo ((wo.alloc (.cells #[.int .i64 p.kind, .int .i64 p.num, .string p.text] 39)).alloc (.cells #[.int .i64 0, .int .i64 0] 62))) := ((Below.refl _ _).alloc (Nat.le_refl _) _).alloc (by simp) _
          have hPB : Hid (PB wo.heap.size p 0 0 ((wo.alloc (.cells #[.int .i64 p.kind, .int .i64 p.num, .string p.text] 39)).alloc (.cells #[.int .i64 0, .int .i64 0] 62))) := PB.made wo p
          go_wp2_with fail
          clear x1 x2 x3
          refine (at_any RO p LA0 Aa LA0.length ca _ (SpAt.below BP.out SA1.out) e1 e2).mono ?_
          rintro e w6 ⟨A5, n5, c5, rfl, hs5, e5, e6, hb6⟩
          have hPB6 := Lib.hid (hPB.out.below hb6)
          have hb6' := Lib.hid (below_call BP.out hb6)
          have S6 := Lib.hid hs5
          clear hs5 hb6 hPB BP
          obtain ⟨y0, y1, y2, y3, y4, y5, y6⟩ := hPB6.out.facts (atI p LA0)
          have hLA : atL p LA0 = atL p L1 := Y.out.la p (by rw [hdrop.out]; simp)
          have hLB : atL p LB0 = atL p L2 := Y.out.lb p (by rw [hdrop.out]; simp)
          obtain ⟨hx1, hx2, hx3⟩ := at_rest FA.out P1.out.1 P1.out.2 p
          obtain ⟨hy1, hy2, hy3⟩ := at_rest FB.out P2.out.1 P2.out.2 p
          rw [← atI_congr hLA] at hx1 hx2 hx3
          rw [← atI_congr hLB] at hy1 hy2 hy3
          generalize hxx : atI p LA0 = x at *
          have HX := Lib.hid hx1; have HXX := Lib.hid hxx; have HY := Lib.hid hy1
          clear hx1 hxx hy1
          have HLA := Lib.hid hLA; have HLB := Lib.hid hLB; clear hLA hLB
          go_wp2_with fail
          clear y0 y1 y2 y3 y4 y5 y6
          have K7 : Hid (Kb (fun i => i = wo.heap.size + 1) w6 (w6.setCell ⟨wo.heap.size + 1, 0, none⟩ (.int .i64 x))) := Kb.set _ _ _ _
          have hPB7 := Lib.hid (hPB6.out.set0 x)
          have hb7 : Hid (Below wo.heap.size wo (w6.setCell ⟨wo.heap.size + 1, 0, none⟩ (.int .i64 x))) := hb6'.out.setCell (by show wo.heap.size ≤ wo.heap.size + 1; omega) _
          refine (at_any RO p LB0 Ab LB0.length cb _ (SpAt.below hb7.out SB1.out) e3 e4).mono ?_
          rintro e w8 ⟨A8, n8, c8, rfl, hs8, e7, e8, hb8⟩
          have hPB8 := Lib.hid (hPB7.out.below hb8)
          have hb8' := Lib.hid (below_call hb7.out hb8)
          have S8 := Lib.hid hs8
          have K8 := Lib.hid (Kb.of_below hb8)
          clear hs8 hb8 hPB6 hPB7 hb7 hb6'
          generalize hyy : atI p LB0 = y at *
          have HYY := Lib.hid hyy; clear hyy
          obtain ⟨y0, y1, y2, y3⟩ := hPB8.out.facts1 y
          have hPB9 := Lib.hid (hPB8.out.set1 y)
          have hb9 : Hid (Below wo.heap.size wo (w8.setCell ⟨wo.heap.size + 1, 1, none⟩ (.int .i64 y))) := hb8'.out.setCell (by show wo.heap.size ≤ wo.heap.size + 1; omega) _
          have X9 := Lib.hid (X.out.below hb9.out)
          have hRO : ∀ i, i = wo.heap.size + 1 → ¬ RO i := by
            intro i hi hr
            rw [HRO.out] at hr
            have := hr.1
            have := XS.out.1
            have := XS.out.2.1
            omega
          have S9 : Hid (SpAt RO (w8.setCell ⟨wo.heap.size + 1, 1, none⟩ (.int .i64 y)) A8 n8 (atL p LB0)) := SpAt.kb (Kb.set _ _ _ _) hRO S8.out
          have S6' : Hid (SpAt RO (w8.setCell ⟨wo.heap.size + 1, 1, none⟩ (.int .i64 y)) A5 n5 (atL p LA0)) := SpAt.kb (Kb.set _ _ _ _) hRO (SpAt.kb K8.out (fun _ c => c.elim) (SpAt.kb K7.out hRO S6.out))
          have wx : Hid (wfI x) := wfI_of (by omega) (by omega)
          have wy : Hid (wfI y) := wfI_of (by omega) (by omega)
          have HRO' := Lib.hid hRO
          clear hPB8 hb8' S8 K8 K7 S6 SA1 SB1 hRO
          obtain ⟨kn, HKN⟩ : ∃ kn, Hid (kn = known (pairLit x y)) := ⟨_, rfl⟩
          go_upto_if 75 with (at_lookup; refine wpList_lookup_MI rfl _ _ 60 rfl 62 kpair umap_pi w3.heap.size k known rfl X9.out.m1 (.agg #[.int .i64 x, .int .i64 y]) (pairLit x y) rfl (key_pair x y wx.out wy.out) ?_; rw [show known (pairLit x y) = kn from HKN.out.symm])
          clear y0 y1 y2 y3
          generalize hW9 : w8.setCell ⟨wo.heap.size + 1, 1, none⟩ (.int .i64 y) = w9 at hPB9 hb9 X9 S9 S6' ⊢
          clear hW9
          go_cut [18, 50] from 50 to 168 (fun k1 i wx => ∃ (o : Option Nat) (ps' : Pts) (us' : List (Value × Value)) (v' : Value) (known' byText' : Lit → Option Int), k1 = .int .i64 (kI o) ∧ i = .int .i64 k ∧ Hid (PB wo.heap.size p x y wx) ∧
            Hid (MW w.heap.size w3.heap.size ((n : Int) + 1) [.int .i64 ((n : Int) + 1), .bool a.full, .slice A m c] [.int .i64 ((n : Int) + 1), .bool b.full, .slice B m' c'] w4 (k + 1) (k + 1) ps' us' v' known' byText' wx) ∧ Hid (CS (opf b4 f4 s4 n4) n a b ps' last known' byText' k) ∧ Hid (∀ j, o = some j → j < ps'.length) ∧
            Hid (lsweep (fun v => lform (opf b4 f4 s4 n4) n (restAt a v) (restAt b v)) ((points a b).drop (k + 1)) (stepPs ps' last o p) o = R) ∧ Hid (SpAt RO wx A5 n5 (atL p LA0)) ∧ Hid (SpAt RO wx A8 n8 (atL p LB0)))
          case first =>
            cases kn with
            | some kk =>
              obtain ⟨sub, o, hf, hs, hko, ho⟩ := Y.out.cs.hit wx.out wy.out HKN.out.symm
              have hres : Hid (lsweep (fun v => lform (opf b4 f4 s4 n4) n (restAt a v) (restAt b v)) ((points a b).drop (k + 1)) (stepPs ps last o p) o = R) := lsweep_go (by rw [← hdrop.out]; exact Y.out.res) (by show lform _ _ _ _ = _; rw [← HX.out, ← HY.out]; exact hf) hs Y.out.cs.cnt
              have X10 := Lib.hid (X9.out.mono (Nat.le_succ k) (Nat.le_succ k))
              have HO := Lib.hid ho; clear ho hf hs
              subst hko
              simp only [Option.isSome_some, Option.getD_some, Option.isNone_some]
              go_wp2_with fail
              go_meet
              exact ⟨o, ps, us, v, known, byText, rfl, rfl, hPB9, X10, Y.out.cs, HO, hres, S6', S9⟩
            | none =>
              have hwx : Hid (Below w.heap.size w w9) := X9.out.old BW4.out
              simp only [Option.isSome_none, Option.getD_none, Option.isNone_none]
              go_upto_region 17 with fail
              go_cut [20, 21, 50] from 50 to 168 (fun s20 s21 i wx => ∃ (D : Nat) (ok : Bool), s20 = .pointer (some ⟨D, 0, none⟩) ∧ s21 = .bool ok ∧ i = .int .i64 k ∧ Hid (SubEnd w9 (lform (opf b4 f4 s4 n4) n (restI a x) (restI b y)) D wx ok))
              case first => as_aux_lemma =>
                have HS9 := Lib.hid (CallS.start X9.out.box hPB9.out)
                have hP9 := hPB9.out.lt
                have hb09 : w.heap.size + 1 < w9.heap.size := by have := (Array.getElem?_eq_some_iff.1 X9.out.box.b).1; exact this
                have HCA : Hid (∀ u, CallS w.heap.size wo.heap.size ((n : Int) + 1) a.full b.full A B m c m' c' x y w9 u → Calls Tryd.prog 24 #[.agg #[.int .i64 ((n : Int) + 1), .bool a.full, .slice A m c], .int .i64 x] u (RestPost any a x u)) := fun u hu => by
                  have := rest_any any a A m c x u (RgAt.below (below_call hwx.out hu.1) RA.out) hmc hc (by omega) (by omega) (by rw [hwa]; omega) (by rw [hwa]; omega)
                  rwa [hwa] at this
                have HCB : Hid (∀ u, CallS w.heap.size wo.heap.size ((n : Int) + 1) a.full b.full A B m c m' c' x y w9 u → Calls Tryd.prog 24 #[.agg #[.int .i64 ((n : Int) + 1), .bool b.full, .slice B m' c'], .int .i64 y] u (RestPost any b y u)) := fun u hu => by
                  have := rest_any any b B m' c' y u (RgAt.below (below_call hwx.out hu.1) RB.out) hmc' hc' (by omega) (by omega) (by rw [hwb]; omega) (by rw [hwb]; omega)
                  rwa [hwb] at this
                have HCC : Hid (∀ (u : World) (A1 A2 : Option Addr) (n1 n2 c1 c2 : Nat), CallS w.heap.size wo.heap.size ((n : Int) + 1) a.full b.full A B m c m' c' x y w9 u → RgAt any u (restI a x) A1 n1 → RgAt any u (restI b y) A2 n2 → n1 ≤ c1 → c1 ≤ 9223372036854775807 → n2 ≤ c2 → c2 ≤ 9223372036854775807 →
                    Calls Tryd.prog 18 #[.agg #[.int .i64 (restI a x).w, .bool (restI a x).full, .slice A1 n1 c1], .agg #[.int .i64 (restI b y).w, .bool (restI b y).full, .slice A2 n2 c2], holdsV b4 f4 s4 n4] u (CombPost (lform (opf b4 f4 s4 n4) n (restI a x) (restI b y)) u)) := fun u A1 A2 n1 n2 c1 c2 hu h1 h2 h3 h4 h5 h6 => by
                  have hbu := below_call hwx.out hu.1
                  exact IH.out _ _ A1 A2 n1 c1 n2 c2 u T (by rw [HX.out]; exact restAt_form FA.out p) (by rw [HY.out]; exact restAt_form FB.out p) (fits_rest LA.out x) (fits_rest LB.out y) h1 h2 h3 h4 h5 h6 (HT.out.on (hbu.mono hTw)) (Nat.le_trans hTw hbu.size)
                go_region_held3 (fun w' => Below w9.heap.size w9 w' ∧ w'.cell? ⟨w.heap.size, 0, none⟩ = some (.int .i64 ((n : Int) + 1)) ∧ w'.cell? ⟨w.heap.size, 1, none⟩ = some (.bool a.full) ∧ w'.cell? ⟨w.heap.size, 2, none⟩ = some (.slice A m c) ∧
                    w'.cell? ⟨w.heap.size + 1, 0, none⟩ = some (.int .i64 ((n : Int) + 1)) ∧ w'.cell? ⟨w.heap.size + 1, 1, none⟩ = some (.bool b.full) ∧ w'.cell? ⟨w.heap.size + 1, 2, none⟩ = some (.slice B m' c') ∧ w'.cell? ⟨wo.heap.size + 1, 0, none⟩ = some (.int .i64 x) ∧ w'.cell? ⟨wo.heap.size + 1, 1, none⟩ = some (.int .i64 y))
                  (first
                    | exact CallS.drew HS9.out
                    | exact CallS.alloc (by assumption) _
                    | exact CallS.alloc (CallS.call HBC.out HS9.out) _
                    | exact CallS.call hbC (by assumption)
                    | exact CallS.call hbB (by assumption)
                    | exact CallS.call hbA (by assumption)
                    | exact CallS.set (CallS.set (CallS.set (by assumption) hP9 hb09 (by first | exact Nat.le_refl _ | exact sA | exact sB | exact sC) _ _) hP9 hb09 (by first | exact Nat.le_refl _ | exact sA | exact sB | exact sC) _ _) hP9 hb09 (by first | exact Nat.le_refl _ | exact sA | exact sB | exact sC) _ _)
                  (first
                    | (go_at_call_of 24 (Value.slice A m c); refine (HCA.out _ (by assumption)).mono ?_; rintro e wA ⟨A1', n1', cc1, rfl, hr1, h1a, h1b, hbA⟩; have HR1 := Lib.hid hr1; clear hr1; have sA : w9.heap.size ≤ wA.heap.size := Nat.le_trans (CallS.ge (by assumption)) hbA.size; (try have zA : Hid (ZB w9.heap.size wA) := ZB.below hbA (ZB.made w9.drew)))
                    | (go_at_call_of 24 (Value.slice B m' c'); refine (HCB.out _ (by assumption)).mono ?_; rintro e wB ⟨A2', n2', cc2, rfl, hr2, h2a, h2b, hbB⟩; have HR2 := Lib.hid hr2; clear hr2; have sB : w9.heap.size ≤ wB.heap.size := Nat.le_trans (CallS.ge (by assumption)) hbB.size; have HBB : Hid (Below w9.heap.size w9 wB) := below_call (CallS.b0 (by assumption)) hbB; (try have zB : Hid (ZB w9.heap.size wB) := ZB.below hbB zA.out); (try have zB' : Hid (ZB wA.heap.size wB) := ZB.below hbB (ZB.made wA)))
                    | (go_at_call 18; refine (HCC.out _ A1' A2' n1' n2' cc1 cc2 (by assumption) (by first | exact RgAt.below hbB HR1.out | exact RgAt.below hbB (rg_alloc _ HR1.out) | exact rg_alloc _ (RgAt.below hbB HR1.out)) (by first | exact HR2.out | exact rg_alloc _ HR2.out) h1a h1b h2a h2b).mono ?_; rintro e wC hcc; obtain ⟨wd, fd, AD, mD, cD, okD, rfl, hD⟩ := CombPost.res hcc; have hbC := hD.1; have HBC : Hid (Below w9.heap.size w9 wC) := below_call (CallS.b0 (by assumption)) hbC; have HD := Lib.hid hD; clear hcc hD; have sC : w9.heap.size ≤ wC.heap.size := Nat.le_trans (CallS.ge (by assumption)) hbC.size; (first | (have hz : ZB w9.heap.size wC := ZB.below hbC zB.out; obtain ⟨z1, z2, z3, z4, z5, z6⟩ := hz.cells; clear hz) | (have hz : ZB wA.heap.size wC := ZB.below hbC zB'.out; obtain ⟨z1, z2, z3, z4, z5, z6⟩ := hz.cells; clear hz) | (have hz : ZB wB.heap.size wC := ZB.below hbC (ZB.made wB); obtain ⟨z1, z2, z3, z4, z5, z6⟩ := hz.cells; clear hz) | skip)))
                all_goals
                  go_wp2_with fail
                  go_meet
                  refine ⟨_, okD, rfl, rfl, rfl, ?_⟩
                  first
                    | exact sub_end HBB.out zB.out (Nat.le_refl _) HD.out
                    | exact sub_end HBB.out zB'.out sA HD.out
                    | exact sub_end (HBB.out.alloc sB _) (ZB.made wB) sB HD.out
                    | exact sub_end' HBB.out HD.out

              case rest =>
                obtain ⟨w10, rfl⟩ : ∃ w10, w10 = wc := ⟨_, rfl⟩
                obtain ⟨D, ok, rfl, rfl, rfl, hE⟩ := hcut
                obtain ⟨hb10, hD, hE⟩ := hE.out
                have X10 := Lib.hid (X9.out.below hb10)
                have hPB10 := Lib.hid (hPB9.out.below hb10)
                have S10a := Lib.hid (SpAt.below hb10 S6'.out)
                have S10b := Lib.hid (SpAt.below hb10 S9.out)
                have hwx10 : Hid (Below w.heap.size w w10) := X10.out.old BW4.out
                have hres0 : Hid (lsweep (fun v => lform (opf b4 f4 s4 n4) n (restAt a v) (restAt b v)) (p :: (points a b).drop (k + 1)) ps last = R) := by show _ = _; rw [← hdrop.out]; exact Y.out.res
                have hb10w := Lib.hid (below_call hb9.out hb10)
                have HB10 := Lib.hid hb10
                have HD := Lib.hid hD
                have hx10 := Lib.hid hb10.size
                have HM2 : Hid (∀ i, some (w3.heap.size + 1) = some i → ¬ RO i) := fun i e hr => by rw [HRO.out] at hr; injection e with e; exact hr.2 (fix_iff.2 (by omega))
                have hb9s : Hid (wo.heap.size ≤ w9.heap.size) := hb9.out.size
                have HM1 : Hid (w3.heap.size + 1 < wo.heap.size ∧ ∀ i, some w3.heap.size = some i → ¬ RO i) := ⟨by have := XS.out.1; have := XS.out.2.1; omega, fun i e hr => by rw [HRO.out] at hr; injection e with e; exact absurd hr.1 (by omega)⟩
                clear hb10 hD hPB9 hb9 hwx
                rcases hE with ⟨hnone, rfl⟩ | ⟨sub, hsub, rfl, Ar, mr, cr, hDb, hrg, hmr, hcr⟩
                · have hRn : R = none := lsweep_stop hres0.out (by show lform _ _ _ _ = _; rw [← HX.out, ← HY.out]; exact hnone)
                  have HN : Hid (lform (opf b4 f4 s4 n4) (n + 1) a b = none) := by show _ = _; rw [lform, ← HR.out, hRn]
                  obtain ⟨r0, r1, r2, r3, r4, r5⟩ := X10.out.box.rcells
                  clear hRn hnone
                  go_wp2_with fail
                  refine bodyPost_ret (v := .tuple #[.agg #[.int .i64 0, .bool false, .slice none 0 0], .bool false]) (by simp [results, Tryd.results18, go_sem, r0, r1, r2]) rfl ?_
                  rw [HN.out]
                  exact ⟨((hwx10.out.setCell (by show w.heap.size ≤ w.heap.size + 1 + 1; omega) _).setCell (by show w.heap.size ≤ w.heap.size + 1 + 1; omega) _).setCell (by show w.heap.size ≤ w.heap.size + 1 + 1; omega) _, rfl⟩
                · have HSUB := Lib.hid hsub
                  have HDB := Lib.hid hDb
                  have HRG := Lib.hid hrg
                  obtain ⟨q0, q1, q2⟩ := blk3 hDb
                  have hcan : Hid (Canon sub) := lform_canon (by omega) (by rw [HX.out]; exact restAt_form FA.out p) (by rw [HY.out]; exact restAt_form FB.out p) hsub
                  have hf : Hid (lform (opf b4 f4 s4 n4) n (restAt a p) (restAt b p) = some sub) := by show _ = _; rw [← HX.out, ← HY.out]; exact hsub
                  clear hsub hDb hrg
                  go_wp2_with fail
                  refine (nothing_any _ _ _ _ _ _).mono ?_
                  rintro e w11 ⟨rfl, hb11⟩
                  rw [none_is HRG.out]
                  have X11 := Lib.hid (X10.out.below hb11)
                  have hPB11 := Lib.hid (hPB10.out.below hb11)
                  have S11a := Lib.hid (SpAt.below hb11 S10a.out)
                  have S11b := Lib.hid (SpAt.below hb11 S10b.out)
                  have hwx11 := Lib.hid (below_call hwx10.out hb11)
                  have hb11w := Lib.hid (below_call hb10w.out hb11)
                  have HDB11 : Hid (w11.heap[D]? = some (.cells #[.int .i64 sub.w, .bool sub.full, .slice Ar mr cr] 24 (0, 0))) := (hb11.block D (Array.getElem?_eq_some_iff.1 HDB.out).1).trans HDB.out
                  have HRG11 := Lib.hid (RgAt.below hb11 HRG.out)
                  have hx11 : Hid (w9.heap.size ≤ w11.heap.size) := Nat.le_trans hx10.out hb11.size
                  clear hb11 X10 hPB10 S10a S10b hwx10 hb10w HDB HRG hx10 HB10 q0 q1 q2
                  cases hsn : sub.none
                  · have HSN := Lib.hid hsn; clear hsn
                    obtain ⟨q0, q1, q2⟩ := blk3 HDB11.out
                    go_wp2_with fail
                    refine (text_str sub hcan.out Ar mr cr w11 (RgAt.mono (fun _ _ _ => trivial) _ HRG11.out) hmr hcr (Nat.le_trans hTw hwx11.out.size) (HT.out.on (hwx11.out.mono hTw))).mono ?_
                    rintro e w12 ⟨tv, rfl, hconv, hb12⟩
                    have X12 := Lib.hid (X11.out.below hb12)
                    have hPB12 := Lib.hid (hPB11.out.below hb12)
                    have S12a := Lib.hid (SpAt.below hb12 S11a.out)
                    have S12b := Lib.hid (SpAt.below hb12 S11b.out)
                    have hwx12 := Lib.hid (below_call hwx11.out hb12)
                    have hb12w := Lib.hid (below_call hb11w.out hb12)
                    have HDB12 : Hid (w12.heap[D]? = some (.cells #[.int .i64 sub.w, .bool sub.full, .slice Ar mr cr] 24 (0, 0))) := (hb12.block D (Array.getElem?_eq_some_iff.1 HDB11.out).1).trans HDB11.out
                    have HRG12 := Lib.hid (RgAt.below hb12 HRG11.out)
                    have hx12 : Hid (w9.heap.size ≤ w12.heap.size) := Nat.le_trans hx11.out hb12.size
                    clear hb12 X11 hPB11 S11a S11b hwx11 hb11w HDB11 HRG11 hx11 q0 q1 q2
                    have hpl64 : Hid (ps.length ≤ 64) := Nat.le_trans (len_cnt ps) Y.out.cs.cnt
                    obtain ⟨kn2, HKN2⟩ : ∃ kn2, Hid (kn2 = byText (.string (F10.rg sub))) := ⟨_, rfl⟩
                    cases kn2 with
                    | some kk => as_aux_lemma =>
                      obtain ⟨j, q, hkj, hq, hq2, hsk⟩ := Y.out.cs.text_hit HSN.out HKN2.out.symm
                      subst hkj
                      have hjl := (List.getElem?_eq_some_iff.1 hq).1
                      have hres : Hid (lsweep (fun v => lform (opf b4 f4 s4 n4) n (restAt a v) (restAt b v)) ((points a b).drop (k + 1)) (stepPs ps last (some j) p) (some j) = R) := lsweep_go hres0.out hf.out hsk Y.out.cs.cnt
                      have hcs := Lib.hid (Y.out.cs.remember wx.out wy.out HSUB.out (.inr ⟨HSN.out, j, q, rfl, hq, hq2⟩))
                      have hwf : wfI (j : Int) := wfI_of (by omega) (by have := hpl64.out; omega)
                      have HJL : Hid (∀ j', some j = some j' → j' < ps.length) := fun j' e => by cases e; exact hjl
                      clear hsk hq hq2 hjl
                      obtain ⟨_, _, _, t0, t1, _, _⟩ := hPB12.out.cells
                      go_wp2_with (first
                        | (at_lookup; refine wpList_lookup_MI rfl _ _ 61 rfl 9 ks umap_si (w3.heap.size + 1) k byText rfl X12.out.m2 _ (.string (F10.rg sub)) rfl (str_key hcan.out) ?_; rw [show byText (.string (F10.rg sub)) = some (j : Int) from HKN2.out.symm])
                        | (at_mapUpdate; refine wpList_put_MI rfl _ _ _ 60 rfl 62 kpair umap_pi w3.heap.size k known rfl X12.out.m1 (by have := HPL.out; unfold maxLen; omega) (.agg #[.int .i64 x, .int .i64 y]) (j : Int) (pairLit x y) rfl rfl hwf (key_pair x y wx.out wy.out) ?_; intro w20 hm20 hg20))
                      go_meet
                      have KG := Kb.of_grown hg20
                      exact ⟨some j, ps, us, v, _, byText, rfl, rfl, hPB12.out.kb KG (by have := HM1.out.1; simp; omega) (by have := HM1.out.1; simp; omega), (X12.out.put1 hm20 hg20).mono (Nat.le_refl _) (Nat.le_succ _), hcs, HJL, hres, SpAt.kb KG HM1.out.2 S12a.out, SpAt.kb KG HM1.out.2 S12b.out⟩
                    | none => as_aux_lemma =>
                      obtain ⟨hsk, hfr⟩ := Y.out.cs.fresh HSN.out hcan.out HKN2.out.symm
                      have HSK := Lib.hid hsk; have HFR := Lib.hid hfr
                      clear hsk hfr
                      obtain ⟨Av, cv, hv, hv1, hv2, _⟩ := X12.out.out.rg 0 false
                      subst hv
                      obtain ⟨o0, o1, o2, _⟩ := X12.out.box.ocells
                      have hwf : wfI (ps.length : Int) := wfI_of (by omega) (by have := hpl64.out; omega)
                      go_wp2_with (first
                        | (at_lookup; refine wpList_lookup_MI rfl _ _ 61 rfl 9 ks umap_si (w3.heap.size + 1) k byText rfl X12.out.m2 _ (.string (F10.rg sub)) rfl (str_key hcan.out) ?_; rw [show byText (.string (F10.rg sub)) = none from HKN2.out.symm])
                        | (at_mapUpdate; refine wpList_put_MI rfl _ _ _ 61 rfl 9 ks umap_si (w3.heap.size + 1) k byText rfl X12.out.m2 (by have := HPL.out; unfold maxLen; omega) (.string (str sub)) (ps.length : Int) (.string (F10.rg sub)) rfl rfl hwf (str_key hcan.out) ?_; intro w13 hm13 hg13; refine stop_ ?_))
                      unfold Hid
                      have X13 := Lib.hid (X12.out.put2 hm13 hg13)
                      have KG := Kb.of_grown hg13
                      have hM := HM1.out.1
                      have HPB13 : Hid (PB wo.heap.size p x y w13) := hPB12.out.kb KG (by simp; omega) (by simp; omega)
                      have S13a : Hid (SpAt RO w13 A5 n5 (atL p LA0)) := SpAt.kb KG HM2.out S12a.out
                      have S13b : Hid (SpAt RO w13 A8 n8 (atL p LB0)) := SpAt.kb KG HM2.out S12b.out
                      have hwx13 : Hid (Below w.heap.size w w13) := X13.out.old BW4.out
                      have hD9 : w3.heap.size + 1 < D := by have := hb9s.out; have := HD.out; omega
                      have HDB13 : Hid (w13.heap[D]? = some (.cells #[.int .i64 sub.w, .bool sub.full, .slice Ar mr cr] 24 (0, 0))) := (KG.block D (Array.getElem?_eq_some_iff.1 HDB12.out).1 (by simp; omega)).trans HDB12.out
                      have HRG13 : Hid (RgAt (w9.heap.size ≤ ·) w13 sub Ar mr) := rg_kb KG (fun i e => by injection e with e; have := hb9s.out; omega) HRG12.out
                      have HFREE : Hid (RgAt (Free (w3.heap.size + 1 + 1) (fixOf w.heap.size w3.heap.size) (.slice Av ps.length cv) us) w13 sub Ar mr) := RgAt.mono (fun i _ hi => X9.out.free i hi) _ HRG13.out
                      have hx13 : Hid (w9.heap.size ≤ w13.heap.size) := Nat.le_trans hx12.out hg13.size
                      clear KG hg13 hm13 X12 hPB12 S12a S12b hwx12 hb12w HDB12 HRG12 hx12 o0 o1 o2
                      obtain ⟨o0, o1, o2, _⟩ := X13.out.box.ocells
                      obtain ⟨q0, q1, q2⟩ := blk3 HDB13.out
                      have hby := bytes64 (show ps.length ≤ 9000000 by have := hpl64.out; omega)
                      have hb13 : Hid (w3.heap.size + 1 + 1 ≤ w13.heap.size) := X13.out.size
                      go_wp2_with (at_builtin; refine stop_ ?_)
                      unfold Hid
                      refine append_el (w3.heap.size + 1 + 1) rfl _ _ 22 50 (.agg #[.slice none 0 0, .int .i64 0, .bool false, .slice none 0 0]) 4 64 rfl Tryd.underlying22 info_pt rfl (Nat.succ_pos _) (Nat.succ_pos _) (.slice Av ps.length cv) _ _ (partCells ([], sub) (.slice none 0 0, .slice Ar mr cr)) rfl _ rfl rfl rfl (by intro u hu; simp [partCells] at hu; rcases hu with rfl | rfl | rfl | rfl <;> rfl) X13.out.out.own hb13.out hby ?_
                      intro v1 w14 hown1 hgr1 hat1
                      have X15 := Lib.hid (X13.out.more HFREE.out hmr hcr hown1 hgr1 hat1)
                      have hvb : ∀ i, (Value.slice Av ps.length cv).ownBlock = some i → w3.heap.size + 1 + 1 ≤ i ∧ i < wo.heap.size := X.out.vb
                      obtain ⟨z7, z8⟩ := X13.out.box.okb (Kb.of_grown hgr1) (fun e => by have := (hvb _ e).1; have := XS.out.2.2; omega)
                      have K15 : Kb (fun i => (Value.slice Av ps.length cv).ownBlock = some i ∨ i = w.heap.size + 1 + 1 + 1) w13 (w14.setCell ⟨w.heap.size + 1 + 1 + 1, 2, none⟩ v1) := Kb.put ((Kb.of_grown hgr1).mono fun i hi => .inl hi) (.inr rfl) 2 v1
                      have HPB15 : Hid (PB wo.heap.size p x y (w14.setCell ⟨w.heap.size + 1 + 1 + 1, 2, none⟩ v1)) := HPB13.out.kb K15 (by rintro (e | e); have := (hvb _ e).2; omega; have := XS.out.2.2; omega) (by rintro (e | e); have := (hvb _ e).2; omega; have := XS.out.2.2; omega)
                      have hRO15 : ∀ i, ((Value.slice Av ps.length cv).ownBlock = some i ∨ i = w.heap.size + 1 + 1 + 1) → ¬ RO i := by
                        intro i hi hr
                        rw [HRO.out] at hr
                        rcases hi with e | e
                        · have := (hvb _ e).1; have := hr.1; omega
                        · exact hr.2 (fix_iff.2 (by omega))
                      have S15a := Lib.hid (SpAt.kb K15 hRO15 S13a.out)
                      have S15b := Lib.hid (SpAt.kb K15 hRO15 S13b.out)
                      have hwx15 : Hid (Below w.heap.size w (w14.setCell ⟨w.heap.size + 1 + 1 + 1, 2, none⟩ v1)) := X15.out.old BW4.out
                      obtain ⟨A6, c6, hv6, l1, l2, rg6⟩ := X15.out.out.rg ((n : Int) + 1) false
                      generalize hnn : (ps ++ [(([], sub) : List Iv × Rg)]).length = nn at hv6 l1 rg6
                      subst hv6
                      have HNN := Lib.hid hnn; clear hnn
                      have RG6 := Lib.hid rg6
                      have HVB := Lib.hid hvb
                      clear rg6 hown1 hgr1 hat1 K15 hRO15 X13 HPB13 S13a S13b hwx13 HDB13 HRG13 hx13 o0 o1 o2 q0 q1 q2 hvb hby
                      obtain ⟨o0, o1, o2, _⟩ := X15.out.box.ocells
                      go_wp2_with fail
                      refine (size_any (.mk ((n : Int) + 1) false (ps ++ [([], sub)])) A6 _ c6 _ (RgAt.mono (fun _ _ _ => trivial) _ RG6.out) l1 l2 (by
                        rw [Rg.cnt_ps]
                        show cntL (ps ++ [([], sub)]) < _
                        rw [cnt_snoc]
                        have := Y.out.cs.cnt
                        obtain ⟨_, _, _, h64, _⟩ := hcan.out
                        omega)).mono ?_
                      rintro e w16 ⟨⟨kz, rfl, hz1, hz2, hz3, hz4⟩, hb16⟩
                      rw [Rg.cnt_ps] at hz2 hz3 hz4
                      simp only [Rg.ps_mk] at hz2 hz3 hz4
                      clear z7 z8 o0 o1 o2
                      have X16 := Lib.hid (X15.out.below hb16)
                      have HPB16 := Lib.hid (HPB15.out.below hb16)
                      have S16a := Lib.hid (SpAt.below hb16 S15a.out)
                      have S16b := Lib.hid (SpAt.below hb16 S15b.out)
                      have hwx16 := Lib.hid (below_call hwx15.out hb16)
                      clear X15 HPB15 S15a S15b hwx15 hb16 RG6
                      by_cases hcc : cntL (ps ++ [([], sub)]) ≤ 64
                      · have hd : decide (kz > 64) = false := by have := hz3 hcc; simp; omega
                        have hd2 : ¬ 64 < kz := by have := hz3 hcc; omega
                        have hcs0 := (HFR.out hcc).remember wx.out wy.out HSUB.out (.inr ⟨HSN.out, ps.length, ([], sub), rfl, by simp, rfl⟩)
                        have hres : Hid (lsweep (fun v => lform (opf b4 f4 s4 n4) n (restAt a v) (restAt b v)) ((points a b).drop (k + 1)) (stepPs (ps ++ [([], sub)]) last (some ps.length) p) (some ps.length) = R) := lsweep_go hres0.out hf.out HSK.out hcc
                        have hcs := Lib.hid hcs0
                        have HJL : Hid (∀ j', some ps.length = some j' → j' < (ps ++ [(([], sub) : List Iv × Rg)]).length) := fun j' e => by cases e; simp
                        clear hcs0 hcc hz1 hz2 hz3 hz4
                        obtain ⟨_, _, _, t0, t1, _, _⟩ := HPB16.out.cells
                        go_wp2_with (at_mapUpdate; refine wpList_put_MI rfl _ _ _ 60 rfl 62 kpair umap_pi w3.heap.size k known rfl X16.out.m1 (by have := HPL.out; unfold maxLen; omega) (.agg #[.int .i64 x, .int .i64 y]) (ps.length : Int) (pairLit x y) rfl rfl hwf (key_pair x y wx.out wy.out) ?_; intro w20 hm20 hg20)
                        go_meet
                        have KG := Kb.of_grown hg20
                        have X20 := Lib.hid (X16.out.put1 hm20 hg20)
                        have HPB20 : Hid (PB wo.heap.size p x y w20) := HPB16.out.kb KG (by have := HM1.out.1; simp; omega) (by have := HM1.out.1; simp; omega)
                        exact ⟨some ps.length, _, _, _, _, _, rfl, rfl, HPB20, X20, hcs, HJL, hres, SpAt.kb KG HM1.out.2 S16a.out, SpAt.kb KG HM1.out.2 S16b.out⟩
                      · have hd : decide (kz > 64) = true := by have := hz4 (by omega); simp; omega
                        have hd2 : 64 < kz := by have := hz4 (by omega); omega
                        have hRn : R = none := lsweep_full hres0.out hf.out HSK.out (by omega)
                        have HN : Hid (lform (opf b4 f4 s4 n4) (n + 1) a b = none) := by show _ = _; rw [lform, ← HR.out, hRn]
                        obtain ⟨r0, r1, r2, r3, r4, r5⟩ := X16.out.box.rcells
                        clear hRn hcc hz1 hz2 hz3 hz4
                        go_wp2_with fail
                        refine bodyPost_ret (v := .tuple #[.agg #[.int .i64 0, .bool false, .slice none 0 0], .bool false]) (by simp [results, Tryd.results18, go_sem, r0, r1, r2]) rfl ?_
                        rw [HN.out]
                        exact ⟨((hwx16.out.setCell (by show w.heap.size ≤ w.heap.size + 1 + 1; omega) _).setCell (by show w.heap.size ≤ w.heap.size + 1 + 1; omega) _).setCell (by show w.heap.size ≤ w.heap.size + 1 + 1; omega) _, rfl⟩
                  · have hsk := seek_none (ps := ps) hsn
                    have hres : Hid (lsweep (fun v => lform (opf b4 f4 s4 n4) n (restAt a v) (restAt b v)) ((points a b).drop (k + 1)) (stepPs ps last none p) none = R) := lsweep_go hres0.out hf.out hsk Y.out.cs.cnt
                    have hcs := Lib.hid (Y.out.cs.remember wx.out wy.out HSUB.out (.inl ⟨hsn, rfl⟩))
                    clear hsk hsn
                    obtain ⟨_, _, _, t0, t1, _, _⟩ := hPB11.out.cells
                    go_wp2_with (at_mapUpdate; refine wpList_put_MI rfl _ _ _ 60 rfl 62 kpair umap_pi w3.heap.size k known rfl X11.out.m1 (by have := HPL.out; unfold maxLen; omega) (.agg #[.int .i64 x, .int .i64 y]) (-1) (pairLit x y) rfl rfl (wfI_of (by omega) (by omega)) (key_pair x y wx.out wy.out) ?_; intro w20 hm20 hg20)
                    go_meet
                    have KG := Kb.of_grown hg20
                    exact ⟨none, ps, us, v, _, byText, rfl, rfl, hPB11.out.kb KG (by have := HM1.out.1; simp; omega) (by have := HM1.out.1; simp; omega), (X11.out.put1 hm20 hg20).mono (Nat.le_refl _) (Nat.le_succ _), hcs, fun _ e => (by cases e), hres, SpAt.kb KG HM1.out.2 S11a.out, SpAt.kb KG HM1.out.2 S11b.out⟩

          case rest =>
            obtain ⟨w11, rfl⟩ : ∃ w11, w11 = wc := ⟨_, rfl⟩
            obtain ⟨o, ps1, us1, v1, known1, byText1, rfl, rfl, hPB, hX, hCS, hO, hres, Sa, Sb⟩ := hcut
            obtain rfl : n5 = (atL p LA0).length := Sa.out.1.symm
            obtain rfl : n8 = (atL p LB0).length := Sb.out.1.symm
            have hla2 : Hid (∀ p' ∈ (points a b).drop (k + 1), atL p' (atL p LA0) = atL p' L1) := fun p' hp' => (atL_atL (points_lt hdrop.out hp') _).trans (Y.out.la p' (by rw [hdrop.out]; exact List.mem_cons_of_mem _ hp'))
            have hlb2 : Hid (∀ p' ∈ (points a b).drop (k + 1), atL p' (atL p LB0) = atL p' L2) := fun p' hp' => (atL_atL (points_lt hdrop.out hp') _).trans (Y.out.lb p' (by rw [hdrop.out]; exact List.mem_cons_of_mem _ hp'))
            have hst := Lib.hid (hCS.out.step hO.out p)
            clear S6' S9 hb9 hPB9 X9 hdrop
            have hk2 : k < 20000 := by have := HPL.out; have := HLT.out; omega
            by_cases ho : o = last
            · subst ho
              rw [stepPs_same] at hres hst
              have hd : (kI o == kI o) = true := by simp
              go_wp2_with fail
              go_roundw
              case rel => exact ⟨k + 1, o, ps1, us1, v1, known1, byText1, atL p LA0, atL p LB0, A5, A8, c5, c8, (by have := HLT.out; omega), by go_num, rfl, rfl, rfl, Sa, Sb, e5, e6, e7, e8, hX, ⟨hst.out, hla2.out, hlb2.out, hres.out⟩⟩
              case measure => have := HLT.out; simp [intOf]; omega
            · have hd : (kI o == kI last) = false := by
                rw [beq_eq_false_iff_ne]
                exact fun e => ho (kI_inj e)
              have hst2 := hst; clear hst
              go_upto_if 130 with fail
              go_cut [50] from 50 to 168 (fun i wx => i = .int .i64 k ∧ Hid (PB wo.heap.size p x y wx) ∧
                Hid (MW w.heap.size w3.heap.size ((n : Int) + 1) [.int .i64 ((n : Int) + 1), .bool a.full, .slice A m c] [.int .i64 ((n : Int) + 1), .bool b.full, .slice B m' c'] w4 (k + 1) (k + 1) (midPs ps1 last p) us1 v1 known1 byText1 wx) ∧ Hid (SpAt RO wx A5 (atL p LA0).length (atL p LA0)) ∧ Hid (SpAt RO wx A8 (atL p LB0).length (atL p LB0)))
              case first =>
                cases last with
                | none =>
                  rw [show kI none = -1 from rfl]
                  go_wp2_with fail
                  go_meet
                  exact ⟨rfl, hPB, hX, Sa, Sb⟩

                | some j => as_aux_lemma =>
                  obtain ⟨q, hq, hqne⟩ := hCS.out.lst j rfl
                  have hj := (List.getElem?_eq_some_iff.1 hq).1
                  obtain ⟨u, hu⟩ : ∃ u, us1[j]? = some u := ⟨us1[j]'(by have := hX.out.out.len; omega), List.getElem?_eq_getElem _⟩
                  obtain ⟨ua, ub⟩ := u
                  obtain ⟨g, capg, hv, hg1, hg2, hg3, hg4⟩ := hX.out.form hq
                  obtain ⟨m1, hm1⟩ : ∃ m1, q.1.length = m1 + 1 := ⟨q.1.length - 1, by have := List.length_pos_iff.2 hqne; omega⟩
                  obtain ⟨iv, hiv⟩ : ∃ iv, q.1[m1]? = some iv := ⟨q.1[m1], List.getElem?_eq_getElem (by omega)⟩
                  have hown := hX.out.out.vals j q _ hq hu
                  have hle := hCS.out.lens q (List.mem_of_getElem? hq)
                  rw [hm1] at hown hle
                  simp only at hown
                  obtain ⟨h, caph, hu1, hh, hhb⟩ : ∃ h caph, ua = .slice (some ⟨h, 0, none⟩) (m1 + 1) caph ∧ (∃ cur, w11.heap[h]? = some (.cells cur 41 (0, 0))) ∧ w3.heap.size + 1 + 1 ≤ h := by
                    rcases hown.2 with ⟨_, h0⟩ | ⟨h, cap, cur, e, hb, hh, _⟩
                    · omega
                    · exact ⟨h, cap, e, ⟨cur, hh⟩, hb⟩
                  have val : w11.cell? ⟨g, j * 4, none⟩ = some ua := (hX.out.val_cell hq hu hv).1
                  subst hu1
                  have hhP : h ≠ wo.heap.size := by
                    rintro rfl
                    obtain ⟨cur, hh⟩ := hh
                    rw [hPB.out.p] at hh
                    injection hh with hh
                    injection hh with _ ht
                    exact absurd ht (by decide)
                  have hhP1 : h ≠ wo.heap.size + 1 := by
                    rintro rfl
                    obtain ⟨cur, hh⟩ := hh
                    rw [hPB.out.q] at hh
                    injection hh with hh
                    injection hh with _ ht
                    exact absurd ht (by decide)
                  obtain ⟨s1, t1⟩ := hown.stored (m1 * 7 + 6) (.bool false)
                  obtain ⟨s2, t2⟩ := s1.stored (m1 * 7 + 3) (.int .i64 p.kind)
                  obtain ⟨s3, t3⟩ := s2.stored (m1 * 7 + 4) (.int .i64 p.num)
                  obtain ⟨s4, t4⟩ := s3.stored (m1 * 7 + 5) (.string p.text)
                  have tt := ((t1.trans t2).trans t3).trans t4
                  rw [iv_store q.1 m1 iv p hiv] at s4
                  have emid : midPs ps1 (some j) p = ps1.set j (q.1.set m1 ⟨iv.lo, p, false⟩, q.2) := by
                    show ps1.modify j _ = _
                    rw [modify_set hq, shutLast_set hm1 hiv]
                  have X2 := hX.out.shut hq hu (l := q.1.set m1 ⟨iv.lo, p, false⟩) (by rw [List.length_set, hm1]; exact s4) tt
                  rw [← emid] at X2
                  have KT := Kb.of_grown tt
                  have PB2 := Lib.hid (hPB.out.kb KT (by simpa using hhP) (by simpa using hhP1))
                  have hRO2 : ∀ i, some h = some i → ¬ RO i := by
                    intro i e hr
                    rw [HRO.out] at hr
                    injection e with e
                    have := hr.1
                    omega
                  have Sa2 := Lib.hid (SpAt.kb KT hRO2 Sa.out)
                  have Sb2 := Lib.hid (SpAt.kb KT hRO2 Sb.out)
                  have XX2 := Lib.hid X2
                  have hl7 : (ivsCells q.1).length = q.1.length * 7 := flatMap_len (f := Iv.cells) (k := 7) (fun _ => rfl) q.1
                  have cell := fun i (hi : i < (m1 + 1) * 7) => (hown.cellAt i hi).trans (List.getElem?_eq_getElem (by rw [hl7, hm1]; exact hi))
                  have c3 := cell (m1 * 7 + 3) (by omega)
                  have c4 := cell (m1 * 7 + 4) (by omega)
                  have c5' := cell (m1 * 7 + 5) (by omega)
                  have c6 := cell (m1 * 7 + 6) (by omega)
                  have f3 := hown.frozenAt (m1 * 7 + 3)
                  have f4 := hown.frozenAt (m1 * 7 + 4)
                  have f5 := hown.frozenAt (m1 * 7 + 5)
                  have f6 := hown.frozenAt (m1 * 7 + 6)
                  generalize (ivsCells q.1)[m1 * 7 + 3]'(by omega) = z3 at c3
                  generalize (ivsCells q.1)[m1 * 7 + 4]'(by omega) = z4 at c4
                  generalize (ivsCells q.1)[m1 * 7 + 5]'(by omega) = z5 at c5'
                  generalize (ivsCells q.1)[m1 * 7 + 6]'(by omega) = z6 at c6
                  obtain ⟨_, _, o2, _⟩ := hX.out.box.ocells
                  have KS := Kb.set w11 h (m1 * 7 + 6) (.bool false)
                  obtain ⟨t0', t1', t2', _⟩ := (hPB.out.kb KS (fun e => hhP e.symm) (fun e => hhP1 e.symm)).cells
                  subst hv
                  have hjI : (j : Int) < ps1.length := by omega
                  have hl20 : ps1.length ≤ 64 := Nat.le_trans (len_cnt ps1) hCS.out.cnt
                  clear s1 s2 s3 s4 t1 t2 t3 t4 tt emid X2 KT hl7 cell hown hiv hm1 hq hu hqne KS hRO2 hh
                  rw [show kI (some j) = (j : Int) from rfl]
                  go_wp2_with fail
                  go_meet
                  exact ⟨rfl, PB2, XX2, Sa2, Sb2⟩

              case rest =>
                obtain ⟨w12, rfl⟩ : ∃ w12, w12 = wc := ⟨_, rfl⟩
                obtain ⟨rfl, hPB2, hX2, Sa2, Sb2⟩ := hcut
                rw [stepPs_mid ho p] at hst2 hres
                clear hX hPB Sa Sb hd ho
                cases o with
                | none =>
                  rw [show endPs (midPs ps1 last p) none p = midPs ps1 last p from rfl] at hst2 hres
                  rw [show kI none = -1 from rfl]
                  go_wp2_with fail
                  go_roundw
                  case rel => exact ⟨k + 1, none, _, us1, v1, known1, byText1, atL p LA0, atL p LB0, A5, A8, c5, c8, (by have := HLT.out; omega), by go_num, rfl, rfl, rfl, Sa2, Sb2, e5, e6, e7, e8, hX2, ⟨hst2.out, hla2.out, hlb2.out, hres.out⟩⟩
                  case measure => have := HLT.out; simp [intOf]; omega
                | some j =>
                  have hj : j < ps1.length := hO.out j rfl
                  have hjm : j < (midPs ps1 last p).length := by rw [midPs_length]; exact hj
                  obtain ⟨q, hq⟩ : ∃ q, (midPs ps1 last p)[j]? = some q := ⟨_, List.getElem?_eq_getElem hjm⟩
                  obtain ⟨u, hu⟩ : ∃ u, us1[j]? = some u := ⟨us1[j]'(by have := hX2.out.out.len; omega), List.getElem?_eq_getElem _⟩
                  obtain ⟨ua, ub⟩ := u
                  obtain ⟨g, capg, hv, hg1, hg2, hg3, hg4⟩ := hX2.out.form hq
                  have hle : q.1.length ≤ k := midPs_lens hCS.out.lens q (List.mem_of_getElem? hq)
                  have val : w12.cell? ⟨g, j * 4, none⟩ = some ua := (hX2.out.val_cell hq hu hv).1
                  have vfr : w12.frozen? ⟨g, j * 4, none⟩ = false := (hX2.out.val_cell hq hu hv).2
                  have hl64 : (midPs ps1 last p).length ≤ 64 := by rw [midPs_length]; exact Nat.le_trans (len_cnt ps1) hCS.out.cnt
                  rw [endPs_some hq p] at hst2 hres
                  rw [show kI (some j) = (j : Int) from rfl]
                  have hjI : (j : Int) < ((midPs ps1 last p).length : Nat) := by omega
                  go_upto_region 37 with fail
                  go_cut [50] from 50 to 168 (fun i wx => i = .int .i64 k ∧ ∃ us2, Hid (PB wo.heap.size p x y wx) ∧
                    Hid (MW w.heap.size w3.heap.size ((n : Int) + 1) [.int .i64 ((n : Int) + 1), .bool a.full, .slice A m c] [.int .i64 ((n : Int) + 1), .bool b.full, .slice B m' c'] w4 (k + 1) (k + 1) ((midPs ps1 last p).set j (q.1 ++ [⟨p, .zero, true⟩], q.2)) us2 v1 known1 byText1 wx) ∧ Hid (SpAt RO wx A5 (atL p LA0).length (atL p LA0)) ∧ Hid (SpAt RO wx A8 (atL p LB0).length (atL p LB0)))
                  case first => as_aux_lemma =>
                    have HQ := Lib.hid hq; have HU := Lib.hid hu; have HV := Lib.hid hv
                    have hvu : Hid (∀ i, ua.ownBlock = some i → w3.heap.size + 1 + 1 ≤ i ∧ v1.ownBlock ≠ some i) := fun i e => ⟨(hX2.out.ub hq hu i e).1, fun c => own_types hX2.out.out.own (hX2.out.out.vals j q _ hq hu) (by decide) c e⟩
                    have huP : Hid (∀ i, ua.ownBlock = some i → i ≠ wo.heap.size ∧ i ≠ wo.heap.size + 1) := by
                      intro i e
                      rcases (hX2.out.out.vals j q _ hq hu).2 with ⟨ev, _⟩ | ⟨h, cap, cur, ev, _, hh, _⟩
                      · have ev' : ua = .slice none 0 0 := ev
                        rw [ev'] at e; cases e
                      · have ev' : ua = .slice (some ⟨h, 0, none⟩) q.1.length cap := ev
                        rw [ev'] at e
                        have e' : h = i := by simpa [Value.ownBlock] using e
                        subst e'
                        constructor
                        · rintro rfl
                          rw [hPB2.out.p] at hh
                          injection hh with hh
                          injection hh with _ ht
                          exact absurd ht (by decide)
                        · rintro rfl
                          rw [hPB2.out.q] at hh
                          injection hh with hh
                          injection hh with _ ht
                          exact absurd ht (by decide)
                    have hgP : Hid (g ≠ wo.heap.size ∧ g ≠ wo.heap.size + 1) := by
                      rcases hX2.out.out.own.2 with ⟨ev, _⟩ | ⟨h, cap, cur, ev, _, hh, _⟩
                      · rw [hv] at ev; cases ev
                      · rw [hv] at ev
                        have e' : g = h := by
                          injection ev with e1 _ _
                          injection e1 with e1
                          injection e1 with e1
                        subst e'
                        constructor
                        · rintro rfl
                          rw [hPB2.out.p] at hh
                          injection hh with hh
                          injection hh with _ ht
                          exact absurd ht (by decide)
                        · rintro rfl
                          rw [hPB2.out.q] at hh
                          injection hh with hh
                          injection hh with _ ht
                          exact absurd ht (by decide)
                    clear hq hu
                    subst hv
                    have HROX : Hid (∀ i, w3.heap.size + 1 + 1 ≤ i → ¬ RO i) := fun i hi hr => by rw [HRO.out] at hr; have := hr.1; omega
                    refine push_region hX2 hPB2 HQ HU hvu huP hgP (by omega) _ _ _ _ _ _ _ _ _ _ _ _ _ _ _ _ _ _ _ _ _ _ _ _ _ _ _ _ _ _ _ _ _ _ _ _ _ _ _ _ _ _ _ _ _ _ _ _ _ _ _ _ _ _ _ _ _ _ _ _ _ _ _ _ _ _ _ _ _ _ _ _ _ _ _ _ _ _ _ _ _ _ _ _ _ _ _ _ _ _ _ _ _ _ _ _ _ _ _ _ _ _ _ _ _ _ _ _ _ _ _ _ _ _ _ _ _ _ _ _ _ _ _ _ _ _ _ _ _ _ _ _ _ _ _ _ _ _ _ _ _ _ _ _ _ _ _ _ _ _ _ _ _ _ _ _ _ _ _ _ _ _ _ _ _ _ _ _ _ _ _ _ _ _ _ _ _ _ _ _ ?_
                    intro y152 y153 y154 y155 y156 y157 y158 y159 y160 y161 y162 y163 y164 y165 y166 w' hpf
                    have KXH := Lib.hid hpf
                    clear hpf
                    go_wp2_with fail
                    go_meet
                    obtain ⟨us2, a1, a2, kx⟩ := KXH.out
                    exact ⟨rfl, us2, a1, a2, SpAt.kb kx HROX.out Sa2.out, SpAt.kb kx HROX.out Sb2.out⟩
                  case rest =>
                    obtain ⟨rfl, us2, hPB3, hX3, Sa3, Sb3⟩ := hcut
                    clear hX2 hPB2 Sa2 Sb2
                    go_wp2_with fail
                    go_roundw
                    case rel => exact ⟨k + 1, some j, _, us2, v1, known1, byText1, atL p LA0, atL p LB0, A5, A8, c5, c8, (by have := HLT.out; omega), by go_num, rfl, rfl, rfl, Sa3, Sb3, e5, e6, e7, e8, hX3, ⟨hst2.out, hla2.out, hlb2.out, hres.out⟩⟩
                    case measure => have := HLT.out; simp [intOf]; omega

        · as_aux_lemma =>
          have ek : k = (points a b).length := by omega
          subst ek
          have hfin : R = some ps := by
            have := Y.out.res
            rw [List.drop_length, lsweep] at this
            exact this.symm
          have HF := Lib.hid hfin; clear hfin hlt
          obtain ⟨_, _, o2, _⟩ := X.out.box.ocells
          obtain ⟨Av, cv, hv, hv1, hv2, _⟩ := X.out.out.rg ((n : Int) + 1) false
          subst hv
          have hl64 : ps.length ≤ 64 := Nat.le_trans (len_cnt ps) Y.out.cs.cnt
          have hwx : Hid (Below w.heap.size w wo) := X.out.old BW4.out
          have HRGo : Hid (RgAt (w3.heap.size + 1 + 1 ≤ ·) wo (.mk ((n : Int) + 1) false ps) Av ps.length) := by
            obtain ⟨A', c', e, _, _, h⟩ := X.out.out.rg ((n : Int) + 1) false
            cases e
            exact h
          clear SA1 SB1 e1 e2 e3 e4
          go_wp2_with fail
          clear o2
          go_loopw [172] (fun i wr => ∃ i0 : Nat, i0 ≤ ps.length ∧ i = .int .i64 i0 ∧ Hid (∀ q ∈ ps.take i0, q.1.length ≤ 64) ∧ Hid (Below wo.heap.size wo wr)) (fun i _ => ps.length - (intOf i).toNat)
          case atStart => exact ⟨0, by omega, rfl, by show ∀ q ∈ ps.take 0, _; simp, Below.refl _ _⟩
          case round =>
            obtain ⟨i0, hi0, rfl, hall, hbr⟩ := hrel
            by_cases hlt : i0 < ps.length
            · obtain ⟨q, hq⟩ : ∃ q, ps[i0]? = some q := ⟨ps[i0], List.getElem?_eq_getElem hlt⟩
              obtain ⟨b1, off, eA, _, hbl, An, nn, cn, An2, nn2, cn2, y0, y1, y2, y3, _, _, _, _, hiv, _⟩ := (RgAt.below hbr.out HRGo.out).get (r := .mk ((n : Int) + 1) false ps) hq
              subst eA
              have hnn : Hid (q.1.length = nn) := hiv.1
              have htk : Hid (ps.take (i0 + 1) = ps.take i0 ++ [q]) := take_get hq
              have hqm : Hid (q ∈ ps) := List.mem_of_getElem? hq
              have hb2 : Hid (Below wo.heap.size wo (wr.alloc (.cells #[.slice An nn cn, .int .i64 q.2.w, .bool q.2.full, .slice An2 nn2 cn2] 50))) := hbr.out.alloc hbr.out.size _
              have hlt0 : 0 < ps.length := by omega
              have hltI : (i0 : Int) < ps.length := by omega
              have hlt0I : (0 : Int) < ps.length := by omega
              clear hq hiv
              by_cases h64 : nn ≤ 64
              · have hd : decide ((nn : Int) > 64) = false := by simp; omega
                have hd2 : ¬ (64 : Int) < nn := by omega
                go_wp2_with fail
                go_roundw
                case rel =>
                  refine ⟨i0 + 1, by omega, by go_num, ?_, hb2⟩
                  show ∀ q ∈ ps.take (i0 + 1), _
                  rw [htk.out]
                  intro q' hq'
                  rcases List.mem_append.1 hq' with hq' | hq'
                  · exact hall.out q' hq'
                  · simp only [List.mem_cons, List.not_mem_nil, or_false] at hq'
                    rw [hq', hnn.out]
                    exact h64
                case measure => simp [intOf]; omega
              · have hd : decide ((nn : Int) > 64) = true := by simp; omega
                have hd2 : (64 : Int) < nn := by omega
                have HN : Hid (lform (opf b4 f4 s4 n4) (n + 1) a b = none) := by
                  show _ = _
                  rw [lform, ← HR.out, HF.out]
                  exact if_neg fun h => h64 (hnn.out ▸ h q hqm.out)
                obtain ⟨r0, r1, r2, r3, r4, r5⟩ := (X.out.below hb2.out).box.rcells
                clear hall h64
                go_wp2_with fail
                refine bodyPost_ret (v := .tuple #[.agg #[.int .i64 0, .bool false, .slice none 0 0], .bool false]) (by simp [results, Tryd.results18, go_sem, r0, r1, r2]) rfl ?_
                rw [HN.out]
                have hw2 := below_call hwx.out hb2.out
                exact ⟨((hw2.setCell (by show w.heap.size ≤ w.heap.size + 1 + 1; omega) _).setCell (by show w.heap.size ≤ w.heap.size + 1 + 1; omega) _).setCell (by show w.heap.size ≤ w.heap.size + 1 + 1; omega) _, rfl⟩
            · have ei : i0 = ps.length := by omega
              have HN : Hid (lform (opf b4 f4 s4 n4) (n + 1) a b = some (.mk (n + 1) false ps)) := by
                show _ = _
                rw [lform, ← HR.out, HF.out]
                have := hall.out
                rw [ei, List.take_length] at this
                exact if_pos this
              have Xr := X.out.below hbr.out
              have HRGr := Lib.hid (RgAt.below hbr.out HRGo.out)
              have hwr := Lib.hid (below_call hwx.out hbr.out)
              obtain ⟨r0, r1, r2, r3, r4, r5⟩ := Xr.box.rcells
              obtain ⟨o0, o1, o2, _⟩ := Xr.box.ocells
              have hM : Hid (w.heap.size + 1 + 1 < w3.heap.size + 1 + 1) := by have := Xr.b4; show _ < _; omega
              have hMw : Hid (w.heap.size ≤ w3.heap.size + 1 + 1) := by have := Xr.b4; show _ ≤ _; omega
              clear hall hi0 Xr ei
              go_wp2_with fail
              refine bodyPost_ret (v := .tuple #[.agg #[.int .i64 ((n : Int) + 1), .bool false, .slice Av ps.length cv], .bool true]) (by simp [results, Tryd.results18, go_sem, r0, r1, r2]) rfl ?_
              rw [HN.out]
              have K : Kb (fun i => i = w.heap.size + 1 + 1) wr (((wr.setCell ⟨w.heap.size + 1 + 1, 0, none⟩ (.int .i64 ((n : Int) + 1))).setCell ⟨w.heap.size + 1 + 1, 1, none⟩ (.bool false)).setCell ⟨w.heap.size + 1 + 1, 2, none⟩ (.slice Av ps.length cv)) := ((Kb.set _ _ _ _).put rfl _ _).put rfl _ _
              refine ⟨((hwr.out.setCell (by show w.heap.size ≤ w.heap.size + 1 + 1; omega) _).setCell (by show w.heap.size ≤ w.heap.size + 1 + 1; omega) _).setCell (by show w.heap.size ≤ w.heap.size + 1 + 1; omega) _, Av, ps.length, cv, rfl, ?_, hv1, hv2⟩
              exact RgAt.mono (fun i _ hi => Nat.le_trans hMw.out hi) _ (rg_kb K (fun i e hi => by have := hM.out; omega) HRGr.out)

end Go.Proofs.YtbkgmahpfghheaaDoor
