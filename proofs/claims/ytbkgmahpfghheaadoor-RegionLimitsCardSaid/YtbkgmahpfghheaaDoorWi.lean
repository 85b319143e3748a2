/- Contract of region.text: a canonical region's text is appended. -/
import Derived.Test.YtbkgmahpfghheaaDoorWh
import Derived.Laws.EntriesVeiled
namespace Go.Proofs.YtbkgmahpfghheaaDoor
open Go.RowKit
open Ps

/-! ### How long a text is -/
theorem num_len (n : Int) (h0 : -9223372036854775808 ≤ n) (h1 : n ≤ 9223372036854775807) : (F10.num n).length ≤ 22 := by
  have := Lib.itoa_length_le n h0 h1
  show (Lib.itoa n ++ [44]).length ≤ 22
  simp; omega

theorem val_len (v : Vl) (h : v.text.size ≤ 4096) : (F10.val v).length ≤ 66 + 4096 := by
  rw [Fmt.val]
  have l1 := num_len v.kind v.hk.1 v.hk.2
  have l2 := num_len v.num v.hn.1 v.hn.2
  have l3 := num_len (v.text.size : Int) (by omega) (by omega)
  simp only [List.length_append, Array.length_toList]
  have : v.text.size = v.text.data.size := rfl
  omega

theorem Canon.part {r : Rg} (h : Canon r) {p : List Iv × Rg} (hp : p ∈ r.ps) : Canon p.2 ∧ Slim p.1 := by
  obtain ⟨n, hn, hF, hc, hs⟩ := h
  cases n with
  | zero => rw [hF.2] at hp; cases hp
  | succ n =>
    have q := hF.2.2.1 p hp
    have l := cnt_le_of_mem hp
    rw [Rg.slim_iff] at hs
    rw [Rg.cnt_ps] at hc
    exact ⟨⟨n, by omega, q.2.2.1, by omega, (hs p hp).2⟩, q.2.1, (hs p hp).1⟩

theorem Ok.mem_ok {l : List Iv} (h : Ok l) {x : Iv} (hx : x ∈ l) : x.lo.text.size ≤ 64 ∧ x.hi.text.size ≤ 64 := by
  obtain ⟨a, b, c⟩ := has_ok_of h hx
  have key : ∀ v : Vl, v.ok = true → v.text.size ≤ 64 := by
    intro v hv
    have : v.text.size ≤ 64 ∨ v.text.size = 0 := by
      unfold Vl.ok at hv
      simp only [Bool.or_eq_true, Bool.and_eq_true, beq_iff_eq, decide_eq_true_eq] at hv
      omega
    omega
  refine ⟨key _ a, ?_⟩
  cases ho : x.op
  · exact key _ (b ho).2.2.1
  · rw [(c ho).2.2]; decide

def pre (wd : Int) (f : Bool) (ps : Pts) (k : Nat) : List UInt8 := F10.num wd ++ ((if f then [102] else []) ++ (F10.num ps.length ++ F10.rgs (ps.take k)))
theorem pre_all (wd : Int) (f : Bool) (ps : Pts) {k : Nat} (h : ps.length ≤ k) : pre wd f ps k = F10.rg (.mk wd f ps) := by rw [pre, List.take_of_length_le h, Fmt.rg]
theorem take_get {α : Type} {l : List α} {k : Nat} {p : α} (h : l[k]? = some p) : l.take (k + 1) = l.take k ++ [p] := by
  obtain ⟨hi, rfl⟩ := List.getElem?_eq_some_iff.1 h
  rw [List.take_succ_eq_append_getElem hi]
theorem pre_succ (wd : Int) (f : Bool) (ps : Pts) {k : Nat} {p : List Iv × Rg} (h : ps[k]? = some p) : pre wd f ps (k + 1) = pre wd f ps k ++ F10.num p.1.length ++ F10.ivs p.1 ++ F10.rg p.2 := by
  rw [pre, take_get h, rgs_append]
  obtain ⟨vs, r⟩ := p
  simp only [Fmt.rgs, List.append_assoc, List.append_nil, pre]
theorem pre_len (wd : Int) (f : Bool) (ps : Pts) (k : Nat) : (pre wd f ps k).length ≤ (F10.rg (.mk wd f ps)).length := by
  have e : F10.rg (.mk wd f ps) = pre wd f ps k ++ F10.rgs (ps.drop k) := by
    conv => lhs; rw [Fmt.rg, ← List.take_append_drop k ps, rgs_append]
    simp only [pre, List.append_assoc, List.take_append_drop]
  rw [e, List.length_append]
  omega
theorem ivs_succ {l : List Iv} {k : Nat} {x : Iv} (h : l[k]? = some x) : F10.ivs (l.take (k + 1)) = F10.ivs (l.take k) ++ F10.val x.lo ++ F10.val x.hi ++ (if x.op then [111] else []) := by
  rw [take_get h, ivs_text_append]
  simp only [Fmt.ivs, Fmt.iv, List.append_assoc, List.append_nil]
theorem ivs_len (l : List Iv) (k : Nat) : (F10.ivs (l.take k)).length ≤ (F10.ivs l).length := by
  conv => rhs; rw [← List.take_append_drop k l, ivs_text_append, List.length_append]
  omega
theorem ivs_nil : F10.ivs [] = [] := rfl

theorem TS.grown {B Bb Bn : Nat} {w w2 : World} {xs ys : List UInt8} {v v2 : Value} (T : TS B Bb Bn w xs) (hne : Bb ≠ Bn) (hv : w.heap[Bb]? = some (.cells #[v] 67 (0, 0))) (hO : w.ownsRow B 5 1 v xs.length (Lib.byteCells xs))
    (hg : w.grownBy w2 v.ownBlock) (ho : w2.ownsRow B 5 1 v2 ys.length (Lib.byteCells ys)) :
    w2.cell? ⟨Bb, 0, none⟩ = some v ∧ w2.frozen? ⟨Bb, 0, none⟩ = false ∧ TS B Bb Bn (w2.setCell ⟨Bb, 0, none⟩ v2) ys ∧ Kp B Bb w (w2.setCell ⟨Bb, 0, none⟩ v2) := by
  have hk2 : Lib.OthersKept 5 none w w2 := others_grown hO hg
  have hb2 : Below B w w2 := (Below.refl _ _).grown hg T.hB (fun k e => (hO.lt k e).1)
  have := hk2 Bb _ hv (by simp) (fun c fz e => by cases e)
  exact ⟨by simp [World.cell?, this], by simp [World.frozen?, this], T.put hne hb2 hk2 ho⟩

theorem TS.said {B Bb Bn : Nat} {w w2 : World} {xs ys : List UInt8} {v v2 : Value} (T : TS B Bb Bn w xs) (hne : Bb ≠ Bn) (hv : w.heap[Bb]? = some (.cells #[v] 67 (0, 0)))
    (hb2 : Below B w w2) (hk2 : Lib.OthersKept 5 none w w2) (ho : w2.ownsRow B 5 1 v2 ys.length (Lib.byteCells ys)) :
    w2.cell? ⟨Bb, 0, none⟩ = some v ∧ w2.frozen? ⟨Bb, 0, none⟩ = false ∧ TS B Bb Bn (w2.setCell ⟨Bb, 0, none⟩ v2) ys ∧ Kp B Bb w (w2.setCell ⟨Bb, 0, none⟩ v2) := by
  have := hk2 Bb _ hv (by simp) (fun c fz e => by cases e)
  exact ⟨by simp [World.cell?, this], by simp [World.frozen?, this], T.put hne hb2 hk2 ho⟩

/-- The state of text: the text so far, the region's own variable, and what is kept since w. -/
structure TX (B b0 : Nat) (w wr : World) (rc : List Value) (xs : List UInt8) : Prop where
  ts : TS B b0 (b0 + 1 + 1) wr xs
  rb : wr.heap[b0 + 1]? = some (.cells rc.toArray 24 (0, 0))
  kp : Kp B b0 w wr

theorem TX.next {B b0 : Nat} {w wr w' : World} {rc : List Value} {xs ys : List UInt8} (h : TX B b0 w wr rc xs) (t : TS B b0 (b0 + 1 + 1) w' ys) (k : Kp B b0 wr w') : TX B b0 w w' rc ys :=
  ⟨t, k.blk h.rb (by decide) (by omega), h.kp.trans k⟩
theorem TX.alloc {B b0 : Nat} {w wr : World} {rc : List Value} {xs : List UInt8} (h : TX B b0 w wr rc xs) (o : Obj) : TX B b0 w (wr.alloc o) rc xs := h.next (h.ts.alloc o) (Kp.alloc h.ts.hB o)
theorem TX.rg {B b0 : Nat} {w wr : World} {rc : List Value} {xs : List UInt8} (h : TX B b0 w wr rc xs) {r : Rg} {A : Option Addr} {m : Nat} (hr : RgAt (· < B) w r A m) : RgAt (· < B) wr r A m :=
  RgAt.keep ⟨h.kp.below.size, fun k hk _ => h.kp.below.block k hk⟩ r hr
theorem TX.cells {B b0 : Nat} {w wr : World} {rc : List Value} {xs : List UInt8} (h : TX B b0 w wr rc xs) : wr.cell? ⟨b0 + 1 + 1, 0, none⟩ = some (.func (.func 32) #[] #[.pointer (some ⟨b0, 0, none⟩)]) ∧ Box wr (b0 + 1) rc := ⟨h.ts.cell, cells_of_blk h.rb⟩

def TextPost (B : Nat) (r : Rg) (xs : List UInt8) (w : World) (e : Ending) (w' : World) : Prop :=
  ∃ v, e = .returned v ∧ w'.ownsRow B 5 1 v (xs ++ F10.rg r).length (Lib.byteCells (xs ++ F10.rg r)) ∧ Below B w w' ∧ Lib.OthersKept 5 none w w'

set_option maxHeartbeats 800000 in
theorem text_any (B : Nat) (r : Rg) : Canon r → ∀ (A : Option Addr) (m c : Nat) (sv : Value) (xs : List UInt8) (w : World), RgAt (· < B) w r A m → m ≤ c → c ≤ 9223372036854775807 →
    w.ownsRow B 5 1 sv xs.length (Lib.byteCells xs) → TabB B w → B ≤ w.heap.size → xs.length + (F10.rg r).length + 10000 ≤ 70368744177664 →
    Calls Tryd.prog 26 #[sv, .agg #[.int .i64 r.w, .bool r.full, .slice A m c]] w fun e w' => TextPost B r xs w e w' := by
  refine Rg.ind (P := fun r => Canon r → ∀ (A : Option Addr) (m c : Nat) (sv : Value) (xs : List UInt8) (w : World), RgAt (· < B) w r A m → m ≤ c → c ≤ 9223372036854775807 →
    w.ownsRow B 5 1 sv xs.length (Lib.byteCells xs) → TabB B w → B ≤ w.heap.size → xs.length + (F10.rg r).length + 10000 ≤ 70368744177664 →
    Calls Tryd.prog 26 #[sv, .agg #[.int .i64 r.w, .bool r.full, .slice A m c]] w fun e w' => TextPost B r xs w e w') (fun wd f ps ih hF A m c sv xs w hr hmc hc ho hT hB hl => ?_) r
  have IH := Lib.hid ih; clear ih
  have HR := Lib.hid hr; clear hr
  obtain ⟨As, cs, rfl, _, _⟩ := own_form ho
  have HO := Lib.hid ho; clear ho
  have HT := Lib.hid hT; clear hT
  have HF := Lib.hid hF; clear hF
  simp only [Rg.w_mk, Rg.full_mk]
  go_enter Tryd.func26, Tryd.ntmps26
  have X0 : Hid (TX B w.heap.size w (((w.alloc (.cells #[.slice As xs.length cs] 67)).alloc (.cells #[.int .i64 wd, .bool f, .slice A m c] 24)).alloc (.cells #[.func (.func 32) #[] #[.pointer (some ⟨w.heap.size, 0, none⟩)]] 80)) [.int .i64 wd, .bool f, .slice A m c] xs) := by
    refine ⟨⟨⟨.slice As xs.length cs, ?_, ((HO.out.alloc _).alloc _).alloc _⟩, ?_, ?_, ?_, hB⟩, ?_, ?_⟩
    · rw [Below.heap_alloc _ _ _ (by simp; omega), Below.heap_alloc _ _ _ (by simp)]; exact heap_alloc_new w _
    · have := heap_alloc_new ((w.alloc (.cells #[.slice As xs.length cs] 67)).alloc (.cells #[.int .i64 wd, .bool f, .slice A m c] 24)) (.cells #[.func (.func 32) #[] #[.pointer (some ⟨w.heap.size, 0, none⟩)]] 80)
      simpa using this
    · simp; omega
    · exact HT.out.on ((((Below.refl _ _).alloc hB _).alloc (by simp; omega) _).alloc (by simp; omega) _)
    · rw [Below.heap_alloc _ _ _ (by simp)]
      have := heap_alloc_new (w.alloc (.cells #[.slice As xs.length cs] 67)) (.cells #[.int .i64 wd, .bool f, .slice A m c] 24)
      simpa using this
    · exact ⟨(((Below.refl _ _).alloc hB _).alloc (by simp; omega) _).alloc (by simp; omega) _, ((others_alloc _ _ _ _).trans (others_alloc _ _ _ _)).trans (others_alloc _ _ _ _)⟩
  have hw0 : -9223372036854775808 ≤ wd ∧ wd ≤ 9223372036854775807 := by
    obtain ⟨n, h12, e, _⟩ := HF.out.w
    simp only [Rg.w_mk] at e
    omega
  have hpl := pre_len wd f ps
  have L0 : (F10.num wd).length ≤ 22 := num_len _ hw0.1 hw0.2
  have HL := Lib.hid hpl; clear hpl
  go_wp2_with fail
  refine (num_any B w.heap.size (w.heap.size + 1 + 1) wd hw0.1 hw0.2 xs _ X0.out.ts (by omega) (by omega)).mono ?_
  rintro e w1 ⟨rfl, t1, k1⟩
  have X1 := Lib.hid (X0.out.next t1 k1)
  clear t1 k1 X0
  obtain ⟨c1, b1⟩ := X1.out.cells
  have r0 := b1.2 0 _ rfl
  have r1 := b1.2 1 _ rfl
  have r2 := b1.2 2 _ rfl
  clear b1
  have l1 : (xs ++ F10.num wd).length ≤ xs.length + 22 := by rw [List.length_append]; omega
  generalize hy1 : xs ++ F10.num wd = y1 at X1 l1
  have HY1 := Lib.hid hy1; clear hy1
  have hlm : ps.length = m := HR.out.len
  cases f
  · go_wp2_with fail
    refine (num_any B w.heap.size (w.heap.size + 1 + 1) m (by omega) (by omega) y1 _ X1.out.ts (by omega) (by omega)).mono ?_
    rintro e w2 ⟨rfl, t2, k2⟩
    have X2 := Lib.hid (X1.out.next t2 k2)
    clear t2 k2 X1 c1 r0 r1 r2
    obtain ⟨c2, b2⟩ := X2.out.cells
    have r0 := b2.2 0 _ rfl
    have r1 := b2.2 1 _ rfl
    have r2 := b2.2 2 _ rfl
    clear b2
    have hy2 : y1 ++ F10.num m = xs ++ pre wd false ps 0 := by
      rw [← HY1.out, ← hlm, pre, List.take_zero, Fmt.rgs]
      simp
    rw [hy2] at X2
    clear hy2
    go_wp2_with fail
    go_loopw [30] (fun i wr => ∃ k : Nat, k ≤ m ∧ i = .int .i64 k ∧ TX B w.heap.size w wr [.int .i64 wd, .bool false, .slice A m c] (xs ++ pre wd false ps k)) (fun i _ => m - (intOf i).toNat)
    case atStart => exact ⟨0, by omega, rfl, X2.out⟩
    case round =>
      obtain ⟨wo, rfl⟩ : ∃ wo, wo = wr := ⟨_, rfl⟩
      obtain ⟨k, hk, rfl, x⟩ := hrel
      have X := Lib.hid x; clear x
      by_cases hlt : k < m
      · obtain ⟨p, hp⟩ : ∃ p, ps[k]? = some p := ⟨ps[k], List.getElem?_eq_getElem (by omega)⟩
        have hin : p ∈ ps := List.mem_of_getElem? hp
        obtain ⟨hcan, hsl⟩ := Canon.part HF.out hin
        obtain ⟨b, off, eA, okb, hbl, A1, n1, d1, A2, n2, d2, q1, q2, q3, q4, l2, l3, l4, l5, hiv, hrest⟩ := (X.out.rg HR.out).get (i := k) (p := p) hp
        subst eA
        have hps := pre_succ wd false ps hp
        have hpl1 := HL.out (k + 1)
        rw [hps] at hpl1
        simp only [List.length_append] at hpl1
        have HPS := Lib.hid hps; clear hps
        have hlen1 := hiv.1
        have h64 := hsl.2
        have HSL := Lib.hid hsl; clear hsl
        have HCAN := Lib.hid hcan; clear hcan
        have HIN := Lib.hid hin; clear hin
        have HPP := Lib.hid hp; clear hp
        have X3 := Lib.hid (X.out.alloc (.cells #[.slice A1 n1 d1, .int .i64 p.2.w, .bool p.2.full, .slice A2 n2 d2] 50))
        have HB8 : Hid ((wo.alloc (.cells #[.slice A1 n1 d1, .int .i64 p.2.w, .bool p.2.full, .slice A2 n2 d2] 50)).heap[wo.heap.size]? = some (.cells #[.slice A1 n1 d1, .int .i64 p.2.w, .bool p.2.full, .slice A2 n2 d2] 50 (0, 0))) := heap_alloc_new _ _
        have HIV := Lib.hid hiv; clear hiv
        have HRE := Lib.hid hrest; clear hrest
        have hBwr : B ≤ wo.heap.size := X.out.ts.hB
        have hb0 : w.heap.size < wo.heap.size := by obtain ⟨u, hu, _⟩ := X.out.ts.own; exact (Array.getElem?_eq_some_iff.1 hu).1
        have hb2 : w.heap.size + 1 + 1 < wo.heap.size := (Array.getElem?_eq_some_iff.1 X.out.ts.num).1
        have hne8 : wo.heap.size ≠ w.heap.size := by omega
        have e0 : (xs ++ pre wd false ps k).length = xs.length + (pre wd false ps k).length := List.length_append
        have hX := HRE.out
        obtain ⟨c3, _⟩ := X3.out.cells
        generalize hy3 : xs ++ pre wd false ps k = y3 at X X3 e0
        have HY3 := Lib.hid hy3; clear hy3
        clear hX
        go_wp2_with fail
        refine (num_any B w.heap.size (w.heap.size + 1 + 1) n1 (by omega) (by omega) y3 _ X3.out.ts (by omega) (by omega)).mono ?_
        rintro e w4 ⟨rfl, t4, k4⟩
        have X4 := Lib.hid (X3.out.next t4 k4)
        have HB4 := Lib.hid (k4.blk HB8.out (by decide) hne8)
        have hb84 : wo.heap.size < w4.heap.size := (Array.getElem?_eq_some_iff.1 HB4.out).1
        have K4 : Hid (Kp B w.heap.size wo w4) := (Kp.alloc hBwr _).trans k4
        clear t4 k4 q1 q2 q3 q4 c3
        have p0 : w4.cell? ⟨wo.heap.size, 0, none⟩ = some (.slice A1 n1 d1) := by simp [World.cell?, HB4.out]
        have ln1 := num_len n1 (by omega) (by omega)
        have e4 : (y3 ++ F10.num n1).length = xs.length + (pre wd false ps k).length + (F10.num n1).length := by rw [List.length_append]; omega
        rw [hlen1] at hpl1
        generalize hy4 : y3 ++ F10.num n1 = y4 at X4 e4
        have HY4 := Lib.hid hy4; clear hy4
        have HLI := Lib.hid (ivs_len p.1)
        go_wp2_with fail
        clear X X3
        go_loopw [42] (fun j wi => ∃ l : Nat, l ≤ n1 ∧ j = .int .i64 l ∧ TX B w.heap.size w wi [.int .i64 wd, .bool false, .slice (some ⟨b, off, none⟩) m c] (y4 ++ F10.ivs (p.1.take l)) ∧ wi.heap[wo.heap.size]? = some (.cells #[.slice A1 n1 d1, .int .i64 p.2.w, .bool p.2.full, .slice A2 n2 d2] 50 (0, 0)) ∧ Kp B w.heap.size wo wi) (fun j _ => n1 - (intOf j).toNat)
        case atStart => exact ⟨0, by omega, rfl, by rw [List.take_zero, ivs_nil, List.append_nil]; exact X4.out, HB4.out, K4.out⟩
        case round =>
          obtain ⟨l, hl', rfl, x, hb8, hbw⟩ := hrel
          have X5 := Lib.hid x; clear x
          have HB5 := Lib.hid hb8; clear hb8
          by_cases hlt2 : l < n1
          · obtain ⟨x, hx⟩ : ∃ x, p.1[l]? = some x := ⟨p.1[l], List.getElem?_eq_getElem (by omega)⟩
            have hsx := Ok.mem_ok HSL.out.1 (List.mem_of_getElem? hx)
            have hivs := ivs_succ hx
            have hli := HLI.out l
            have HIVS := Lib.hid hivs; clear hivs
            have KW := Lib.hid hbw; clear hbw
            obtain ⟨b5, o5, eA1, ok5, hlt5, g0, g1, g2, g3, g4, g5, g6⟩ := (HIV.out.keep (w' := wr) ⟨KW.out.below.size, fun k hk _ => KW.out.below.block k hk⟩).get hx
            subst eA1
            have X6 := Lib.hid (X5.out.alloc (.cells x.cells.toArray 41))
            have HB6 := Lib.hid (blk_new wr x.cells 41)
            have hs6 : wo.heap.size < wr.heap.size := (Array.getElem?_eq_some_iff.1 HB5.out).1
            have e5 : (y4 ++ F10.ivs (p.1.take l)).length = y4.length + (F10.ivs (p.1.take l)).length := List.length_append
            have lv1 := val_len x.lo (by omega)
            have lv2 := val_len x.hi (by omega)
            generalize hy5 : y4 ++ F10.ivs (p.1.take l) = y5 at X5 X6 e5
            have HY5 := Lib.hid hy5; clear hy5
            have K6 : Hid (Kp B w.heap.size wo (wr.alloc (.cells x.cells.toArray 41))) := KW.out.trans (Kp.alloc X5.out.ts.hB _)
            have HB6p : Hid ((wr.alloc (.cells x.cells.toArray 41)).heap[wo.heap.size]? = some (.cells #[.slice (some ⟨b5, o5, none⟩) n1 d1, .int .i64 p.2.w, .bool p.2.full, .slice A2 n2 d2] 50 (0, 0))) := by
              rw [Below.heap_alloc _ _ _ hs6]; exact HB5.out
            clear hx HIV
            go_wp2_with fail
            refine (val_any B w.heap.size (w.heap.size + 1 + 1) x.lo y5 _ X6.out.ts (by omega) (by omega)).mono ?_
            rintro e w7 ⟨rfl, t7, k7⟩
            have X7 := Lib.hid (X6.out.next t7 k7)
            have HB7 := Lib.hid (k7.blk HB6.out (by decide) (by omega))
            have HB7p := Lib.hid (k7.blk HB6p.out (by decide) hne8)
            have K7 := Lib.hid (K6.out.trans k7)
            obtain ⟨s0, s1, s2, s3, s4, s5, s6⟩ := (cells_of_blk HB7.out).iv
            have e7 : (y5 ++ F10.val x.lo).length = y5.length + (F10.val x.lo).length := List.length_append
            generalize hy7 : y5 ++ F10.val x.lo = y7 at X7 e7
            have HY7 := Lib.hid hy7; clear hy7
            clear t7 k7 g0 g1 g2 g3 g4 g5 g6 X5 X6 HB6 K6 HB6p
            go_wp2_with fail
            refine (val_any B w.heap.size (w.heap.size + 1 + 1) x.hi y7 _ X7.out.ts (by omega) (by omega)).mono ?_
            rintro e w8 ⟨rfl, t8, k8⟩
            have X8 := Lib.hid (X7.out.next t8 k8)
            have HB8' := Lib.hid (k8.blk HB7.out (by decide) (by omega))
            have HB8p := Lib.hid (k8.blk HB7p.out (by decide) hne8)
            have K8 := Lib.hid (K7.out.trans k8)
            obtain ⟨s0, s1, s2, s3, s4, s5, s6⟩ := (cells_of_blk HB8'.out).iv
            have e8 : (y7 ++ F10.val x.hi).length = y7.length + (F10.val x.hi).length := List.length_append
            generalize hy8 : y7 ++ F10.val x.hi = y8 at X8 e8
            have HY8 := Lib.hid hy8; clear hy8
            clear t8 k8 X7 HB7 K7 HB7p
            cases hop : x.op
            · rw [hop] at s6
              go_wp2_with fail
              go_roundw
              case rel =>
                refine ⟨l + 1, by omega, by go_num, ?_, HB8p.out, K8.out⟩
                rw [HIVS.out, hop]
                simp only [← List.append_assoc, Bool.false_eq_true, if_false, List.append_nil]
                rw [HY5.out, HY7.out, HY8.out]
                exact X8.out
              case measure => simp [intOf]; omega
            · rw [hop] at s6
              obtain ⟨v, hv, ho⟩ := X8.out.ts.own
              have cb : w8.cell? ⟨w.heap.size, 0, none⟩ = some v := by simp [World.cell?, hv]
              have HV := Lib.hid hv; clear hv
              have HOv := Lib.hid ho; clear ho
              have hby := bytes1 (show y8.length ≤ 70368744177664 by omega)
              have hB9 := X8.out.ts.hB
              go_wp2_with (at_builtin; refine stop_ ?_)
              unfold Hid
              refine append_el B rfl _ _ 67 5 (.int .u8 0) 1 1 rfl Tryd.underlying67 info_u8 rfl (Nat.succ_pos _) (Nat.succ_pos _) v _ _ [.int .u8 111] rfl _ rfl rfl rfl (by simp [Value.oneCell']) HOv.out hB9 hby ?_
              intro v2 w9 hown9 hg9 _
              obtain ⟨A9, cap9, hf9, _, _⟩ := own_form hown9
              subst hf9
              generalize hq : y8.length + 1 = q at hown9 ⊢
              have hown9' : w9.ownsRow B 5 1 (.slice A9 q cap9) (y8 ++ [111]).length (Lib.byteCells (y8 ++ [111])) := by
                rw [byteCells_append, List.length_append, show y8.length + [(111 : UInt8)].length = q from hq]; exact hown9
              obtain ⟨c9, f9, t9, k9⟩ := TS.grown X8.out.ts (by omega) HV.out HOv.out hg9 hown9'
              have X9 := Lib.hid (X8.out.next t9 k9)
              have HB9 := Lib.hid (k9.blk HB8p.out (by decide) hne8)
              have K9 := Lib.hid (K8.out.trans k9)
              clear t9 k9 hown9 hown9' hg9 hq cb
              go_wp2_with fail
              go_roundw
              case rel =>
                refine ⟨l + 1, by omega, by go_num, ?_, HB9.out, K9.out⟩
                rw [HIVS.out, hop]
                simp only [← List.append_assoc, if_true]
                rw [HY5.out, HY7.out, HY8.out]
                exact X9.out
              case measure => simp [intOf]; omega
          · have el : p.1.take l = p.1 := List.take_of_length_le (by omega)
            rw [el] at X5
            have KW := Lib.hid hbw; clear hbw
            have e5 : (y4 ++ F10.ivs p.1).length = y4.length + (F10.ivs p.1).length := List.length_append
            generalize hy5 : y4 ++ F10.ivs p.1 = y5 at X5 e5
            have HY5 := Lib.hid hy5; clear hy5
            obtain ⟨v, hv, ho⟩ := X5.out.ts.own
            obtain ⟨A5, cap5, hf5, _, _⟩ := own_form ho
            subst hf5
            have cb : wr.cell? ⟨w.heap.size, 0, none⟩ = some (.slice A5 y5.length cap5) := by simp [World.cell?, hv]
            have p1 : wr.cell? ⟨wo.heap.size, 1, none⟩ = some (.int .i64 p.2.w) := by simp [World.cell?, HB5.out]
            have p2 : wr.cell? ⟨wo.heap.size, 2, none⟩ = some (.bool p.2.full) := by simp [World.cell?, HB5.out]
            have p3 : wr.cell? ⟨wo.heap.size, 3, none⟩ = some (.slice A2 n2 d2) := by simp [World.cell?, HB5.out]
            have HV := Lib.hid hv; clear hv
            have HOv := Lib.hid ho; clear ho
            have hBr := X5.out.ts.hB
            have HRE2 := Lib.hid (HRE.out.keep (w' := wr) ⟨KW.out.below.size, fun k hk _ => KW.out.below.block k hk⟩)
            have hlm9 : y5.length + (F10.rg p.2).length + 10000 ≤ 70368744177664 := by omega
            have HC9 := Lib.hid (IH.out p HIN.out HCAN.out A2 n2 d2 (.slice A5 y5.length cap5) y5 wr HRE2.out l3 l5 HOv.out X5.out.ts.tab hBr hlm9)
            clear e0 e4 e5 hlm9
            go_wp2_with fail
            refine HC9.out.mono ?_
            rintro e w9 ⟨v9, rfl, hown9, hb9, hk9⟩
            obtain ⟨A9, cap9, hf9, _, _⟩ := own_form hown9
            subst hf9
            have hy9 : y5 ++ F10.rg p.2 = xs ++ pre wd false ps (k + 1) := by
              rw [HPS.out, ← HY5.out, ← HY4.out, ← HY3.out, hlen1]
              simp only [List.append_assoc]
            rw [hy9] at hown9 ⊢
            generalize hq : (xs ++ pre wd false ps (k + 1)).length = q at hown9 ⊢
            rw [← hq] at hown9
            have G : w9.ownsRow B 5 1 (.slice A9 q cap9) (xs ++ pre wd false ps (k + 1)).length (Lib.byteCells (xs ++ pre wd false ps (k + 1))) := by rw [← hq]; exact hown9
            obtain ⟨c9, f9, t9, k9⟩ := TS.said X5.out.ts (by omega) HV.out hb9 hk9 G
            have X9 := Lib.hid (X5.out.next t9 k9)
            clear t9 k9 hown9 G hb9 hk9 hq cb hy9
            go_wp2_with fail
            go_roundw
            case rel => exact ⟨k + 1, by omega, by go_num, X9.out⟩
            case measure => simp [intOf]; omega
      · obtain ⟨v, hv, ho⟩ := X.out.ts.own
        obtain ⟨A5, cap5, hf5, _, _⟩ := own_form ho
        subst hf5
        rw [pre_all wd false ps (by omega)] at hv ho X
        generalize hq : (xs ++ F10.rg (.mk wd false ps)).length = q at hv ho
        have cb : wo.cell? ⟨w.heap.size, 0, none⟩ = some (.slice A5 q cap5) := by simp [World.cell?, hv]
        have HOv := Lib.hid ho; clear ho hv
        have HQ := Lib.hid hq; clear hq
        go_wp2_with fail
        go_ret
        exact ⟨_, rfl, by rw [HQ.out]; exact HOv.out, X.out.kp.below, fun k o hk _ ho => X.out.kp.others k o hk (fun e => by have := (Array.getElem?_eq_some_iff.1 hk).1; injection e with e; omega) ho⟩
  · have hm0 : m = 0 := by
      obtain ⟨n, _, hF, _⟩ := HF.out
      cases n with
      | zero => have := hF.2; simp only [Rg.ps_mk] at this; rw [this] at hlm; exact hlm.symm
      | succ n => exact absurd hF.2.1 (by simp)
    obtain ⟨v, hv, ho⟩ := X1.out.ts.own
    have cb : w1.cell? ⟨w.heap.size, 0, none⟩ = some v := by simp [World.cell?, hv]
    have HV := Lib.hid hv; clear hv
    have HOv := Lib.hid ho; clear ho
    have hby := bytes1 (show y1.length ≤ 70368744177664 by omega)
    have hB9 := X1.out.ts.hB
    go_wp2_with (at_builtin; refine stop_ ?_)
    unfold Hid
    refine append_el B rfl _ _ 67 5 (.int .u8 0) 1 1 rfl Tryd.underlying67 info_u8 rfl (Nat.succ_pos _) (Nat.succ_pos _) v _ _ [.int .u8 102] rfl _ rfl rfl rfl (by simp [Value.oneCell']) HOv.out hB9 hby ?_
    intro v2 w9 hown9 hg9 _
    obtain ⟨A9, cap9, hf9, _, _⟩ := own_form hown9
    subst hf9
    generalize hq : y1.length + 1 = q at hown9 ⊢
    have hown9' : w9.ownsRow B 5 1 (.slice A9 q cap9) (y1 ++ [102]).length (Lib.byteCells (y1 ++ [102])) := by
      rw [byteCells_append, List.length_append, show y1.length + [(102 : UInt8)].length = q from hq]; exact hown9
    obtain ⟨c9, f9, t9, k9⟩ := TS.grown X1.out.ts (by omega) HV.out HOv.out hg9 hown9'
    have X9 := Lib.hid (X1.out.next t9 k9)
    clear t9 k9 hown9 hown9' hg9 cb c1 r0 r1 r2
    obtain ⟨c2, b2⟩ := X9.out.cells
    have r0 := b2.2 0 _ rfl
    have r1 := b2.2 1 _ rfl
    have r2 := b2.2 2 _ rfl
    clear b2
    have e9 : (y1 ++ [(102 : UInt8)]).length = y1.length + 1 := by simp
    generalize hy9 : y1 ++ [(102 : UInt8)] = y9 at X9 e9
    have HY9 := Lib.hid hy9; clear hy9
    generalize hw9 : w9.setCell ⟨w.heap.size, 0, none⟩ (.slice A9 q cap9) = wz at *
    go_wp2_with fail
    refine (num_any B w.heap.size (w.heap.size + 1 + 1) (0 : Nat) (by omega) (by omega) y9 _ X9.out.ts (by omega) (by omega)).mono ?_
    rintro e w2 ⟨rfl, t2, k2⟩
    have X2 := Lib.hid (X9.out.next t2 k2)
    clear t2 k2 X1 X9 c2 r0 r1 r2 hw9
    obtain ⟨c2, b2⟩ := X2.out.cells
    have r0 := b2.2 0 _ rfl
    have r1 := b2.2 1 _ rfl
    have r2 := b2.2 2 _ rfl
    clear b2
    have hy2 : y9 ++ F10.num (0 : Nat) = xs ++ F10.rg (.mk wd true ps) := by
      rw [← HY9.out, ← HY1.out, ← pre_all wd true ps (k := 0) (by omega), pre, List.take_zero, Fmt.rgs, hlm, hm0]
      simp
    rw [hy2] at X2
    clear hy2
    go_wp2_with fail
    go_loopw [30] (fun i wr => i = .int .i64 0 ∧ TX B w.heap.size w wr [.int .i64 wd, .bool true, .slice A m c] (xs ++ F10.rg (.mk wd true ps))) (fun i _ => 0 - (intOf i).toNat)
    case atStart => exact ⟨rfl, X2.out⟩
    case round =>
      obtain ⟨rfl, x⟩ := hrel
      have X := Lib.hid x; clear x
      obtain ⟨v, hv, ho⟩ := X.out.ts.own
      obtain ⟨A5, cap5, hf5, _, _⟩ := own_form ho
      subst hf5
      generalize hq : (xs ++ F10.rg (.mk wd true ps)).length = q at hv ho
      have cb : wr.cell? ⟨w.heap.size, 0, none⟩ = some (.slice A5 q cap5) := by simp [World.cell?, hv]
      have HOv := Lib.hid ho; clear ho hv
      have HQ := Lib.hid hq; clear hq
      go_wp2_with fail
      go_ret
      exact ⟨_, rfl, by rw [HQ.out]; exact HOv.out, X.out.kp.below, fun k o hk _ ho => X.out.kp.others k o hk (fun e => by have := (Array.getElem?_eq_some_iff.1 hk).1; injection e with e; omega) ho⟩

end Go.Proofs.YtbkgmahpfghheaaDoor
