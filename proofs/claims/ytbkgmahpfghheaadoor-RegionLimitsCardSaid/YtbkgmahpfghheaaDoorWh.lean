/- Contracts of the two function literals in region.text. -/
import Derived.Test.YtbkgmahpfghheaaDoorWg
namespace Go.Proofs.YtbkgmahpfghheaaDoor
open Go.RowKit
open Ps

theorem info_u8 : (Tryd.prog.info? 5).map (fun i => (i.zero, i.size, i.bytes)) = some (some (.int .u8 0), 1, 1) := by kernel_rfl

theorem heap_setCell_self {w : World} {b : Nat} {v u : Value} {T : TypeId} (h : w.heap[b]? = some (.cells #[v] T (0, 0))) : (w.setCell ⟨b, 0, none⟩ u).heap[b]? = some (.cells #[u] T (0, 0)) := by
  simp [World.setCell, Array.getElem?_modify, h]

theorem own_form {w : World} {base n size : Nat} {e : TypeId} {v : Value} {xs : List Value} (h : w.ownsRow base e size v n xs) : ∃ A c, v = .slice A n c ∧ n ≤ c ∧ c ≤ 9223372036854775807 := by
  rcases h.2 with ⟨rfl, rfl⟩ | ⟨g, cap, cur, rfl, _, _, h1, h2, _⟩
  · exact ⟨none, 0, rfl, by omega, by omega⟩
  · exact ⟨_, cap, rfl, h1, h2⟩

theorem own_ne {w : World} {b size n k : Nat} {e T : TypeId} {v : Value} {xs : List Value} {c : Array Value} {fz : Nat × Nat} (h : w.ownsRow b e size v n xs) (hk : w.heap[k]? = some (.cells c T fz)) (ht : e ≠ T) : v.ownBlock = none ∨ v.ownBlock ≠ some k := by
  rcases h.2 with ⟨rfl, _⟩ | ⟨g, cap, cur, rfl, _, hh, _⟩
  · exact .inl rfl
  · refine .inr fun e1 => ?_
    have : g = k := by simpa [Value.ownBlock] using e1
    subst this
    rw [hk] at hh
    injection hh with hh
    injection hh with _ h2
    exact ht h2.symm

theorem bytes1 {n : Nat} (h : n ≤ 70368744177664) : (n + 1) * 1 ≤ 140737488355328 := by omega

set_option maxHeartbeats 800000 in
theorem num_any (B Bb Bn : Nat) (i : Int) (h0 : -9223372036854775808 ≤ i) (h1 : i ≤ 9223372036854775807) (xs : List UInt8) (w : World) (hT : TS B Bb Bn w xs) (hlim : xs.length + 100 ≤ 70368744177664) (hne : Bb ≠ Bn) :
    Calls Tryd.prog 32 #[.int .i64 i, .pointer (some ⟨Bb, 0, none⟩)] w fun e w' => e = .returned (.tuple #[]) ∧ TS B Bb Bn w' (xs ++ F10.num i) ∧ Kp B Bb w w' := by
  obtain ⟨v, hv, hown⟩ := hT.own
  have hc : w.cell? ⟨Bb, 0, none⟩ = some v := by simp [World.cell?, hv]
  have H := Lib.hid hT; clear hT
  have HV := Lib.hid hv; clear hv
  have HO := Lib.hid hown; clear hown
  go_enter Tryd.func32, Tryd.ntmps32
  go_wp2_with fail
  refine (Tryd.strconv_AppendInt_10 B xs.length i h0 h1 v (Lib.byteCells xs) _ HO.out H.out.hB (by omega) H.out.tab).mono ?_
  rintro e w1 ⟨v1, rfl, hown1, hb1, hk1⟩
  have hv1 := hk1 Bb _ HV.out (by simp) (fun c fz e => by cases e)
  have hn1 := hk1 Bn _ H.out.num (by simp) (fun c fz e => by cases e)
  have hl := Lib.itoa_length_le i h0 h1
  have hB1 : B ≤ w1.heap.size := Nat.le_trans H.out.hB hb1.size
  have hby := bytes1 (show xs.length + (Lib.itoa i).length ≤ 70368744177664 by omega)
  have HV1 := Lib.hid hv1; clear hv1
  have HN1 := Lib.hid hn1; clear hn1
  have HO1 := Lib.hid hown1; clear hown1
  go_wp2_with (at_builtin; refine stop_ ?_)
  unfold Hid
  refine append_el B rfl _ _ 67 5 (.int .u8 0) 1 1 rfl Tryd.underlying67 info_u8 rfl (Nat.succ_pos _) (Nat.succ_pos _) v1 _ _ [.int .u8 44] rfl _ rfl rfl rfl (by simp [Value.oneCell']) HO1.out hB1 hby ?_
  intro v2 w2 hown2 hg2 hat2
  obtain ⟨A2, cap2, hf2, _, _⟩ := own_form hown2
  subst hf2
  have hB2 : B ≤ w2.heap.size := Nat.le_trans hB1 hg2.size
  have hk2 : Lib.OthersKept 5 none w1 w2 := others_grown HO1.out hg2
  have hb2 : Below B w w2 := hb1.grown hg2 hB1 (fun k e => (HO1.out.lt k e).1)
  have hv2 := hk2 Bb _ HV1.out (by simp) (fun c fz e => by cases e)
  have hn2 := hk2 Bn _ HN1.out (by simp) (fun c fz e => by cases e)
  have c2 : w2.cell? ⟨Bb, 0, none⟩ = some v := by simp [World.cell?, hv2]
  have f2 : w2.frozen? ⟨Bb, 0, none⟩ = false := by simp [World.frozen?, hv2]
  have HV2 := Lib.hid hv2; clear hv2
  have HN2 := Lib.hid hn2; clear hn2
  have HO2 := Lib.hid hown2; clear hown2
  have HK : Hid (Lib.OthersKept 5 (some Bb) w w2) := fun k o hk hb ho => hk2 k o (hk1 k o hk (by simp) ho) (by simp) ho
  clear hg2 hat2 hk1 hk2
  go_wp2_with fail
  go_end0
  refine ⟨rfl, ⟨⟨_, heap_setCell_self HV2.out, ?_⟩, ?_, ?_, ?_, H.out.ge⟩, ?_, ?_⟩
  · have hlt := own_ne HO2.out HV2.out (by decide)
    have key := HO2.out.kept (w' := w2.setCell ⟨Bb, 0, none⟩ (.slice A2 (xs.length + (Lib.itoa i).length + 1) cap2)) (row := some Bb) ⟨rfl, rfl, rfl, by simp [World.setCell], fun k _ hk => Below.heap_setCell _ _ _ _ (fun e => hk (by rw [e]))⟩ hlt
    have e1 : Lib.byteCells (xs ++ F10.num i) = Lib.byteCells xs ++ Lib.byteCells (Lib.itoa i) ++ [.int .u8 44] := by
      rw [byteCells_append, Fmt.num, byteCells_append, ← List.append_assoc]
      rfl
    have e2 : (xs ++ F10.num i).length = xs.length + (Lib.itoa i).length + 1 := by
      rw [List.length_append, Fmt.num, List.length_append]
      rfl
    rw [e1, e2]
    exact key
  · rw [Below.heap_setCell _ _ _ _ (fun e => hne e.symm)]
    exact HN2.out
  · simp [World.setCell]; exact hB2
  · exact H.out.tab.on (hb2.setCell H.out.ge _)
  · exact hb2.setCell H.out.ge _
  · intro k o hk hb ho
    rw [Below.heap_setCell _ _ _ _ (fun e => hb (by rw [e]))]
    exact HK.out k o hk hb ho

theorem TS.alloc {B Bb Bn : Nat} {w : World} {xs : List UInt8} (h : TS B Bb Bn w xs) (o : Obj) : TS B Bb Bn (w.alloc o) xs := by
  obtain ⟨v, hv, ho⟩ := h.own
  refine ⟨⟨v, ?_, ho.alloc o⟩, ?_, by have := h.hB; simp; omega, h.tab.on ((Below.refl _ _).alloc h.hB _), h.ge⟩
  · rw [Below.heap_alloc _ _ _ (Array.getElem?_eq_some_iff.1 hv).1]; exact hv
  · rw [Below.heap_alloc _ _ _ (Array.getElem?_eq_some_iff.1 h.num).1]; exact h.num

theorem Kp.alloc {B Bb : Nat} {w : World} (hB : B ≤ w.heap.size) (o : Obj) : Kp B Bb w (w.alloc o) := ⟨(Below.refl _ _).alloc hB _, others_alloc _ _ _ _⟩

theorem Kp.blk {B Bb : Nat} {w w' : World} (h : Kp B Bb w w') {k : Nat} {c : Array Value} {T : TypeId} {fz : Nat × Nat} (hk : w.heap[k]? = some (.cells c T fz)) (hT : T ≠ 5) (hb : k ≠ Bb) : w'.heap[k]? = some (.cells c T fz) :=
  h.others k _ hk (fun e => hb (Option.some.inj e)) (fun c' fz' e => by injection e with _ e _; exact hT e)

theorem TS.put {B Bb Bn : Nat} {w w2 : World} {xs ys : List UInt8} {v2 : Value} (hT : TS B Bb Bn w xs) (hne : Bb ≠ Bn) (hb : Below B w w2) (hk : Lib.OthersKept 5 none w w2) (ho : w2.ownsRow B 5 1 v2 ys.length (Lib.byteCells ys)) :
    TS B Bb Bn (w2.setCell ⟨Bb, 0, none⟩ v2) ys ∧ Kp B Bb w (w2.setCell ⟨Bb, 0, none⟩ v2) := by
  obtain ⟨v, hv, _⟩ := hT.own
  have hv2 := hk Bb _ hv (by simp) (fun c fz e => by cases e)
  have hn2 := hk Bn _ hT.num (by simp) (fun c fz e => by cases e)
  have hlt := own_ne ho hv2 (by decide)
  refine ⟨⟨⟨v2, heap_setCell_self hv2, ?_⟩, ?_, ?_, ?_, hT.ge⟩, hb.setCell hT.ge _, ?_⟩
  · exact ho.kept (w' := w2.setCell ⟨Bb, 0, none⟩ v2) (row := some Bb) ⟨rfl, rfl, rfl, by simp [World.setCell], fun k _ hk => Below.heap_setCell _ _ _ _ (fun e => hk (by rw [e]))⟩ hlt
  · rw [Below.heap_setCell _ _ _ _ (fun e => hne e.symm)]; exact hn2
  · have := hT.hB; have := hb.size; simp [World.setCell]; omega
  · exact hT.tab.on (hb.setCell hT.ge _)
  · intro k o hk' hb' ho'
    rw [Below.heap_setCell _ _ _ _ (fun e => hb' (by rw [e]))]
    exact hk k o hk' (by simp) ho'

theorem cells_of_blk {w : World} {k : Nat} {cs : List Value} {T : TypeId} (h : w.heap[k]? = some (.cells cs.toArray T (0, 0))) : Box w k cs :=
  ⟨(Array.getElem?_eq_some_iff.1 h).1, fun j u hu => by simp only [World.cell?, h]; simpa using hu⟩

theorem blk_new (w : World) (cs : List Value) (T : TypeId) : (w.alloc (.cells cs.toArray T)).heap[w.heap.size]? = some (.cells cs.toArray T (0, 0)) := heap_alloc_new w _

theorem TS.cell {B Bb Bn : Nat} {w : World} {xs : List UInt8} (h : TS B Bb Bn w xs) : w.cell? ⟨Bn, 0, none⟩ = some (.func (.func 32) #[] #[.pointer (some ⟨Bb, 0, none⟩)]) := by
  simp [World.cell?, h.num]

set_option maxHeartbeats 800000 in
theorem val_any (B Bb Bn : Nat) (v : Vl) (xs : List UInt8) (w : World) (hT : TS B Bb Bn w xs) (hlim : xs.length + v.text.size + 1000 ≤ 70368744177664) (hne : Bb ≠ Bn) :
    Calls Tryd.prog 34 #[.agg #[.int .i64 v.kind, .int .i64 v.num, .string v.text], .pointer (some ⟨Bn, 0, none⟩), .pointer (some ⟨Bb, 0, none⟩)] w fun e w' => e = .returned (.tuple #[]) ∧ TS B Bb Bn w' (xs ++ F10.val v) ∧ Kp B Bb w w' := by
  have hk := v.hk
  have hn := v.hn
  have hBb : Bb < w.heap.size := by obtain ⟨u, hu, _⟩ := hT.own; exact (Array.getElem?_eq_some_iff.1 hu).1
  have hBn : Bn < w.heap.size := (Array.getElem?_eq_some_iff.1 hT.num).1
  have T1 := Lib.hid (hT.alloc (.cells v.cells.toArray 39))
  have K1 : Hid (Kp B Bb w (w.alloc (.cells v.cells.toArray 39))) := Kp.alloc hT.hB _
  have hp := Lib.hid (blk_new w v.cells 39)
  have c1 : (w.alloc (.cells #[.int .i64 v.kind, .int .i64 v.num, .string v.text] 39)).cell? ⟨Bn, 0, none⟩ = some (.func (.func 32) #[] #[.pointer (some ⟨Bb, 0, none⟩)]) := T1.out.cell
  have c0 := hT.cell
  have len : ∀ n : Int, -9223372036854775808 ≤ n → n ≤ 9223372036854775807 → (F10.num n).length ≤ 22 := fun n h0 h1 => by
    have := Lib.itoa_length_le n h0 h1
    show (Lib.itoa n ++ [44]).length ≤ 22
    simp; omega
  have hts : ((v.text.size : Nat) : Int) ≤ 9223372036854775807 := by omega
  have l1 := len v.kind hk.1 hk.2
  have l2 := len v.num hn.1 hn.2
  have l3 := len (v.text.size : Int) (by omega) hts
  clear len hT
  go_enter Tryd.func34, Tryd.ntmps34
  go_wp2_with fail
  refine (num_any B Bb Bn v.kind hk.1 hk.2 xs _ T1.out (by omega) hne).mono ?_
  rintro e w1 ⟨rfl, t2, k2⟩
  have T2 := Lib.hid t2
  have hp2 := Lib.hid (k2.blk hp.out (by decide) (by omega))
  have K2 := Lib.hid (K1.out.trans k2)
  obtain ⟨p1, p2, p3⟩ := (cells_of_blk hp2.out).vl
  have c2 := t2.cell
  have e2 : (xs ++ F10.num v.kind).length ≤ xs.length + 22 := by rw [List.length_append]; omega
  clear t2 k2 c1 c0
  go_wp2_with fail
  refine (num_any B Bb Bn v.num hn.1 hn.2 _ _ T2.out (by omega) hne).mono ?_
  rintro e w2 ⟨rfl, t3, k3⟩
  have T3 := Lib.hid t3
  have hp3 := Lib.hid (k3.blk hp2.out (by decide) (by omega))
  have K3 := Lib.hid (K2.out.trans k3)
  obtain ⟨p1, p2, p3⟩ := (cells_of_blk hp3.out).vl
  have c3 := t3.cell
  have e3 : (xs ++ F10.num v.kind ++ F10.num v.num).length ≤ xs.length + 44 := by rw [List.length_append]; omega
  clear t3 k3 c2
  go_wp2_with fail
  refine (num_any B Bb Bn v.text.size (by omega) hts _ _ T3.out (by omega) hne).mono ?_
  rintro e w3 ⟨rfl, t4, k4⟩
  have T4 := Lib.hid t4
  have hp4 := Lib.hid (k4.blk hp3.out (by decide) (by omega))
  have K4 := Lib.hid (K3.out.trans k4)
  obtain ⟨p1, p2, p3⟩ := (cells_of_blk hp4.out).vl
  have e4 : (xs ++ F10.num v.kind ++ F10.num v.num ++ F10.num v.text.size).length ≤ xs.length + 66 := by rw [List.length_append]; omega
  obtain ⟨b, hb, ho⟩ := t4.own
  have cb : w3.cell? ⟨Bb, 0, none⟩ = some b := by simp [World.cell?, hb]
  have HO := Lib.hid ho
  clear t4 k4 c3 ho hb
  obtain ⟨i0, hi, hzz⟩ := Option.map_eq_some_iff.1 info_u8
  simp only [Prod.mk.injEq] at hzz
  have HI := Lib.hid hi
  have HZ := Lib.hid hzz
  clear hi hzz
  go_wp2_with (at_builtin; refine stop_ ?_)
  unfold Hid
  refine Lib.wpList_append_own_string _ rfl _ _ 67 9 rfl B 5 i0 Tryd.underlying67 Tryd.underlying9 HI.out HZ.out.1 HZ.out.2.1 HZ.out.2.2 b _ _ rfl HO.out v.text rfl (by simp only [maxLen]; omega) (by omega) T4.out.hB ?_
  intro v2 w4 hown2 hg2 _
  obtain ⟨A2, cap2, hf2, _, _⟩ := own_form hown2
  subst hf2
  generalize hq : (xs ++ F10.num v.kind ++ F10.num v.num ++ F10.num v.text.size).length + v.text.size = q at hown2 ⊢
  have hb2 : Below B w3 w4 := (Below.refl _ _).grown hg2 T4.out.hB (fun k e => (HO.out.lt k e).1)
  have hk2 : Lib.OthersKept 5 none w3 w4 := others_grown HO.out hg2
  have cb2 : w4.cell? ⟨Bb, 0, none⟩ = some b := by
    obtain ⟨b', hb', _⟩ := T4.out.own
    have := hk2 Bb _ hb' (by simp) (fun c fz e => by cases e)
    have h1 : w3.cell? ⟨Bb, 0, none⟩ = some b' := by simp [World.cell?, hb']
    rw [cb] at h1
    cases h1
    simp [World.cell?, this]
  have f2 : w4.frozen? ⟨Bb, 0, none⟩ = false := by
    obtain ⟨b', hb', _⟩ := T4.out.own
    have := hk2 Bb _ hb' (by simp) (fun c fz e => by cases e)
    simp [World.frozen?, this]
  have e5 : Lib.byteCells (xs ++ F10.num v.kind ++ F10.num v.num ++ F10.num v.text.size) ++ Lib.strCells v.text = Lib.byteCells (xs ++ F10.val v) := by
    rw [show Lib.strCells v.text = Lib.byteCells v.text.data.toList from rfl, ← byteCells_append, Fmt.val]
    simp only [List.append_assoc]
  have e6 : (xs ++ F10.num v.kind ++ F10.num v.num ++ F10.num v.text.size).length + v.text.size = (xs ++ F10.val v).length := by
    rw [Fmt.val]
    simp only [List.length_append, Array.length_toList]
    have : v.text.size = v.text.data.size := rfl
    omega
  have e7 := hq.symm.trans e6
  have P : Hid (TS B Bb Bn (w4.setCell ⟨Bb, 0, none⟩ (.slice A2 q cap2)) (xs ++ F10.val v) ∧ Kp B Bb w3 (w4.setCell ⟨Bb, 0, none⟩ (.slice A2 q cap2))) := T4.out.put hne hb2 hk2 (by rw [← e7, ← e5]; exact hown2)
  clear hown2 hg2 hk2 hb2 e5 e6 e7 hq
  go_wp2_with fail
  go_end0
  exact ⟨rfl, P.out.1, K4.out.trans P.out.2⟩

end Go.Proofs.YtbkgmahpfghheaaDoor
