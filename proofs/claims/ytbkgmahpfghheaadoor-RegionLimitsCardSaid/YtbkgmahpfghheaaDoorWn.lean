/- Contracts of region.spans and of its sorting function. -/
import Derived.Test.YtbkgmahpfghheaaDoorWm
import Derived.Shelf.SlSortCmp.NoneTotal
namespace Go.Proofs.YtbkgmahpfghheaaDoor
open Go.Shelf Go.RowKit Go.Lib Go.Sort
open Ps

def cmpS (s t : Sp) : Int := cmpI s.1.lo t.1.lo

theorem cmpS_any (s t : Sp) (w : World) :
    Calls Tryd.prog 29 #[.agg #[.int .i64 s.1.lo.kind, .int .i64 s.1.lo.num, .string s.1.lo.text, .int .i64 s.1.hi.kind, .int .i64 s.1.hi.num, .string s.1.hi.text, .bool s.1.op, .int .i64 s.2], .agg #[.int .i64 t.1.lo.kind, .int .i64 t.1.lo.num, .string t.1.lo.text, .int .i64 t.1.hi.kind, .int .i64 t.1.hi.num, .string t.1.hi.text, .bool t.1.op, .int .i64 t.2]] w fun e w' => e = .returned (.int .i64 (cmpS s t)) ∧ ∃ q os, w' = Sort.grow (w.drewN q) os := by
  have fin : ∀ (o1 o2 : Obj) (w2 : World), (∃ q os, w2 = Sort.grow (((w.alloc o1).alloc o2).drewN q) os) → ∃ q os, w2 = Sort.grow (w.drewN q) os := by
    rintro o1 o2 w2 ⟨q, os, rfl⟩
    refine ⟨q, #[o1] ++ #[o2] ++ os, ?_⟩
    rw [Sort.alloc_eq_grow, Sort.alloc_eq_grow, Sort.grow_grow, ← Sort.grow_grow (w.drewN q)]
    rfl
  have FIN := Lib.hid fin; clear fin
  go_enter Tryd.func29, Tryd.ntmps29
  go_wp2_with fail
  refine (compare_any s.1.lo t.1.lo _).mono ?_
  rintro e w1 ⟨rfl, h1⟩
  go_wp2_with fail
  go_ret
  exact ⟨rfl, FIN.out _ _ _ h1⟩

theorem ltOf_cmpS (x y : Sp) : ltOf cmpS x y = decide (x.1.lo < y.1.lo) := by
  unfold ltOf cmpS
  exact decide_eq_decide.2 cmpI_neg

theorem swoS : Sort.SWO (ltOf cmpS) where
  irrefl x := by rw [ltOf_cmpS]; simp [Vl.irrefl]
  trans x y z h k := by
    rw [ltOf_cmpS, decide_eq_true_eq] at *
    exact Vl.trans h k
  ntrans x y z h k := by
    rw [ltOf_cmpS, decide_eq_false_iff_not] at *
    grind

theorem cmpLaysS (blk off size : Nat) (w : World) : CmpLays Tryd.prog 29 #[] Sp.cells 8 cmpS blk off size w := fun _ _ _ _ x y => cmpS_any x y _
theorem sp_one (x : Sp) : ∀ u ∈ x.cells, u.oneCell' = true := by
  intro u hu
  simp [Sp.cells, Iv.cells] at hu
  rcases hu with rfl | rfl | rfl | rfl | rfl | rfl | rfl | rfl <;> rfl

theorem sortS_any (base : Nat) (l : List Sp) (g cap : Nat) (w : World) (h : w.ownsRow base 73 8 (.slice (some ⟨g, 0, none⟩) l.length cap) l.length (l.flatMap Sp.cells)) (hlt : l.length < 4611686018427387904) :
    Calls Tryd.prog 28 #[.slice (some ⟨g, 0, none⟩) l.length cap, .func (.func 29) #[] #[]] w fun e w' => e = .returned (.tuple #[]) ∧
      ∃ l' : List Sp, l'.Perm l ∧ l'.Pairwise (fun s t => s.1.lo ≤ t.1.lo) ∧ w'.ownsRow base 73 8 (.slice (some ⟨g, 0, none⟩) l.length cap) l.length (l'.flatMap Sp.cells) ∧ w.grownBy w' (some g) := by
  have eg : ∀ args w, (callFunc 29 args).run Tryd.prog w = .ok (.enter 29 args) w := enters_of Tryd.func29 (by kernel_rfl) rfl
  have hlt' : g < w.heap.size := (h.lt g rfl).2
  have hcon := AnyQ.slices_SortFunc Tryd.sortS 8 Tryd.isAgg73 Tryd.sizeOf73 Sp.cells (fun _ => rfl) (fun x v hv => sp_one x v hv) cmpS swoS 29 #[] g 0 cap l.toArray w eg (cmpLaysS g 0 _ w)
    (holdsK_own Sp.cells 8 (fun _ => rfl) h) hlt' (by simpa using hlt)
  change Calls Tryd.prog 28 _ _ _ at hcon
  refine hcon.mono fun e w' ⟨he, d', n, os, hp, hs, hw⟩ => ⟨he, d'.toList, ?_, ?_, ?_⟩
  · have := hp.2.2
    have hsz := hp.1
    simp only [List.size_toArray] at this hsz
    rw [Array.extract_eq_self_of_le (by omega), Array.extract_eq_self_of_le (by simp)] at this
    simpa using this
  · rw [List.pairwise_iff_getElem]
    intro i j hi hj hij
    have hsz := hp.1
    simp only [List.size_toArray] at hsz
    have hi' : i < d'.size := by simpa using hi
    have hj' : j < d'.size := by simpa using hj
    have := hs i j (Nat.zero_le _) hij (by simp; omega)
    rw [ltOf_cmpS, decide_eq_false_iff_not, getElem!_pos _ i hi', getElem!_pos _ j hj'] at this
    simp only [Array.getElem_toList]
    exact Vl.le_iff.2 this
  · rw [hw]
    exact own_putRowK Sp.cells 8 (fun _ => rfl) h (by have := hp.1; simpa using this)

theorem sortS_none (w : World) (p : Option Addr) (cap : Nat) (fv : Value) : Calls Tryd.prog 28 #[.slice p 0 cap, fv] w fun e w' => e = .returned (.tuple #[]) ∧ w' = w := by
  have := AnyF.slices_SortFunc_none Tryd.sortS p cap fv w
  exact this

/-! ### spans -/
def flatS : Nat → Pts → List Sp
  | _, [] => []
  | i, p :: t => p.1.map (·, i) ++ flatS (i + 1) t
theorem flatS_append : ∀ (i : Nat) (a b : Pts), flatS i (a ++ b) = flatS i a ++ flatS (i + a.length) b
  | i, [], b => by simp [flatS]
  | i, p :: a, b => by
    rw [List.cons_append, flatS, flatS, flatS_append, List.append_assoc, List.length_cons]
    congr 2
    congr 1
    omega
theorem flatS_snoc (a : Pts) (p : List Iv × Rg) : flatS 0 (a ++ [p]) = flatS 0 a ++ p.1.map (·, a.length) := by rw [flatS_append]; simp [flatS]
theorem flatS_len : ∀ (i : Nat) (a : Pts), (∀ p ∈ a, p.1.length ≤ 64) → (flatS i a).length ≤ a.length * 64
  | i, [], _ => by simp [flatS]
  | i, p :: a, h => by
    have h1 := h p (by simp)
    have h2 := flatS_len (i + 1) a (fun q hq => h q (by simp [hq]))
    rw [flatS, List.length_append, List.length_map, List.length_cons]
    omega

theorem info_sp : (Tryd.prog.info? 73).map (fun i => (i.zero, i.size, i.bytes)) = some (some (.agg #[.int .i64 0, .int .i64 0, .string ⟨#[]⟩, .int .i64 0, .int .i64 0, .string ⟨#[]⟩, .bool false, .int .i64 0]), 8, 80) := by kernel_rfl
theorem bytes80 {n : Nat} (h : n ≤ 9000000) : (n + 1) * 80 ≤ 140737488355328 := by omega
theorem sps_append (l : List Sp) (x : Sp) : spCells l ++ x.cells = spCells (l ++ [x]) := by simp [spCells]

/-- A row of spans of the call's own, read. -/
theorem spAt_own {base : Nat} {w : World} {v : Value} {L : List Sp} (h : w.ownsRow base 73 8 v L.length (spCells L)) : ∃ A c, v = .slice A L.length c ∧ SpAt (base ≤ ·) w A L.length L ∧ L.length ≤ c ∧ c ≤ 9223372036854775807 := by
  have hl : (spCells L).length = L.length * 8 := flatMap_len (f := Sp.cells) (k := 8) (fun _ => rfl) L
  rcases h.2 with ⟨e, h0⟩ | ⟨g, cap, cur, e, hb, hg, h1, h2, _⟩
  · have : L = [] := List.eq_nil_of_length_eq_zero h0
    subst this
    exact ⟨none, 0, e, ⟨rfl, .inl rfl⟩, by simp, by omega⟩
  · subst e
    refine ⟨some ⟨g, 0, none⟩, cap, rfl, ⟨rfl, .inr ⟨g, 0, rfl, hb, (h.lt g rfl).2, fun i c hc => ?_⟩⟩, h1, h2⟩
    have hi : i < L.length * 8 := by
      rw [← hl]
      exact (List.getElem?_eq_some_iff.1 hc).1
    rw [Nat.zero_add]
    exact (h.cellAt i hi).trans hc

theorem IvsAt.across {B : Nat} {w w' : World} {A : Option Addr} {n : Nat} {l : List Iv} (h : IvsAt (· < B) w A n l) (hB : B ≤ w'.heap.size) (hk : ∀ k, k < B → w'.heap[k]? = w.heap[k]?) : IvsAt (· < B) w' A n l := by
  refine ⟨h.1, ?_⟩
  rcases h.2 with h | ⟨b, off, e, o, hb, h⟩
  · exact .inl h
  · exact .inr ⟨b, off, e, o, Nat.lt_of_lt_of_le o hB, fun i c hc => (World.cell?_of_block (w := w) (hk b o)).trans (h i c hc)⟩

def SpansPost (r : Rg) (w : World) (e : Ending) (w' : World) : Prop :=
  ∃ A c L, e = .returned (.slice A (L : List Sp).length c) ∧ SpAt (w.heap.size ≤ ·) w' A L.length L ∧ L.length ≤ c ∧ c ≤ 9223372036854775807 ∧ L.Perm (flatS 0 r.ps) ∧ L.Pairwise (fun s t => s.1.lo ≤ t.1.lo) ∧ Below w.heap.size w w'

set_option maxHeartbeats 800000 in
theorem spans_any (r : Rg) (A : Option Addr) (m c : Nat) (w : World) (hr : RgAt any w r A m) (_hmc : m ≤ c) (_hc : c ≤ 9223372036854775807) (hm : m ≤ 64) (hs : ∀ p ∈ r.ps, p.1.length ≤ 64) :
    Calls Tryd.prog 21 #[.agg #[.int .i64 r.w, .bool r.full, .slice A m c]] w (SpansPost r w) := by
  have hlen := hr.len
  have HR : Hid (RgAt (· < w.heap.size) w r A m) := RgAt.mono (fun i hi _ => hi) r hr
  clear hr
  have HS := Lib.hid hs; clear hs
  go_enter Tryd.func21, Tryd.ntmps21
  go_wp2_with fail
  go_loopw [3, 11] (fun v3 i wr => ∃ k : Nat, k ≤ m ∧ i = .int .i64 k ∧ Hid (wr.ownsRow w.heap.size 73 8 v3 (flatS 0 (r.ps.take k)).length (spCells (flatS 0 (r.ps.take k)))) ∧ Below w.heap.size w wr) (fun _ i _ => m - (intOf i).toNat)
  case atStart => exact ⟨0, by omega, rfl, World.ownsRow_nil _ _ _ _, (Below.refl _ _).alloc (Nat.le_refl _) _⟩
  case round =>
    obtain ⟨wo, rfl⟩ : ∃ wo, wo = wr := ⟨_, rfl⟩
    obtain ⟨k, hk, rfl, hO, hb⟩ := hrel
    by_cases hlt : k < m
    · obtain ⟨p, hp⟩ : ∃ p, r.ps[k]? = some p := ⟨r.ps[k]'(by omega), List.getElem?_eq_getElem (by omega)⟩
      have hin : p ∈ r.ps := List.mem_of_getElem? hp
      have h64 := HS.out p hin
      obtain ⟨bq, off, eA, _, hbl, A1, n1, d1, A2, n2, d2, q1, q2, q3, q4, l2, l3, l4, l5, hiv, _⟩ := (HR.out.below hb).get hp
      subst eA
      have hsnoc : flatS 0 (r.ps.take (k + 1)) = flatS 0 (r.ps.take k) ++ p.1.map (·, k) := by
        rw [take_get hp, flatS_snoc, List.length_take, Nat.min_eq_left (by omega)]
      have hfl : (flatS 0 (r.ps.take k)).length ≤ 4096 := by
        have := flatS_len 0 (r.ps.take k) (fun q hq => HS.out q (List.mem_of_mem_take hq))
        rw [List.length_take] at this
        omega
      generalize hF : flatS 0 (r.ps.take k) = F at *
      have HSN := Lib.hid hsnoc; clear hsnoc hF
      have hn1 := hiv.1
      have HIV := Lib.hid hiv; clear hiv
      have hO1 := Lib.hid (hO.out.alloc (.cells #[.slice A1 n1 d1, .int .i64 p.2.w, .bool p.2.full, .slice A2 n2 d2] 50)); clear hO
      have hb1 : Below w.heap.size w (wo.alloc (.cells #[.slice A1 n1 d1, .int .i64 p.2.w, .bool p.2.full, .slice A2 n2 d2] 50)) := hb.alloc hb.size _
      have hbs := hb.size
      have HBO := Lib.hid hb
      clear hp hin
      go_wp2_with fail
      generalize hW : wo.alloc (.cells #[.slice A1 n1 d1, .int .i64 p.2.w, .bool p.2.full, .slice A2 n2 d2] 50) = W at *
      go_loopw [3, 19] (fun v3 i wr => ∃ l : Nat, l ≤ n1 ∧ i = .int .i64 l ∧ Hid (wr.ownsRow w.heap.size 73 8 v3 (F ++ (p.1.take l).map (·, k)).length (spCells (F ++ (p.1.take l).map (·, k)))) ∧ Below w.heap.size w wr) (fun _ i _ => n1 - (intOf i).toNat)
      case atStart => exact ⟨0, by omega, rfl, by simpa using hO1, hb1⟩
      case round =>
        obtain ⟨l, hl, rfl, hO, hb3⟩ := hrel
        by_cases hlt2 : l < n1
        · obtain ⟨x, hx⟩ : ∃ x, p.1[l]? = some x := ⟨p.1[l]'(by omega), List.getElem?_eq_getElem (by omega)⟩
          obtain ⟨b5, o5, eA1, _, hlt5, g0, g1, g2, g3, g4, g5, g6⟩ := (IvsAt.across HIV.out hb3.size (fun k hk => (hb3.block k hk).trans (HBO.out.block k hk).symm)).get hx
          subst eA1
          have hmap : F ++ (p.1.take (l + 1)).map (·, k) = F ++ (p.1.take l).map (·, k) ++ [(x, k)] := by rw [take_get hx]; simp
          have hGl : (F ++ (p.1.take l).map (·, k)).length ≤ 9000000 := by rw [List.length_append, List.length_map, List.length_take]; omega
          generalize hG : F ++ (p.1.take l).map (·, k) = G at *
          have HM := Lib.hid hmap; clear hmap hG
          have hby := bytes80 hGl
          have hO3 := Lib.hid (hO.out.alloc (.cells x.cells.toArray 41))
          have hsz : w.heap.size ≤ (wr.alloc (.cells x.cells.toArray 41)).heap.size := by have := hb3.size; simp; omega
          have hbx := Box.made wr x.cells 41
          have hne : Hid (wr.heap.size + 1 = (wr.alloc (.cells x.cells.toArray 41)).heap.size) := by simp [Hid]
          clear hx hO
          go_wp2_with (at_builtin; refine stop_ ?_)
          unfold Hid
          refine append_el w.heap.size rfl _ _ 56 73 (.agg #[.int .i64 0, .int .i64 0, .string ⟨#[]⟩, .int .i64 0, .int .i64 0, .string ⟨#[]⟩, .bool false, .int .i64 0]) 8 80 rfl Tryd.underlying56 info_sp rfl (Nat.succ_pos _) (Nat.succ_pos _) u3 _ _ (Sp.cells (x, k)) rfl _ rfl hne.out rfl (sp_one _) hO3.out hsz hby ?_
          intro v1 w2 hown1 hg1 hat1
          have hO4 : Hid (w2.ownsRow w.heap.size 73 8 v1 (G ++ [((x, k) : Sp)]).length (spCells (G ++ [((x, k) : Sp)]))) := by
            unfold Hid
            rw [List.length_append, ← sps_append]
            exact hown1
          have hb4 : Below w.heap.size w w2 := (hb3.alloc hb3.size _).grown hg1 hsz (fun j e => (hO3.out.lt j e).1)
          clear hown1 hg1 hat1
          go_wp2_with fail
          go_roundw
          case rel => exact ⟨l + 1, by omega, by go_num, by rw [HM.out]; exact hO4, hb4⟩
          case measure => simp [intOf]; omega
        · go_wp2_with fail
          go_roundw
          case rel =>
            refine ⟨k + 1, by omega, by go_num, ?_, hb3⟩
            have e : p.1.take l = p.1 := List.take_of_length_le (by omega)
            rw [e, ← HSN.out] at hO
            exact hO
          case measure => simp [intOf]; omega
    · have ek : r.ps.take k = r.ps := List.take_of_length_le (by omega)
      rw [ek] at hO
      have hfl := flatS_len 0 r.ps HS.out
      rw [hlen] at hfl
      by_cases h0 : (flatS 0 r.ps).length = 0
      · have hnil : flatS 0 r.ps = [] := List.length_eq_zero_iff.1 h0
        have HN := Lib.hid hnil; clear hnil
        obtain ⟨A5, c5, hv, _, hc5, _⟩ := spAt_own hO.out
        subst hv
        rw [h0]
        clear h0 hfl ek hO
        go_wp2_with fail
        refine (sortS_none wo A5 c5 _).mono ?_
        rintro e w2 ⟨rfl, rfl⟩
        go_wp2_with fail
        go_ret
        refine ⟨A5, c5, [], rfl, ⟨rfl, .inl rfl⟩, by simp, by assumption, ?_, List.Pairwise.nil, hb⟩
        rw [HN.out]
      · obtain ⟨g, cap, hv, hcap1, hcap2⟩ : ∃ g cap, u3 = .slice (some ⟨g, 0, none⟩) (flatS 0 r.ps).length cap ∧ (flatS 0 r.ps).length ≤ cap ∧ cap ≤ 9223372036854775807 := by
          rcases hO.out.2 with ⟨_, h⟩ | ⟨g, cap, cur, e, _, _, h1, h2, _⟩
          · exact absurd h h0
          · exact ⟨g, cap, e, h1, h2⟩
        subst hv
        generalize hF : flatS 0 r.ps = F at *
        have HF := Lib.hid hF; clear hF
        have hlt3 : F.length < 4611686018427387904 := by omega
        have hgb := (hO.out.lt g rfl).1
        clear h0 hfl ek
        go_wp2_with fail
        refine (sortS_any w.heap.size F g cap _ hO.out hlt3).mono ?_
        rintro e w2 ⟨rfl, L, hperm, hsort, hown2, hg2⟩
        have hb2 : Below w.heap.size w w2 := hb.grown hg2 hb.size (fun k e => by cases e; exact hgb)
        have hl := hperm.length_eq
        rw [← hl] at hown2
        obtain ⟨A5, c5, hv, hsp, hc1, hc2⟩ := spAt_own hown2
        have HL : Hid (A5 = some ⟨g, 0, none⟩ ∧ c5 = cap) := by simp only [Value.slice.injEq, true_and] at hv; exact ⟨hv.1.symm, hv.2.symm⟩
        have HP := Lib.hid hperm; have HSO := Lib.hid hsort; have HSP := Lib.hid hsp; have HLL := Lib.hid hl; have HB := Lib.hid hb2
        clear hperm hsort hsp hl hown2 hg2 hv hb2
        go_wp2_with fail
        go_ret
        obtain ⟨rfl, rfl⟩ := HL.out
        refine ⟨_, _, L, by rw [HLL.out]; rfl, HSP.out, hc1, hc2, ?_, HSO.out, HB.out⟩
        rw [HF.out]
        exact HP.out

end Go.Proofs.YtbkgmahpfghheaaDoor
