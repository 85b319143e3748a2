/- Contract of slices.SortFunc at the program's values: a sorted permutation. -/
import Derived.Test.YtbkgmahpfghheaaDoorWb
import Derived.Test.YtbkgmahpfghheaaDoorSort
namespace Go.Proofs.YtbkgmahpfghheaaDoor
open Go.Shelf Go.RowKit Go.Lib Go.Sort
open Ps

instance : Inhabited Vl := ⟨.zero⟩
instance : Inhabited Iv := ⟨⟨.zero, .zero, false⟩⟩

/-! ### A row of the call's own, sorted in place -/
theorem flatK_list {α : Type} [Inhabited α] (enc : α → List Value) (k : Nat) (hk : ∀ x, (enc x).length = k) (d : Array α) : (Sort.flatK enc k d).toList = d.toList.flatMap enc := by
  refine List.ext_getElem? fun t => ?_
  by_cases ht : t < d.size * k
  · have hk0 : 0 < k := by
      rcases Nat.eq_zero_or_pos k with h | h
      · subst h; simp at ht
      · exact h
    have hi : t / k < d.size := (Nat.div_lt_iff_lt_mul hk0).2 ht
    have h1 := Sort.get_flatK enc k d t ht
    have h2 := flatMap_get (f := enc) hk (l := d.toList) (i := t / k) (x := d[t / k]) (by simp [hi]) (t % k) (Nat.mod_lt _ hk0)
    have e : t / k * k + t % k = t := Nat.div_add_mod' t k
    rw [e] at h2
    rw [h2]
    have hm : t % k < (enc d[t / k]).length := by rw [hk]; exact Nat.mod_lt _ hk0
    rw [List.getElem?_eq_getElem hm]
    have hs : t < (Sort.flatK enc k d).size := by simpa using ht
    rw [getElem!_pos (Sort.flatK enc k d) t hs, getElem!_pos d (t / k) hi, getElem!_pos (enc d[t / k]) (t % k) hm] at h1
    rw [← h1, Array.getElem?_toList, Array.getElem?_eq_getElem hs]
  · rw [List.getElem?_eq_none (by simpa using ht), List.getElem?_eq_none (by rw [flatMap_len hk]; simpa using ht)]

section
variable {α : Type} [Inhabited α] (enc : α → List Value) (k : Nat) (hk : ∀ x, (enc x).length = k)
include hk

theorem holdsK_own {w : World} {base g cap : Nat} {e : TypeId} {l : List α} (h : w.ownsRow base e k (.slice (some ⟨g, 0, none⟩) l.length cap) l.length (l.flatMap enc)) : Sort.HoldsK enc k w g 0 l.toArray := by
  intro j hj
  have hj' : j < l.length * k := by simpa using hj
  refine ⟨?_, by rw [Nat.zero_add]; exact h.frozenAt j⟩
  rw [Nat.zero_add, h.cellAt j hj']
  have e := flatK_list enc k hk l.toArray
  have hs : j < (Sort.flatK enc k l.toArray).size := hj
  rw [getElem!_pos (Sort.flatK enc k l.toArray) j hs, ← e]
  simp

theorem own_putRowK {w : World} {base g cap m : Nat} {e : TypeId} {os : Array Obj} {l : List α} {d : Array α} (h : w.ownsRow base e k (.slice (some ⟨g, 0, none⟩) l.length cap) l.length (l.flatMap enc)) (hd : d.size = l.length) :
    (sortWorldK enc k w g 0 m d os).ownsRow base e k (.slice (some ⟨g, 0, none⟩) l.length cap) l.length (d.toList.flatMap enc) ∧ w.grownBy (sortWorldK enc k w g 0 m d os) (some g) := by
  unfold sortWorldK Sort.putRowK
  constructor
  · refine ⟨by rw [flatMap_len hk]; simp [hd], ?_⟩
    rcases h.2 with ⟨h', _⟩ | ⟨g', cap', cur, h', hb, hg, hnc, hcm, hcs, ht⟩
    · simp at h'
    · simp only [Value.slice.injEq, Option.some.injEq, Addr.mk.injEq, and_true, true_and] at h'
      obtain ⟨rfl, rfl⟩ := h'
      have hgs : g < w.heap.size := (Array.getElem?_eq_some_iff.1 hg).1
      refine .inr ⟨g, cap, Sort.putCells id 0 (Sort.flatK enc k d) cur, rfl, hb, ?_, hnc, hcm, by simpa [Sort.putCells] using hcs, ?_⟩
      · rw [heap_grow_old _ _ (by simpa using hgs)]
        simp [Sort.putRow, Sort.mapBlock, Sort.ahead, Array.getElem?_modify, hg, Sort.onCells]
      · rw [← flatK_list enc k hk d]
        have hF : (Sort.flatK enc k d).size = l.length * k := by simp [hd]
        have hle : l.length * k ≤ cur.size := by rw [hcs]; exact Nat.mul_le_mul_right _ hnc
        refine List.ext_getElem? fun j => ?_
        by_cases hj : j < l.length * k
        · rw [List.getElem?_take_of_lt hj, Array.getElem?_toList]
          have hj2 : j < (Sort.flatK enc k d).size := by omega
          have hj3 : j < cur.size := by omega
          rw [Array.getElem?_toList]
          simp only [Sort.putCells, Array.getElem?_mapIdx, Array.getElem?_eq_getElem hj3, Option.map_some, Nat.zero_le, Nat.zero_add, hj2, and_self, if_true, Nat.sub_zero, id]
          rw [getElem!_pos _ j hj2, Array.getElem?_eq_getElem hj2]
        · rw [List.getElem?_take_eq_none (by omega), List.getElem?_eq_none (by simp [hd]; omega)]
  · refine ⟨rfl, rfl, rfl, by simp, fun j hj hne => ?_⟩
    rw [heap_grow_old _ _ (by simpa using hj)]
    have : g ≠ j := fun e => hne (by rw [e])
    simp [Sort.putRow, Sort.mapBlock, Sort.ahead, Array.getElem?_modify, this]
end

theorem ltOf_cmpI (x y : Vl) : ltOf cmpI x y = decide (x < y) := by
  unfold ltOf
  exact decide_eq_decide.2 cmpI_neg

theorem swoV : Sort.SWO (ltOf cmpI) where
  irrefl x := by rw [ltOf_cmpI]; simp [Vl.irrefl]
  trans x y z h k := by
    rw [ltOf_cmpI, decide_eq_true_eq] at *
    exact Vl.trans h k
  ntrans x y z h k := by
    rw [ltOf_cmpI, decide_eq_false_iff_not] at *
    grind

theorem cmpLaysV (blk off size : Nat) (w : World) : CmpLays Tryd.prog 16 #[] Vl.cells 3 cmpI blk off size w := fun _ _ _ _ x y => compare_any x y _

/-- slices.SortFunc(points, value.Compare) on a row of the call's own. -/
theorem sortV_any (base : Nat) (l : List Vl) (g cap : Nat) (w : World) (h : w.ownsRow base 39 3 (.slice (some ⟨g, 0, none⟩) l.length cap) l.length (l.flatMap Vl.cells)) (hlt : l.length < 4611686018427387904) :
    Calls Tryd.prog 30 #[.slice (some ⟨g, 0, none⟩) l.length cap, .func (.func 16) #[] #[]] w fun e w' => e = .returned (.tuple #[]) ∧
      ∃ l' : List Vl, l'.Perm l ∧ l'.Pairwise (· ≤ ·) ∧ w'.ownsRow base 39 3 (.slice (some ⟨g, 0, none⟩) l.length cap) l.length (l'.flatMap Vl.cells) ∧ w.grownBy w' (some g) := by
  have eg : ∀ args w, (callFunc 16 args).run Tryd.prog w = .ok (.enter 16 args) w := enters_of Tryd.func16 (by kernel_rfl) rfl
  have hlt' : g < w.heap.size := (h.lt g rfl).2
  have hcon := AnyQ.slices_SortFunc Tryd.sortV 3 Tryd.isAgg39 Tryd.sizeOf39 Vl.cells (fun _ => rfl) (fun x v hv => by simp [Vl.cells] at hv; rcases hv with rfl | rfl | rfl <;> rfl) cmpI swoV 16 #[] g 0 cap l.toArray w eg (cmpLaysV g 0 _ w)
    (holdsK_own Vl.cells 3 (fun _ => rfl) h) hlt' (by simpa using hlt)
  change Calls Tryd.prog 30 _ _ _ at hcon
  refine hcon.mono fun e w' ⟨he, d', n, os, hp, hs, hw⟩ => ⟨he, d'.toList, ?_, ?_, ?_⟩
  · have := hp.2.2
    have hsz := hp.1
    simp only [List.size_toArray] at this hsz
    rw [Array.extract_eq_self_of_le (by omega), Array.extract_eq_self_of_le (by simp)] at this
    simpa using this
  · rw [List.pairwise_iff_getElem]
    intro i j hi hj hij
    have hsz := hp.1
    simp only [List.size_toArray] at hsz
    have hi' : i < d'.size := by simpa using hi
    have hj' : j < d'.size := by simpa using hj
    have := hs i j (Nat.zero_le _) hij (by simp; omega)
    rw [ltOf_cmpI, decide_eq_false_iff_not, getElem!_pos _ i hi', getElem!_pos _ j hj'] at this
    simp only [Array.getElem_toList]
    exact Vl.le_iff.2 this
  · rw [hw]
    exact own_putRowK Vl.cells 3 (fun _ => rfl) h (by have := hp.1; simpa using this)

end Go.Proofs.YtbkgmahpfghheaaDoor
