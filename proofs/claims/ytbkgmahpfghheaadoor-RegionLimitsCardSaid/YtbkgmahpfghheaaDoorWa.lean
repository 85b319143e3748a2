/- Contracts of value.Compare and value.Valid: for every value. -/
import Derived.Test.YtbkgmahpfghheaaDoorProg
import Derived.Test.YtbkgmahpfghheaaDoorPsM
import Derived.WalkKit
import Derived.WalkLawsBesides
import Derived.WalkSpells
import Derived.Outline
import Derived.BigQuiet
import Derived.Deep.LoopGhost
import Derived.Deep.QuietTactic
import Derived.KernelRfl
import Derived.Laws.StructEq
import Derived.Sort.Grow
import Derived.Lib.Hide
namespace Go.Proofs.YtbkgmahpfghheaaDoor
open Go.RowKit
open Ps

/-! ### The order of values, as the program has it -/
def cmpI (a b : Vl) : Int := if a = b then 0 else if a < b then -1 else 1

theorem bl_less : ∀ a b : List UInt8, Op.bytesLess a b = bl a b
  | [], [] => rfl
  | _ :: _, [] => rfl
  | [], _ :: _ => rfl
  | a :: x, b :: y => by simp only [Op.bytesLess, bl, bl_less x y]

theorem vl_ext {a b : Vl} (h1 : a.kind = b.kind) (h2 : a.num = b.num) (h3 : a.text.data.toList = b.text.data.toList) : a = b := by
  obtain ⟨k, n, ⟨⟨t⟩⟩, _, _⟩ := a
  obtain ⟨k', n', ⟨⟨t'⟩⟩, _, _⟩ := b
  simp only at h1 h2 h3
  subst h1 h2 h3
  rfl

theorem eqVl (a b : Vl) (w : World) : (binOp .eql 39 (.agg #[.int .i64 a.kind, .int .i64 a.num, .string a.text]) (.agg #[.int .i64 b.kind, .int .i64 b.num, .string b.text])).run Tryd.prog w = .ok (.bool (decide (a = b))) w := by
  have hS : Tryd.prog.underlying 39 = some (.struct (Tryd.prog.fieldsOf 39)) := by kernel_rfl
  have hp : Tryd.prog.stoodInHeld 39 = false := by kernel_rfl
  rw [run_eql_struct, show (10000 : Nat) = 9999 + 1 from rfl, run_equalIn_agg w 9999 39 _ _ hS hp]
  simp only [Program.fieldsOf, Tryd.underlying39]
  have u3 := Tryd.underlying3
  have a3 := Tryd.isAgg3
  have z3 := Tryd.sizeOf3
  have u2 := Tryd.underlying2
  have a2 := Tryd.isAgg2
  have z2 := Tryd.sizeOf2
  have u9 := Tryd.underlying9
  have a9 := Tryd.isAgg9
  have z9 := Tryd.sizeOf9
  go_simp
  simp only [ByteArray.toList_eq]
  by_cases e : a = b
  · subst e; simp
  · by_cases h1 : a.kind = b.kind <;> by_cases h2 : a.num = b.num <;> by_cases h3 : a.text.data.toList = b.text.data.toList <;> simp [h1, h2, h3, e]
    exact e (vl_ext h1 h2 h3)

set_option maxHeartbeats 400000 in
theorem compare_any (a b : Vl) (w : World) :
    Calls Tryd.prog 16 #[.agg #[.int .i64 a.kind, .int .i64 a.num, .string a.text], .agg #[.int .i64 b.kind, .int .i64 b.num, .string b.text]] w fun e w' => e = .returned (.int .i64 (cmpI a b)) ∧ ∃ q os, w' = Sort.grow (w.drewN q) os := by
  have heq := eqVl a b
  have fin : ∀ (v : Int) (o1 o2 : Obj), cmpI a b = v → Ending.returned (.int .i64 v) = .returned (.int .i64 (cmpI a b)) ∧ ∃ q os, (w.alloc o1).alloc o2 = Sort.grow (w.drewN q) os :=
    fun v o1 o2 h => ⟨by rw [h], 0, #[o1] ++ #[o2], by rw [Sort.alloc_eq_grow, Sort.alloc_eq_grow, Sort.grow_grow]; rfl⟩
  have FIN := Lib.hid fin
  clear fin
  by_cases e : a = b
  · have hd : decide (a = b) = true := by simp [e]
    have HF : Hid (cmpI a b = 0) := by show cmpI a b = 0; simp [cmpI, e]
    clear e
    go_enter Tryd.func16, Tryd.ntmps16
    go_wp2_with fail
    go_ret
    exact FIN.out _ _ _ HF.out
  · have hd : decide (a = b) = false := by simp [e]
    have HE := Lib.hid e
    clear e
    have lt := @Vl.lt_iff a b
    have LT := Lib.hid lt
    clear lt
    by_cases k : a.kind = b.kind
    · have k1 : (a.kind != b.kind) = false := by simp [k]
      by_cases m : a.num = b.num
      · have m1 : (a.num != b.num) = false := by simp [m]
        cases ht : bl a.text.data.toList b.text.data.toList
        · have ht1 : Op.bytesLess a.text.toList b.text.toList = false := by rw [bl_less, ByteArray.toList_eq, ByteArray.toList_eq, ht]
          have HF : Hid (cmpI a b = 1) := by
            show cmpI a b = 1
            unfold cmpI
            rw [if_neg HE.out, if_neg]
            rw [LT.out, ht]
            simp [k, m]
          clear ht k m
          go_enter Tryd.func16, Tryd.ntmps16
          go_wp2_with fail
          go_ret
          exact FIN.out _ _ _ HF.out
        · have ht1 : Op.bytesLess a.text.toList b.text.toList = true := by rw [bl_less, ByteArray.toList_eq, ByteArray.toList_eq, ht]
          have HF : Hid (cmpI a b = -1) := by
            show cmpI a b = -1
            unfold cmpI
            rw [if_neg HE.out, if_pos]
            rw [LT.out, ht]
            simp [k, m]
          clear ht k m
          go_enter Tryd.func16, Tryd.ntmps16
          go_wp2_with fail
          go_ret
          exact FIN.out _ _ _ HF.out
      · have m1 : (a.num != b.num) = true := by simp [m]
        have HF : Hid (cmpI a b = if a.num < b.num then -1 else 1) := by
          show cmpI a b = _
          unfold cmpI
          rw [if_neg HE.out]
          by_cases q : a.num < b.num
          · rw [if_pos q, if_pos (by rw [LT.out]; exact .inr ⟨k, .inl q⟩)]
          · rw [if_neg q, if_neg (by rw [LT.out]; omega)]
        clear k m
        by_cases q : a.num < b.num
        all_goals
          go_enter Tryd.func16, Tryd.ntmps16
          go_wp2_with fail
          go_ret
          exact FIN.out _ _ _ (by rw [HF.out]; first | rw [if_pos q] | rw [if_neg (by omega)])
    · have k1 : (a.kind != b.kind) = true := by simp [k]
      have HF : Hid (cmpI a b = if a.kind < b.kind then -1 else 1) := by
        show cmpI a b = _
        unfold cmpI
        rw [if_neg HE.out]
        by_cases q : a.kind < b.kind
        · rw [if_pos q, if_pos (by rw [LT.out]; exact .inl q)]
        · rw [if_neg q, if_neg (by rw [LT.out]; omega)]
      clear k
      by_cases q : a.kind < b.kind
      all_goals
        go_enter Tryd.func16, Tryd.ntmps16
        go_wp2_with fail
        go_ret
        exact FIN.out _ _ _ (by rw [HF.out]; first | rw [if_pos q] | rw [if_neg (by omega)])

theorem below_grow (w : World) (q : Nat) (os : Array Obj) : Below w.heap.size w (Sort.grow (w.drewN q) os) := by
  refine ⟨rfl, rfl, rfl, ?_, fun k hk => ?_⟩
  · simp [Sort.grow]
  · simp only [Sort.grow, World.heap_drewN]
    rw [Array.getElem?_append_left hk]

theorem cmp_below (a b : Vl) (w : World) :
    Calls Tryd.prog 16 #[.agg #[.int .i64 a.kind, .int .i64 a.num, .string a.text], .agg #[.int .i64 b.kind, .int .i64 b.num, .string b.text]] w fun e w' => e = .returned (.int .i64 (cmpI a b)) ∧ Below w.heap.size w w' :=
  (compare_any a b w).mono fun _ _ ⟨h, q, os, hw⟩ => ⟨h, by rw [hw]; exact below_grow w q os⟩

theorem cmpI_zero {a b : Vl} : cmpI a b = 0 ↔ a = b := by
  unfold cmpI
  split
  · simp [*]
  · split <;> simp [*]
theorem cmpI_neg {a b : Vl} : cmpI a b < 0 ↔ a < b := by
  unfold cmpI
  split
  · rename_i h; subst h; simp [Vl.irrefl]
  · split <;> simp [*]
theorem cmpI_le {a b : Vl} : cmpI a b ≤ 0 ↔ a ≤ b := by
  unfold cmpI
  split
  · rename_i h; subst h; simp
  · split <;> grind
theorem cmpI_range (a b : Vl) : -1 ≤ cmpI a b ∧ cmpI a b ≤ 1 := by
  unfold cmpI
  split
  · omega
  · split <;> omega

def zeroed (v : Vl) : Bool := v.num == 0 && v.text.data.toList.isEmpty

theorem text_nil {t : ByteArray} : t.data.toList.isEmpty = decide (t = ⟨#[]⟩) := by
  obtain ⟨⟨l⟩⟩ := t
  cases l <;> simp
theorem text_size {t : ByteArray} : t.data.toList.isEmpty = (t.size == 0) := by
  obtain ⟨⟨l⟩⟩ := t
  cases l <;> rfl

theorem eqZeroed (v : Vl) (w : World) : (binOp .eql 39 (.agg #[.int .i64 v.kind, .int .i64 v.num, .string v.text]) (.agg #[.int .i64 v.kind, .int .i64 0, .string ⟨#[]⟩])).run Tryd.prog w = .ok (.bool (zeroed v)) w := by
  have e : decide (v = ⟨v.kind, 0, ⟨#[]⟩, v.hk, by decide⟩) = zeroed v := by
    unfold zeroed
    rw [text_nil]
    obtain ⟨k, n, t, _, _⟩ := v
    by_cases h1 : n = 0 <;> by_cases h2 : t = ⟨#[]⟩ <;> simp [h1, h2]
  rw [← e]
  exact eqVl v ⟨v.kind, 0, ⟨#[]⟩, v.hk, by decide⟩ w

theorem ok12 {v : Vl} (h : v.kind = 1 ∨ v.kind = 2) : v.ok = zeroed v := by
  unfold Vl.ok zeroed
  rw [text_size]
  rcases h with h | h <;> simp [h]
theorem ok3 {v : Vl} (h : v.kind = 3) : v.ok = ((v.num == 0 || v.num == 1) && v.text.toList.isEmpty) := by
  unfold Vl.ok
  rw [ByteArray.toList_eq, text_size]
  simp [h]
theorem ok4 {v : Vl} (h : v.kind = 4) : v.ok = v.text.toList.isEmpty := by
  unfold Vl.ok
  rw [ByteArray.toList_eq, text_size]
  simp [h]
theorem ok5 {v : Vl} (h : v.kind = 5) : v.ok = (v.num == 0 && decide (v.text.size ≤ 64)) := by
  unfold Vl.ok
  simp [h]
theorem ok_else {v : Vl} (h1 : v.kind ≠ 1) (h2 : v.kind ≠ 2) (h3 : v.kind ≠ 3) (h4 : v.kind ≠ 4) (h5 : v.kind ≠ 5) : v.ok = false := by
  unfold Vl.ok
  simp [h1, h2, h3, h4, h5]

set_option maxHeartbeats 400000 in
theorem valid_any (v : Vl) (w : World) :
    Calls Tryd.prog 15 #[.agg #[.int .i64 v.kind, .int .i64 v.num, .string v.text]] w fun e w' => e = .returned (.bool v.ok) ∧ Below w.heap.size w w' := by
  have hz := eqZeroed v
  have fin : ∀ (b : Bool) (o : Obj), v.ok = b → Ending.returned (.bool b) = .returned (.bool v.ok) ∧ Below w.heap.size w (w.alloc o) := fun b o h => ⟨by rw [h], (Below.refl _ _).alloc (Nat.le_refl _) _⟩
  have FIN := Lib.hid fin
  clear fin
  by_cases k1 : v.kind = 1
  · have h1 : (v.kind == 1) = true := by simp [k1]
    have O := Lib.hid (ok12 (.inl k1))
    clear k1
    go_enter Tryd.func15, Tryd.ntmps15
    go_wp2_with fail
    go_ret
    exact FIN.out _ _ O.out
  have h1 : (v.kind == 1) = false := by simp [k1]
  by_cases k2 : v.kind = 2
  · have h2 : (v.kind == 2) = true := by simp [k2]
    have O := Lib.hid (ok12 (.inr k2))
    clear k1 k2
    go_enter Tryd.func15, Tryd.ntmps15
    go_wp2_with fail
    go_ret
    exact FIN.out _ _ O.out
  have h2 : (v.kind == 2) = false := by simp [k2]
  by_cases k3 : v.kind = 3
  · have h3 : (v.kind == 3) = true := by simp [k3]
    have O := Lib.hid (ok3 k3)
    clear k1 k2 k3 hz
    by_cases m0 : (v.num == 0) = true
    · go_enter Tryd.func15, Tryd.ntmps15
      go_wp2_with fail
      go_ret
      exact FIN.out _ _ (by rw [O.out]; simp [m0])
    · have m0 : (v.num == 0) = false := by simpa using m0
      by_cases m1 : (v.num == 1) = true
      · go_enter Tryd.func15, Tryd.ntmps15
        go_wp2_with fail
        go_ret
        exact FIN.out _ _ (by rw [O.out]; simp [m0, m1])
      · have m1 : (v.num == 1) = false := by simpa using m1
        go_enter Tryd.func15, Tryd.ntmps15
        go_wp2_with fail
        go_ret
        exact FIN.out _ _ (by rw [O.out]; simp [m0, m1])
  have h3 : (v.kind == 3) = false := by simp [k3]
  by_cases k4 : v.kind = 4
  · have h4 : (v.kind == 4) = true := by simp [k4]
    have O := Lib.hid (ok4 k4)
    clear k1 k2 k3 k4 hz
    go_enter Tryd.func15, Tryd.ntmps15
    go_wp2_with fail
    go_ret
    exact FIN.out _ _ O.out
  have h4 : (v.kind == 4) = false := by simp [k4]
  by_cases k5 : v.kind = 5
  · have h5 : (v.kind == 5) = true := by simp [k5]
    have O := Lib.hid (ok5 k5)
    clear k1 k2 k3 k4 k5 hz
    by_cases m0 : (v.num == 0) = true
    · go_enter Tryd.func15, Tryd.ntmps15
      go_wp2_with fail
      go_ret
      exact FIN.out _ _ (by rw [O.out]; simp [m0]; omega)
    · have m0 : (v.num == 0) = false := by simpa using m0
      go_enter Tryd.func15, Tryd.ntmps15
      go_wp2_with fail
      go_ret
      exact FIN.out _ _ (by rw [O.out]; simp [m0])
  have h5 : (v.kind == 5) = false := by simp [k5]
  have O := Lib.hid (ok_else k1 k2 k3 k4 k5)
  clear k1 k2 k3 k4 k5 hz
  go_enter Tryd.func15, Tryd.ntmps15
  go_wp2_with fail
  go_ret
  exact FIN.out _ _ O.out

end Go.Proofs.YtbkgmahpfghheaaDoor
