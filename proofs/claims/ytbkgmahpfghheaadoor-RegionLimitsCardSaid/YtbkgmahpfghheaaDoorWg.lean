/- Theory of the decimal text of an integer; strconv's table as a premise. -/
import Derived.Test.YtbkgmahpfghheaaDoorWf
import Derived.Test.YtbkgmahpfghheaaDoorStrconv
import Derived.Lib.ItoaLen
namespace Go.Proofs.YtbkgmahpfghheaaDoor
open Go.RowKit
open Ps

/-! ### Decimal numerals -/
def digval (l : List UInt8) : Nat := l.foldl (fun a c => a * 10 + (c.toNat - 48)) 0
theorem digval_snoc (l : List UInt8) (c : UInt8) : digval (l ++ [c]) = digval l * 10 + (c.toNat - 48) := by simp [digval, List.foldl_append]

theorem dec_is (u : Nat) : digval (Lib.decDigits u) = u ∧ ∀ c ∈ Lib.decDigits u, 48 ≤ c.toNat ∧ c.toNat ≤ 57 := by
  induction u using Nat.strongRecOn with
  | _ u ih =>
    by_cases h : u < 10
    · rw [Lib.decDigits_one h]
      have e : (UInt8.ofNat (48 + u)).toNat = 48 + u := by simp; omega
      refine ⟨by simp only [digval, List.foldl_cons, List.foldl_nil, e]; omega, fun c hc => ?_⟩
      simp only [List.mem_cons, List.not_mem_nil, or_false] at hc
      subst hc
      omega
    · have hd : Lib.decDigits u = Lib.decDigits (u / 10) ++ [UInt8.ofNat (48 + u % 10)] := by rw [Lib.decDigits, dif_neg h]
      obtain ⟨a, b⟩ := ih (u / 10) (by omega)
      have e : (UInt8.ofNat (48 + u % 10)).toNat = 48 + u % 10 := by simp; omega
      rw [hd]
      refine ⟨by rw [digval_snoc, a, e]; omega, fun c hc => ?_⟩
      rcases List.mem_append.1 hc with hc | hc
      · exact b c hc
      · simp only [List.mem_cons, List.not_mem_nil, or_false] at hc
        subst hc
        omega

theorem dec_inj {u v : Nat} (h : Lib.decDigits u = Lib.decDigits v) : u = v := by rw [← (dec_is u).1, ← (dec_is v).1, h]

theorem dec_head (u : Nat) (c : UInt8) (l : List UInt8) (h : Lib.decDigits u = c :: l) : c ≠ 45 := by
  have := (dec_is u).2 c (by rw [h]; simp)
  rintro rfl
  simp at this

theorem dec_ne (u : Nat) : Lib.decDigits u ≠ [] := by
  intro h
  have := Lib.decDigits_length u
  rw [h] at this
  have h2 : Lib.nDigits u ≠ 0 := by
    by_cases c : u < 10
    · rw [Lib.nDigits_small c]; omega
    · rw [Lib.nDigits, dif_neg c]; omega
  simp at this
  omega

theorem itoa_inj {a b : Int} (h : Lib.itoa a = Lib.itoa b) : a = b := by
  unfold Lib.itoa at h
  split at h <;> split at h
  · have := dec_inj (List.cons.inj h).2
    omega
  · exact absurd rfl (dec_head _ _ _ h.symm)
  · exact absurd rfl (dec_head _ _ _ h)
  · have := dec_inj h
    omega

theorem itoa_plain (a : Int) : ∀ c ∈ Lib.itoa a, c ≠ 44 ∧ c ≠ 102 ∧ c ≠ 111 := by
  intro c hc
  have key : ∀ u, c ∈ Lib.decDigits u → c ≠ 44 ∧ c ≠ 102 ∧ c ≠ 111 := by
    intro u hu
    have := (dec_is u).2 c hu
    refine ⟨?_, ?_, ?_⟩ <;> · rintro rfl; simp at this
  unfold Lib.itoa at hc
  split at hc
  · rcases List.mem_cons.1 hc with rfl | hc
    · decide
    · exact key _ hc
  · exact key _ hc

def F10 : Fmt := ⟨Lib.itoa, fun _ _ => itoa_inj, itoa_plain⟩

theorem rgs_append (F : Fmt) (a b : List (List Iv × Rg)) : F.rgs (a ++ b) = F.rgs a ++ F.rgs b := by
  induction a with
  | nil => simp [Fmt.rgs]
  | cons p t ih =>
    obtain ⟨vs, r⟩ := p
    simp only [List.cons_append, Fmt.rgs, ih, List.append_assoc]
theorem ivs_text_append (F : Fmt) (a b : List Iv) : F.ivs (a ++ b) = F.ivs a ++ F.ivs b := by
  induction a with
  | nil => simp [Fmt.ivs]
  | cons x t ih => simp only [List.cons_append, Fmt.ivs, ih, List.append_assoc]

theorem byteCells_append (a b : List UInt8) : Lib.byteCells (a ++ b) = Lib.byteCells a ++ Lib.byteCells b := by simp [Lib.byteCells]
theorem byte_one (l : List UInt8) : ∀ u ∈ Lib.byteCells l, u.oneCell' = true := by
  intro u hu
  simp only [Lib.byteCells, List.mem_map] at hu
  obtain ⟨b, _, rfl⟩ := hu
  rfl

/-! ### The state of the text while it is written -/
abbrev TabB (B : Nat) (w : World) : Prop := Lib.TabBelow Tryd.prog B w "internal/strconv.uint64pow10" .u64 Lib.pow10Tab
theorem TabB.mono {B B' : Nat} {w : World} (h : TabB B w) (k : B ≤ B') : TabB B' w := fun w' hb => h w' (hb.mono k)

structure TS (B Bb Bn : Nat) (w : World) (xs : List UInt8) : Prop where
  own : ∃ v, w.heap[Bb]? = some (.cells #[v] 67 (0, 0)) ∧ w.ownsRow B 5 1 v xs.length (Lib.byteCells xs)
  num : w.heap[Bn]? = some (.cells #[.func (.func 32) #[] #[.pointer (some ⟨Bb, 0, none⟩)]] 80 (0, 0))
  hB : B ≤ w.heap.size
  tab : TabB B w
  ge : B ≤ Bb

structure Kp (B Bb : Nat) (w w' : World) : Prop where
  below : Below B w w'
  others : Lib.OthersKept 5 (some Bb) w w'

theorem Kp.refl (B Bb : Nat) (w : World) : Kp B Bb w w := ⟨Below.refl _ _, Lib.OthersKept.refl _ _ _⟩
theorem Kp.trans {B Bb : Nat} {a b c : World} (h : Kp B Bb a b) (k : Kp B Bb b c) : Kp B Bb a c := ⟨h.below.trans k.below, h.others.trans k.others⟩

theorem others_grown {e : TypeId} {w w' : World} {b : Nat} {n : Nat} {v : Value} {xs : List Value} {row : Option Nat} (h : w.ownsRow b e 1 v n xs) (hg : w.grownBy w' v.ownBlock) : Lib.OthersKept e row w w' := by
  intro k o hk _ ho
  rw [hg.block k (Array.getElem?_eq_some_iff.1 hk).1 ?_]
  · exact hk
  · intro e1
    rcases h.2 with ⟨rfl, _⟩ | ⟨g, cap, cur, rfl, _, hh, _⟩
    · cases e1
    · have : k = g := by simpa [Value.ownBlock] using e1
      subst this
      rw [hh] at hk
      cases hk
      exact ho _ _ rfl

theorem others_alloc (e : TypeId) (row : Option Nat) (w : World) (o : Obj) : Lib.OthersKept e row w (w.alloc o) := by
  intro k o' hk _ _
  rw [Below.heap_alloc _ _ _ (Array.getElem?_eq_some_iff.1 hk).1]
  exact hk

end Go.Proofs.YtbkgmahpfghheaaDoor
