/- Contracts of interval.combine and interval.Intersect. -/
import Derived.Test.YtbkgmahpfghheaaDoorWe
namespace Go.Proofs.YtbkgmahpfghheaaDoor
open Go.RowKit
open Ps

def ICombined (base : Nat) (a b L : List Iv) (w : World) (e : Ending) (w' : World) : Prop := Below w.heap.size w w' ∧
  ((Slim a ∧ Slim b ∧ L.length ≤ 64 ∧ ∃ v, e = .returned (.tuple #[v, .int .i64 0]) ∧ OwnIvs base w' v L) ∨ (¬ (Slim a ∧ Slim b) ∧ e = .returned (.tuple #[.slice none 0 0, .int .i64 30])) ∨
    (Slim a ∧ Slim b ∧ 64 < L.length ∧ e = .returned (.tuple #[.slice none 0 0, .int .i64 2])))

open Classical in
set_option maxHeartbeats 800000 in
theorem icombine_any (op : Bool → Bool → Bool) (kg : Nat) (lb : Array Value) (eg : ∀ args w, (callFunc kg args).run Tryd.prog w = .ok (.enter kg args) w) (hkeep : KeepAt kg lb op) (a b : List Iv) (A B : Option Addr) (n c m d : Nat) (w : World) (ha : IvsAt any w A n a) (hb : IvsAt any w B m b)
    (hnc : n ≤ c) (hmd : m ≤ d) (hc : c ≤ 9223372036854775807) (hd : d ≤ 9223372036854775807) :
    Calls Tryd.prog 35 #[.slice A n c, .slice B m d, .func (.func kg) #[] lb] w (ICombined w.heap.size a b (mergeL op a b) w) := by
  have HA := Lib.hid ha; clear ha
  have HB := Lib.hid hb; clear hb
  have HK := Lib.hid hkeep; clear hkeep
  have EG := Lib.hid eg; clear eg
  cases s1 : decide (Slim a)
  · have s1' : ¬ Slim a := of_decide_eq_false s1
    have S := Lib.hid s1'; clear s1'
    go_enter Tryd.func35, Tryd.ntmps35
    go_wp2_with fail
    refine (ivalid_any a A n c _ HA.out hnc hc).mono ?_
    rintro e w1 ⟨rfl, hb1⟩
    go_wp2_with fail
    go_ret2
    exact ⟨hb1, .inr (.inl ⟨fun k => S.out k.1, rfl⟩)⟩
  have S1 := Lib.hid (of_decide_eq_true s1)
  cases s2 : decide (Slim b)
  · have s2' : ¬ Slim b := of_decide_eq_false s2
    have S := Lib.hid s2'; clear s2'
    go_enter Tryd.func35, Tryd.ntmps35
    go_wp2_with fail
    refine (ivalid_any a A n c _ HA.out hnc hc).mono ?_
    rintro e w1 ⟨rfl, hb1⟩
    go_wp2_with fail
    refine (ivalid_any b B m d _ (HB.out.keep (Keeps.of_below hb1)) hmd hd).mono ?_
    rintro e w2 ⟨rfl, hb2⟩
    go_wp2_with fail
    go_ret2
    exact ⟨below_call hb1 hb2, .inr (.inl ⟨fun k => S.out k.2, rfl⟩)⟩
  have S2 := Lib.hid (of_decide_eq_true s2)
  have ln : n ≤ 1000000 := by have h1 := HA.out.1; have h2 := S1.out.2; omega
  have lm : m ≤ 1000000 := by have h1 := HB.out.1; have h2 := S2.out.2; omega
  go_enter Tryd.func35, Tryd.ntmps35
  go_wp2_with fail
  refine (ivalid_any a A n c _ HA.out hnc hc).mono ?_
  rintro e w1 ⟨rfl, hb1⟩
  go_wp2_with fail
  refine (ivalid_any b B m d _ (HB.out.keep (Keeps.of_below hb1)) hmd hd).mono ?_
  rintro e w2 ⟨rfl, hb2⟩
  have hb3 := below_call hb1 hb2
  go_wp2_with fail
  refine (merge_any op kg lb EG.out HK.out a b A B n c m d _ (HA.out.keep (Keeps.of_below hb3)) (HB.out.keep (Keeps.of_below hb3)) ln lm hnc hmd hc hd).mono ?_
  rintro e w3 ⟨v, rfl, hown, hb4⟩
  have hb5 := below_call hb3 hb4
  have hown' : OwnIvs w.heap.size w3 v (mergeL op a b) := by
    unfold OwnIvs at hown ⊢
    refine ⟨hown.1, hown.2.imp id ?_⟩
    rintro ⟨g, cap, cur, h1, h2, h3⟩
    exact ⟨g, cap, cur, h1, Nat.le_trans hb3.size h2, h3⟩
  obtain ⟨A', c', rfl, _, l1, l2⟩ := hown'.at_
  generalize hL : (mergeL op a b).length = q at l1 l2
  have HL := Lib.hid hL
  have HO := Lib.hid hown'
  clear hown hown' hb1 hb2 hb3 hb4 hL
  by_cases hq : q > 64
  · go_wp2_with fail
    go_ret2
    exact ⟨hb5, .inr (.inr ⟨S1.out, S2.out, by rw [HL.out]; omega, rfl⟩)⟩
  · go_wp2_with fail
    go_ret2
    exact ⟨hb5, .inl ⟨S1.out, S2.out, by rw [HL.out]; omega, .slice A' q c', rfl, by have h := HO.out; rw [HL.out] at h; exact h⟩⟩

theorem egAnd : ∀ args w, (callFunc 36 args).run Tryd.prog w = .ok (.enter 36 args) w := enters_of Tryd.func36 (by kernel_rfl) rfl

theorem ok_empty {l : List Iv} (h : Ok l) : l = [] ↔ ∀ v, v.ok = true → ¬ has l v := by
  constructor
  · rintro rfl v _; exact has_nil v
  · intro k
    cases l with
    | nil => rfl
    | cons x t => exact absurd h.has_lo (k _ h.lo_ok)

set_option maxHeartbeats 400000 in
theorem intersect_any (a b : List Iv) (A B : Option Addr) (n c m d : Nat) (w : World) (ha : IvsAt any w A n a) (hb : IvsAt any w B m b) (sa : Slim a) (sb : Slim b)
    (hnc : n ≤ c) (hmd : m ≤ d) (hc : c ≤ 9223372036854775807) (hd : d ≤ 9223372036854775807) :
    Calls Tryd.prog 27 #[.slice A n c, .slice B m d] w (Meets a b w) := by
  have HA := Lib.hid ha; clear ha
  have HB := Lib.hid hb; clear hb
  have SA := Lib.hid sa; clear sa
  have SB := Lib.hid sb; clear sb
  have M := Lib.hid (mergeL_is (fun x y => x && y) SA.out.1 SB.out.1)
  have key : Hid (mergeL (fun x y => x && y) a b = [] ↔ ∀ v, has a v → ¬ has b v) := by
    rw [Hid, ok_empty M.out.1]
    constructor
    · intro h
      exact SA.out.1.apart SB.out.1 fun v vo va vb => h v vo ((M.out.2 v vo).2 (by simp [va, vb]))
    · intro h v vo k
      have := (M.out.2 v vo).1 k
      simp at this
      exact h v this.1 this.2
  go_enter Tryd.func27, Tryd.ntmps27
  go_wp2_with fail
  refine (icombine_any (fun x y => x && y) 36 #[] egAnd keepAnd a b A B n c m d _ HA.out HB.out hnc hmd hc hd).mono ?_
  rintro e w1 ⟨hb1, h⟩
  rcases h with ⟨_, _, hl, v, rfl, hown⟩ | ⟨h, _⟩ | ⟨_, _, hl, rfl⟩
  · obtain ⟨A', c', rfl, _⟩ := hown.at_
    generalize hL : mergeL (fun x y => x && y) a b = L at *
    have HL := Lib.hid hL; clear hL hown hl
    go_wp2_with fail
    go_ret2
    refine ⟨A', L.length, c', 0, rfl, ?_, hb1⟩
    rw [← key.out]
    simp
  · exact absurd ⟨SA.out, SB.out⟩ h
  · have hne : Hid (mergeL (fun x y => x && y) a b ≠ []) := fun c => by rw [c] at hl; simp at hl
    clear hl
    go_wp2_with fail
    go_ret2
    refine ⟨none, 0, 0, 2, rfl, ?_, hb1⟩
    rw [← key.out]
    simp [hne.out]

end Go.Proofs.YtbkgmahpfghheaaDoor
