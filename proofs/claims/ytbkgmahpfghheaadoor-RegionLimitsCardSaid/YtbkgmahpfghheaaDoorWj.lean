/- Contracts of region.size and region.nothing. -/
import Derived.Test.YtbkgmahpfghheaaDoorWi
namespace Go.Proofs.YtbkgmahpfghheaaDoor
open Go.RowKit
open Ps

def SizeIs (r : Rg) (k : Int) : Prop := 0 ≤ k ∧ k ≤ r.cnt ∧ (r.cnt ≤ 64 → k = r.cnt) ∧ (64 < r.cnt → 64 < k)
def SizePost (r : Rg) (e : Ending) : Prop := ∃ k : Int, e = .returned (.int .i64 k) ∧ SizeIs r k

theorem cntL_take_succ {ps : Pts} {i : Nat} {p : List Iv × Rg} (h : ps[i]? = some p) : cntL (ps.take (i + 1)) = cntL (ps.take i) + (1 + p.2.cnt) := by
  obtain ⟨hi, rfl⟩ := List.getElem?_eq_some_iff.1 h
  rw [List.take_succ_eq_append_getElem hi, cntL_append, cntL_cons]
  simp [cntL]
theorem cntL_take_le (ps : Pts) (i : Nat) : cntL (ps.take i) ≤ cntL ps := by
  conv => rhs; rw [← List.take_append_drop i ps, cntL_append]
  omega

set_option maxHeartbeats 400000 in
theorem size_any (r : Rg) : ∀ (A : Option Addr) (n c : Nat) (w : World), RgAt any w r A n → n ≤ c → c ≤ 9223372036854775807 → r.cnt < 4611686018427387904 →
    Calls Tryd.prog 14 #[.agg #[.int .i64 r.w, .bool r.full, .slice A n c]] w fun e w' => SizePost r e ∧ Below w.heap.size w w' := by
  refine Rg.ind (P := fun r => ∀ (A : Option Addr) (n c : Nat) (w : World), RgAt any w r A n → n ≤ c → c ≤ 9223372036854775807 → r.cnt < 4611686018427387904 →
    Calls Tryd.prog 14 #[.agg #[.int .i64 r.w, .bool r.full, .slice A n c]] w fun e w' => SizePost r e ∧ Below w.heap.size w w') (fun wd f ps ih A n c w hr hnc hc hcnt => ?_) r
  have IH := Lib.hid ih; clear ih
  have HR := Lib.hid hr; clear hr
  simp only [Rg.w_mk, Rg.full_mk]
  go_enter Tryd.func14, Tryd.ntmps14
  go_wp2_with fail
  go_loopw [3, 9] (fun m i wr => ∃ k : Nat, k ≤ n ∧ i = .int .i64 k ∧ m = .int .i64 (cntL (ps.take k)) ∧ cntL (ps.take k) ≤ 64 ∧ Below w.heap.size w wr) (fun _ i _ => n - (intOf i).toNat)
  case atStart => exact ⟨0, by omega, rfl, by simp [cntL], by simp [cntL], (Below.refl _ _).alloc (Nat.le_refl _) _⟩
  case round =>
    obtain ⟨k, hk, rfl, rfl, h64, hb⟩ := hrel
    by_cases hlt : k < n
    · have hlen := HR.out.len
      simp only [Rg.ps_mk] at hlen
      obtain ⟨p, hp⟩ : ∃ p, ps[k]? = some p := ⟨ps[k], List.getElem?_eq_getElem (by omega)⟩
      obtain ⟨b, off, eA, _, hbl, A1, n1, c1, A2, n2, c2, q1, q2, q3, q4, l1, l2, l3, l4, _, hrest⟩ := (HR.out.below hb).get (i := k) (p := p) hp
      clear hlen
      subst eA
      have hin : p ∈ ps := List.mem_of_getElem? hp
      have hsum := cntL_take_succ hp
      have hle := cntL_take_le ps (k + 1)
      have HP := Lib.hid hp; clear hp
      have HS := Lib.hid hsum; clear hsum
      have hcn : cntL ps < 4611686018427387904 := by rw [Rg.cnt_ps] at hcnt; exact hcnt
      have hpc : p.2.cnt < 4611686018427387904 := by have := HS.out; omega
      go_wp2_with fail
      refine (IH.out p hin A2 n2 c2 _ (hrest.below (by exact (((Below.refl _ _).alloc (Nat.le_refl _) _)))) l2 l4 hpc).mono ?_
      rintro e w1 ⟨⟨m, rfl, hm⟩, hb1⟩
      obtain ⟨m0, m1, m2, m3⟩ := hm
      have M2 := Lib.hid m2; clear m2
      have M3 := Lib.hid m3; clear m3
      have hb2 : Below w.heap.size w w1 := (hb.alloc hb.size _).trans (hb1.mono (by have := hb.size; simp; omega))
      clear hb1 hb
      by_cases hgt : (cntL (ps.take k) : Int) + (1 + m) > 64
      · have : 64 < cntL (ps.take (k + 1)) := by have := HS.out; omega
        go_wp2_with fail
        go_ret
        refine ⟨⟨_, rfl, ?_⟩, hb2⟩
        unfold SizeIs
        rw [Rg.cnt_ps, Rg.ps_mk]
        have := HS.out
        exact ⟨by omega, by omega, fun h => by omega, fun h => hgt⟩
      · go_wp2_with fail
        have hm' : m = p.2.cnt := by
          by_cases h : p.2.cnt ≤ 64
          · exact M2.out h
          · have := M3.out (by omega); omega
        go_roundw
        case rel => exact ⟨k + 1, by omega, by go_num, by rw [HS.out, hm']; go_num, by have := HS.out; omega, hb2⟩
        case measure => simp [intOf]; omega
    · go_wp2_with fail
      go_ret
      have hlen := HR.out.len
      simp only [Rg.ps_mk] at hlen
      have e : ps.take k = ps := List.take_of_length_le (by omega)
      rw [e] at h64 ⊢
      refine ⟨⟨_, rfl, ?_⟩, hb⟩
      unfold SizeIs
      rw [Rg.cnt_ps, Rg.ps_mk]
      exact ⟨by omega, by omega, fun _ => rfl, fun h => by omega⟩

set_option maxHeartbeats 400000 in
theorem nothing_any (wd : Int) (f : Bool) (A : Option Addr) (n c : Nat) (w : World) :
    Calls Tryd.prog 25 #[.agg #[.int .i64 wd, .bool f, .slice A n c]] w fun e w' => e = .returned (.bool (!f && decide (n = 0))) ∧ Below w.heap.size w w' := by
  cases f
  · by_cases h : n = 0
    · subst h
      go_enter Tryd.func25, Tryd.ntmps25
      go_wp2_with fail
      go_ret
      exact ⟨rfl, (Below.refl _ _).alloc (Nat.le_refl _) _⟩
    · have h0 : ((n : Int) == 0) = false := by simp; omega
      go_enter Tryd.func25, Tryd.ntmps25
      go_wp2_with fail
      go_ret
      exact ⟨by simp [h], (Below.refl _ _).alloc (Nat.le_refl _) _⟩
  · go_enter Tryd.func25, Tryd.ntmps25
    go_wp2_with fail
    go_ret
    exact ⟨rfl, (Below.refl _ _).alloc (Nat.le_refl _) _⟩

end Go.Proofs.YtbkgmahpfghheaaDoor
