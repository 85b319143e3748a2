/- Contract of region.formed: it answers as the plain law formedb. -/
import Derived.Test.YtbkgmahpfghheaaDoorWk
import Derived.Deep.DeepCutAuto
import Derived.Deep.CutRange
namespace Go.Proofs.YtbkgmahpfghheaaDoor
open Go.RowKit
open Ps
open Go.Maps (Keyed)

theorem ks : Keyed Tryd.prog 9 := Go.Maps.string_keyed (by kernel_rfl)
theorem umap_sb : Tryd.prog.underlying 69 = some (.map 9 4) := by kernel_rfl

/-- All but block Bd stays what it was. -/
structure But (Bd : Nat) (w w' : World) : Prop where
  os : w'.os = w.os
  tape : w'.tape = w.tape
  output : w'.output = w.output
  size : w.heap.size ≤ w'.heap.size
  block : ∀ k, k ≠ Bd → k < w.heap.size → w'.heap[k]? = w.heap[k]?
theorem But.refl (Bd : Nat) (w : World) : But Bd w w := ⟨rfl, rfl, rfl, Nat.le_refl _, fun _ _ _ => rfl⟩
theorem But.trans {Bd : Nat} {a b c : World} (h : But Bd a b) (k : But Bd b c) : But Bd a c :=
  ⟨k.os.trans h.os, k.tape.trans h.tape, k.output.trans h.output, Nat.le_trans h.size k.size, fun i hi hl => (k.block i hi (Nat.lt_of_lt_of_le hl h.size)).trans (h.block i hi hl)⟩
theorem But.of_below {Bd : Nat} {w w' : World} (h : Below w.heap.size w w') : But Bd w w' := ⟨h.os, h.tape, h.output, h.size, fun k _ hk => h.block k hk⟩
theorem But.keeps {Bd : Nat} {w w' : World} (h : But Bd w w') : Keeps (· ≠ Bd) w w' := ⟨h.size, h.block⟩
theorem But.cell {Bd : Nat} {w w' : World} (h : But Bd w w') {b off : Nat} (o : b ≠ Bd) (hb : b < w.heap.size) : w'.cell? ⟨b, off, none⟩ = w.cell? ⟨b, off, none⟩ := h.keeps.cell o hb
theorem But.below {Bd T : Nat} {w w' : World} (h : But Bd w w') (hT : T ≤ Bd) (hw : Bd < w.heap.size) : Below T w w' := ⟨h.os, h.tape, h.output, h.size, fun k hk => h.block k (by omega) (by omega)⟩
theorem keeps_alloc {Bd : Nat} (w : World) (o : Obj) : But Bd w (w.alloc o) := But.of_below ((Below.refl _ _).alloc (Nat.le_refl _) o)
theorem keeps_drew {Bd : Nat} (w : World) : But Bd w w.drew := ⟨rfl, rfl, rfl, Nat.le_refl _, fun _ _ _ => rfl⟩
theorem keeps_put {w : World} {Bd : Nat} (v : Value) : But Bd w (w.setCell ⟨Bd, 0, none⟩ v) :=
  ⟨rfl, rfl, rfl, by simp [World.setCell], fun k hk _ => Below.heap_setCell _ _ _ _ (fun e => hk (by rw [e]))⟩

open Classical in
noncomputable def seenOf (t : Pts) (l : Lit) : Bool := decide (∃ q ∈ t, l = .string (F10.rg q.2))

theorem fL_1 {n : Nat} {pre t : Pts} {p : List Iv × Rg} {b : Int} (h : p.1 = [] ∨ ¬ Slim p.1) : formedL n pre (p :: t) b = none := by
  rw [formedL, if_pos h]
theorem fL_2 {n : Nat} {pre t : Pts} {p : List Iv × Rg} {b : Int} (h : ∃ q ∈ pre.getLast?, ¬ lo0 q.1 < lo0 p.1) : formedL n pre (p :: t) b = none := by
  unfold formedL
  rw [if_pos h]
  exact ite_self _
theorem fL_3 {n : Nat} {pre t : Pts} {p : List Iv × Rg} {b : Int} (h : ∃ q ∈ pre, ∃ v, has q.1 v ∧ has p.1 v) : formedL n pre (p :: t) b = none := by
  unfold formedL
  rw [if_pos h, ite_self, ite_self]
theorem fL_4 {n : Nat} {pre t : Pts} {p : List Iv × Rg} {b : Int} (h : formedb n p.2 b = none) : formedL n pre (p :: t) b = none := by
  unfold formedL
  rw [h]
  simp only [ite_self]
theorem fL_5 {n : Nat} {pre t : Pts} {p : List Iv × Rg} {b b' : Int} (h : formedb n p.2 b = some b') (k : p.2.none = true ∨ ∃ q ∈ pre, q.2 = p.2) : formedL n pre (p :: t) b = none := by
  unfold formedL
  rw [h]
  simp only [k, if_true, ite_self]
theorem fL_6 {n : Nat} {pre t : Pts} {p : List Iv × Rg} {b b' : Int} (h1 : ¬ (p.1 = [] ∨ ¬ Slim p.1)) (h2 : ¬ ∃ q ∈ pre.getLast?, ¬ lo0 q.1 < lo0 p.1) (h3 : ¬ ∃ q ∈ pre, ∃ v, has q.1 v ∧ has p.1 v) (h : formedb n p.2 b = some b') (k : ¬ (p.2.none = true ∨ ∃ q ∈ pre, q.2 = p.2)) :
    formedL n pre (p :: t) b = formedL n (pre ++ [p]) t b' := by
  conv => lhs; unfold formedL
  rw [if_neg h1, if_neg h2, if_neg h3, h]
  simp only [k, if_false]

theorem But.grown {Bd M : Nat} {w w1 w2 : World} (h : But Bd w w1) (hg : w1.grownBy w2 (some M)) (hM : w.heap.size ≤ M) : But Bd w w2 :=
  ⟨hg.os.trans h.os, hg.tape.trans h.tape, hg.output.trans h.output, Nat.le_trans h.size hg.size, fun k hk hl => (hg.block k (Nat.lt_of_lt_of_le hl h.size) (fun e => by injection e with e; omega)).trans (h.block k hk hl)⟩
theorem none_is {r : Rg} {A : Option Addr} {n : Nat} {ok : Nat → Prop} {w : World} (h : RgAt ok w r A n) : (!r.full && decide (n = 0)) = r.none := by
  have := h.len
  unfold Rg.none
  cases hp : r.ps with
  | nil => rw [hp] at this; simp at this; simp [← this]
  | cons q t => rw [hp] at this; simp at this; have : n ≠ 0 := by omega
                simp [this]
theorem formedb_canon {n : Nat} {r : Rg} {b b' : Int} (hn : n ≤ 12) (h0 : 0 ≤ b) (h1 : b ≤ 64) (h : formedb n r b = some b') : Canon r ∧ 0 ≤ b' ∧ b' ≤ 64 := by
  rw [formedb_is n r b h0] at h
  split at h
  · rename_i k
    simp only [Option.some.injEq] at h
    exact ⟨⟨n, hn, k.1, by have := k.2.2; omega, k.2.1⟩, by have := k.2.2; omega, by omega⟩
  · cases h

/-- The state of formed's loop over the parts. -/
structure FS (n : Nat) (r : Rg) (b : Int) (Bd : Nat) (w : World) (A : Option Addr) (m c : Nat) (k : Nat) (b' : Int) (wr : World) : Prop where
  bud : wr.heap[Bd]? = some (.cells #[.int .i64 b'] 3 (0, 0))
  b0 : 0 ≤ b'
  b1 : b' ≤ 64
  kp : But Bd w wr
  box : wr.heap[w.heap.size]? = some (.cells #[.int .i64 r.w, .bool r.full, .slice A m c] 24 (0, 0))
  seen : MB 9 wr (w.heap.size + 1) k (seenOf (r.ps.take k))
  past : ∀ q ∈ r.ps.take k, q.1 ≠ [] ∧ Slim q.1 ∧ Canon q.2
  eq : formedb (n + 1) r b = formedL n (r.ps.take k) (r.ps.drop k) b'

def FPost (n : Nat) (r : Rg) (b : Int) (Bd : Nat) (w : World) (e : Ending) (w' : World) : Prop :=
  e = .returned (.bool (formedb n r b).isSome) ∧ But Bd w w' ∧ ∀ b', formedb n r b = some b' → w'.heap[Bd]? = some (.cells #[.int .i64 b'] 3 (0, 0))

theorem fno {n : Nat} {r : Rg} {b : Int} {Bd : Nat} {w w' : World} (h : formedb n r b = none) (k : But Bd w w') : FPost n r b Bd w (.returned (.bool false)) w' :=
  ⟨by rw [h]; rfl, k, fun b' e => by rw [h] at e; cases e⟩
theorem fyes {n : Nat} {r : Rg} {b b' : Int} {Bd : Nat} {w w' : World} (h : formedb n r b = some b') (k : But Bd w w') (hb : w'.heap[Bd]? = some (.cells #[.int .i64 b'] 3 (0, 0))) : FPost n r b Bd w (.returned (.bool true)) w' :=
  ⟨by rw [h]; rfl, k, fun b'' e => by rw [h] at e; cases e; exact hb⟩

set_option maxRecDepth 8192 in
set_option maxHeartbeats 3200000 in
open Classical in
theorem formed_any (Bd T : Nat) (hTB : T ≤ Bd) (n : Nat) : n ≤ 12 → ∀ (r : Rg) (A : Option Addr) (m c : Nat) (b : Int) (w : World), RgAt (· ≠ Bd) w r A m → m ≤ c → c ≤ 9223372036854775807 →
    w.heap[Bd]? = some (.cells #[.int .i64 b] 3 (0, 0)) → 0 ≤ b → b ≤ 64 → TabB T w →
    Calls Tryd.prog 20 #[.agg #[.int .i64 r.w, .bool r.full, .slice A m c], .int .i64 n, .pointer (some ⟨Bd, 0, none⟩)] w (FPost n r b Bd w) := by
  induction n with
  | zero =>
    intro _ r A m c b w hr hmc hc hbud hb0 hb1 hT
    have hlen := hr.len
    by_cases h1 : r.w = 0
    · by_cases h2 : m = 0
      · have hps : r.ps = [] := by cases h : r.ps with | nil => rfl | cons _ _ => rw [h] at hlen; simp at hlen; omega
        have hF : Hid (formedb 0 r b = some b) := by show formedb 0 r b = some b; rw [formedb, if_pos ⟨h1, hps⟩]
        have HB := Lib.hid hbud; clear hbud
        have hlt : Bd < w.heap.size := (Array.getElem?_eq_some_iff.1 HB.out).1
        rw [h1]
        subst h2
        clear hps hlen hr h1
        go_enter Tryd.func20, Tryd.ntmps20
        go_wp2_with fail
        go_ret
        exact fyes hF.out (keeps_alloc _ _) (by rw [Below.heap_alloc _ _ _ hlt]; exact HB.out)
      · have hF : Hid (formedb 0 r b = none) := by
          show formedb 0 r b = none
          rw [formedb, if_neg]
          rintro ⟨_, e⟩
          rw [e] at hlen
          exact h2 hlen.symm
        have g : ((m : Int) == 0) = false := by simp; omega
        rw [h1]
        clear hlen hr h1 h2
        go_enter Tryd.func20, Tryd.ntmps20
        go_wp2_with fail
        go_ret
        exact fno hF.out (keeps_alloc _ _)
    · have hF : Hid (formedb 0 r b = none) := by
        show formedb 0 r b = none
        rw [formedb, if_neg]
        rintro ⟨e, _⟩
        exact h1 e
      have g : (r.w == (0 : Int)) = false := by simp [h1]
      have g' : (r.w != (0 : Int)) = true := by simp [h1]
      clear hlen hr
      go_enter Tryd.func20, Tryd.ntmps20
      go_wp2_with fail
      go_ret
      exact fno hF.out (keeps_alloc _ _)
  | succ n ih =>
    intro hn12 r A m c b w hr hmc hc hbud hb0 hb1 hT
    have hlen := hr.len
    have IH := Lib.hid (ih (by omega)); clear ih
    have HR := Lib.hid hr; clear hr
    have HT := Lib.hid hT; clear hT
    have hbl : Bd < w.heap.size := (Array.getElem?_eq_some_iff.1 hbud).1
    by_cases h1 : r.w = ((n + 1 : Nat) : Int)
    · cases h2 : r.full
      · by_cases h3 : b - (m : Int) < 0
        · have hF : Hid (formedb (n + 1) r b = none) := by
            show formedb (n + 1) r b = none
            rw [formedb, if_neg (by simp [h1, h2]), hlen, if_pos h3]
          have cb : w.cell? ⟨Bd, 0, none⟩ = some (.int .i64 b) := by simp [World.cell?, hbud]
          have fb : w.frozen? ⟨Bd, 0, none⟩ = false := by simp [World.frozen?, hbud]
          have a1 : IntKind.i64.wrap (b - m) = b - m := IntWalk.i64_in _ (by omega)
          have a2 : ((n : Int) + 1 == 0) = false := by simp; omega
          rw [h1]
          clear hlen h1 h2
          go_enter Tryd.func20, Tryd.ntmps20
          go_wp2_with fail
          go_region
          have K0 : Hid (But Bd w (((w.setCell ⟨Bd, 0, none⟩ (.int .i64 (b - m))).alloc (.cells #[.int .i64 ((n : Int) + 1), .bool false, .slice A m c] 24)).drew)) := ((keeps_put (.int .i64 (b - m))).trans (keeps_alloc _ _)).trans (keeps_drew _)
          have cw : ((w.setCell ⟨Bd, 0, none⟩ (.int .i64 (b - m))).alloc (.cells #[.int .i64 ((n : Int) + 1), .bool false, .slice A m c] 24)).drew.cell? ⟨Bd, 0, none⟩ = some (.int .i64 (b - m)) := by
            show World.cell? (World.alloc _ _) _ = _
            simp only [World.cell?]
            rw [Below.heap_alloc _ _ _ (by simpa [World.setCell] using hbl), heap_setCell_self hbud]
            simp
          generalize ((w.setCell ⟨Bd, 0, none⟩ (.int .i64 (b - m))).alloc (.cells #[.int .i64 ((n : Int) + 1), .bool false, .slice A m c] 24)).drew = w0 at K0 cw ⊢
          go_wp2_with fail
          go_ret
          exact fno hF.out K0.out
        · have hF : Hid (formedb (n + 1) r b = formedL n (r.ps.take 0) (r.ps.drop 0) (b - m)) := by
            show formedb (n + 1) r b = _
            rw [formedb, if_neg (by simp [h1, h2]), hlen, if_neg h3]
            rfl
          have cb : w.cell? ⟨Bd, 0, none⟩ = some (.int .i64 b) := by simp [World.cell?, hbud]
          have fb : w.frozen? ⟨Bd, 0, none⟩ = false := by simp [World.frozen?, hbud]
          have a1 : IntKind.i64.wrap (b - m) = b - m := IntWalk.i64_in _ (by omega)
          have a2 : ((n : Int) + 1 == 0) = false := by simp; omega
          have F0 : Hid (FS n r b Bd w A m c 0 (b - m) ((((w.setCell ⟨Bd, 0, none⟩ (.int .i64 (b - m))).alloc (.cells #[.int .i64 ((n : Int) + 1), .bool false, .slice A m c] 24)).alloc (.map #[] 0)).drew)) := by
            have e0 : (w.setCell ⟨Bd, 0, none⟩ (.int .i64 (b - m))).heap.size = w.heap.size := by simp [World.setCell]
            have hs : ((w.setCell ⟨Bd, 0, none⟩ (.int .i64 (b - m))).alloc (.cells #[.int .i64 ((n : Int) + 1), .bool false, .slice A m c] 24)).heap.size = w.heap.size + 1 := by simp [World.setCell]
            refine ⟨?_, by omega, by omega, (((keeps_put (.int .i64 (b - m))).trans (keeps_alloc _ _)).trans (keeps_alloc _ _)).trans (keeps_drew _), ?_, ?_, by simp, hF.out⟩
            · show (World.alloc _ _).heap[Bd]? = _
              rw [Below.heap_alloc _ _ _ (by rw [hs]; omega), Below.heap_alloc _ _ _ (by rw [e0]; exact hbl)]
              exact heap_setCell_self hbud
            · show (World.alloc _ _).heap[w.heap.size]? = _
              rw [Below.heap_alloc _ _ _ (by rw [hs]; omega), h1, h2]
              have := heap_alloc_new (w.setCell ⟨Bd, 0, none⟩ (.int .i64 (b - m))) (.cells #[.int .i64 ((n : Int) + 1), .bool false, .slice A m c] 24)
              rw [e0] at this
              exact this
            · have := MB.made 9 ((w.setCell ⟨Bd, 0, none⟩ (.int .i64 (b - m))).alloc (.cells #[.int .i64 ((n : Int) + 1), .bool false, .slice A m c] 24))
              rw [hs] at this
              have e : seenOf (r.ps.take 0) = fun _ => false := by funext l; simp [seenOf]
              rw [e]
              exact this.kept rfl
          have H1 := Lib.hid h1
          have H2 := Lib.hid h2
          rw [h1]
          clear h1 h2
          have hmm := @run_makeMap Tryd.prog
          go_enter Tryd.func20, Tryd.ntmps20
          go_wp2_with fail
          go_region
          go_wp2_with fail
          go_loopw [43] (fun i wr => ∃ (k : Nat) (b' : Int), k ≤ m ∧ i = .int .i64 k ∧ FS n r b Bd w A m c k b' wr) (fun i _ => m - (intOf i).toNat)
          case atStart => exact ⟨0, _, by omega, rfl, F0.out⟩
          case round =>
            obtain ⟨wo, rfl⟩ : ∃ wo, wo = wr := ⟨_, rfl⟩
            obtain ⟨k, b', hk, rfl, x⟩ := hrel
            have X := Lib.hid x; clear x
            by_cases hlt : k < m
            · obtain ⟨p, hp⟩ : ∃ p, r.ps[k]? = some p := ⟨r.ps[k], List.getElem?_eq_getElem (by omega)⟩
              have hdrop : r.ps.drop k = p :: r.ps.drop (k + 1) := by
                obtain ⟨hi, e⟩ := List.getElem?_eq_some_iff.1 hp
                rw [List.drop_eq_getElem_cons hi, e]
              have hEQ := X.out.eq
              rw [hdrop] at hEQ
              have HEQ := Lib.hid hEQ; clear hEQ hdrop
              obtain ⟨bq, off, eA, okb, hbq, A1, n1, d1, A2, n2, d2, q1, q2, q3, q4, l2, l3, l4, l5, hiv, hrest⟩ := (RgAt.keep X.out.kp.keeps r HR.out).get (i := k) (p := p) hp
              subst eA
              have HPP := Lib.hid hp; clear hp
              have HIV := Lib.hid hiv; clear hiv
              have HRE := Lib.hid hrest; clear hrest
              have hn1 := HIV.out.1
              have hwl : w.heap.size + 1 < wo.heap.size := X.out.seen.lt
              have HP8 : Hid ((wo.alloc (.cells #[.slice A1 n1 d1, .int .i64 p.2.w, .bool p.2.full, .slice A2 n2 d2] 50)).heap[wo.heap.size]? = some (.cells #[.slice A1 n1 d1, .int .i64 p.2.w, .bool p.2.full, .slice A2 n2 d2] 50 (0, 0))) := heap_alloc_new _ _
              by_cases hv0 : n1 = 0
              · have e : p.1 = [] := List.length_eq_zero_iff.1 (by omega)
                have HN : Hid (formedb (n + 1) r b = none) := HEQ.out.trans (fL_1 (.inl e))
                have g : ((n1 : Int) == 0) = true := by simp [hv0]
                clear e hn1
                go_wp2_with fail
                go_ret
                exact fno HN.out (X.out.kp.trans (keeps_alloc _ _))
              · have g : ((n1 : Int) == 0) = false := by simpa using hv0
                go_wp2_with fail
                refine (ivalid_any p.1 A1 n1 d1 _ ((HIV.out.mono (fun _ _ _ => trivial)).keep (Keeps.of_below ((Below.refl _ _).alloc (Nat.le_refl _) _))) l2 l4).mono ?_
                rintro e w2 ⟨rfl, hb2⟩
                have K1 : Hid (But Bd wo w2) := (keeps_alloc wo _).trans (But.of_below hb2)
                have HP2 : Hid (w2.heap[wo.heap.size]? = some (.cells #[.slice A1 n1 d1, .int .i64 p.2.w, .bool p.2.full, .slice A2 n2 d2] 50 (0, 0))) := (hb2.block _ (by simp)).trans HP8.out
                have HB2 : Hid (w2.heap[Bd]? = some (.cells #[.int .i64 b'] 3 (0, 0))) := by
                  have hlb : Bd < wo.heap.size := by omega
                  have h := hb2.block Bd (by simp; omega)
                  rw [Below.heap_alloc _ _ _ hlb] at h
                  exact h.trans X.out.bud
                clear hb2 HP8
                by_cases hsl : Slim p.1
                · have hd : decide (Slim p.1) = true := decide_eq_true hsl
                  have HSL := Lib.hid hsl; clear hsl
                  generalize decide (Slim p.1) = dsl at hd
                  subst hd
                  have rb2 : w2.cell? ⟨w.heap.size, 2, none⟩ = some (.slice (some ⟨bq, off, none⟩) m c) := by
                    have := (K1.out.block w.heap.size (by omega) (by omega)).trans X.out.box
                    simp [World.cell?, this]
                  have pc0 : w2.cell? ⟨wo.heap.size, 0, none⟩ = some (.slice A1 n1 d1) := by simp [World.cell?, HP2.out]
                  have hPQ := X.out.past
                  have HKR := Lib.hid (RgAt.keep X.out.kp.keeps r HR.out)
                  have HPQ := Lib.hid hPQ; clear hPQ
                  have QC1 := Lib.hid q1; have QC2 := Lib.hid q2; have QC3 := Lib.hid q3; have QC4 := Lib.hid q4
                  clear q1 q2 q3 q4
                  go_upto_region 16 with fail
                  go_cut [43, 78] from 43 to 125 (fun i cc wx => i = .int .i64 k ∧ cc = .bool (decide (∃ q ∈ (r.ps.take k).getLast?, ¬ lo0 q.1 < lo0 p.1)) ∧ Below w2.heap.size w2 wx)
                  case first =>
                    by_cases hk0 : k = 0
                    · have a4 : decide ((k : Int) > 0) = false := by simp; omega
                      have a5 : decide ((0 : Int) < k) = false := by simp; omega
                      refine wp_region_since (by kernel_rfl) (by kernel_rfl) ?_
                      repeat (any_goals (first | go_big_quiet_step (fail) | quiet_step (fail)))
                      refine wpQuiet_nil ?_
                      rintro w' ⟨⟨w4, hq⟩, rfl⟩
                      clear a4 a5
                      go_wp2_with fail
                      go_meet
                      refine ⟨rfl, ?_, hq⟩
                      rw [hk0]
                      simp
                    · obtain ⟨k0, hk1⟩ : ∃ k0, k = k0 + 1 := ⟨k - 1, by omega⟩
                      obtain ⟨q, hq⟩ : ∃ q, r.ps[k0]? = some q := ⟨r.ps[k0]'(by omega), List.getElem?_eq_getElem (by omega)⟩
                      have hqin : q ∈ r.ps.take k := by rw [hk1, take_get hq]; simp
                      have hlast : (r.ps.take k).getLast? = some q := by rw [hk1, take_get hq]; simp
                      obtain ⟨hq1, hq2, hq3⟩ := HPQ.out q hqin
                      obtain ⟨bq', off', eA', okb', hbq', Aq, nq, dq, Aq2, nq2, dq2, qc, _, _, _, _, _, _, _, hivq, _⟩ := HKR.out.get hq
                      cases eA'
                      have hnq := hivq.1
                      obtain ⟨x, hx⟩ : ∃ x, q.1[0]? = some x := ⟨q.1[0]'(List.length_pos_iff.2 hq1), List.getElem?_eq_getElem _⟩
                      obtain ⟨y, hy⟩ : ∃ y, p.1[0]? = some y := ⟨p.1[0]'(by omega), List.getElem?_eq_getElem _⟩
                      have hnq0 : 0 < nq := by have := List.length_pos_iff.2 hq1; omega
                      have elx : lo0 q.1 = x.lo := by
                        cases hh : q.1 with
                        | nil => exact absurd hh hq1
                        | cons u l => rw [hh] at hx; simp at hx; rw [← hx]; rfl
                      have ely : lo0 p.1 = y.lo := by
                        cases hh : p.1 with
                        | nil => rw [hh] at hy; simp at hy
                        | cons u l => rw [hh] at hy; simp at hy; rw [← hy]; rfl
                      obtain ⟨bx, ox, eAq, okx, hbx, x0, x1, x2, _⟩ := hivq.get hx
                      subst eAq
                      obtain ⟨by', oy, eAp, oky, hby, y0, y1, y2, _⟩ := HIV.out.get hy
                      subst eAp
                      simp only [Nat.zero_mul, Nat.add_zero] at x0 x1 x2 y0 y1 y2
                      have s0 := (K1.out.cell okb' hbq').trans qc
                      have t0 := (K1.out.cell okx hbx).trans x0
                      have t1 := (K1.out.cell okx hbx).trans x1
                      have t2 := (K1.out.cell okx hbx).trans x2
                      have v0 := (K1.out.cell oky hby).trans y0
                      have v1 := (K1.out.cell oky hby).trans y1
                      have v2 := (K1.out.cell oky hby).trans y2
                      have E0 := Lib.hid elx; have E1 := Lib.hid ely; have E2 := Lib.hid hlast
                      clear x0 x1 x2 y0 y1 y2 elx ely hlast qc hx hy hnq hivq HKR hq hq1 hq2 hq3 hqin
                      have r1 := fun p : Since w2 => p.cell rb2
                      have r2 := fun p : Since w2 => p.cell s0
                      have r3 := fun p : Since w2 => p.cell t0
                      have r4 := fun p : Since w2 => p.cell t1
                      have r5 := fun p : Since w2 => p.cell t2
                      have r6 := fun p : Since w2 => p.cell pc0
                      have r7 := fun p : Since w2 => p.cell v0
                      have r8 := fun p : Since w2 => p.cell v1
                      have r9 := fun p : Since w2 => p.cell v2
                      have a1 : IntKind.i64.wrap ((k : Int) - 1) = k0 := by rw [IntWalk.i64_in _ (by omega)]; omega
                      have a2 : (k0 : Int) < m := by omega
                      have a3 : (0 : Int) < nq := by omega
                      have a3' : (0 : Int) < n1 := by omega
                      have a4 : decide ((k : Int) > 0) = true := by simp; omega
                      have a5 : decide ((0 : Int) < k) = true := by simp; omega
                      clear rb2 s0 t0 t1 t2 pc0 v0 v1 v2
                      refine wp_region_since (by kernel_rfl) (by kernel_rfl) ?_
                      repeat (any_goals (first | go_big_quiet_step (exact Since.call (cmp_below x.lo y.lo _)) | quiet_step (exact Since.call (cmp_below x.lo y.lo _))))
                      refine wpQuiet_nil ?_
                      rintro w' ⟨⟨w4, hq⟩, rfl⟩
                      clear a1 a2 a3 a3' a4 a5 r1 r2 r3 r4 r5 r6 r7 r8 r9
                      go_wp2_with fail
                      go_meet
                      refine ⟨rfl, ?_, hq⟩
                      have hc : (0 ≤ cmpI x.lo y.lo) ↔ ∃ q, q ∈ (r.ps.take k).getLast? ∧ ¬ lo0 q.1 < lo0 p.1 := by
                        rw [E2.out]
                        simp only [Option.mem_def, Option.some.injEq, exists_eq_left']
                        rw [E0.out, E1.out, ← cmpI_neg]
                        omega
                      simp only [hc]
                  case rest =>
                    obtain ⟨rfl, rfl, hbx⟩ := hcut
                    have K3 : Hid (But Bd wo wc) := K1.out.trans (But.of_below hbx)
                    have HP3 : Hid (wc.heap[wo.heap.size]? = some (.cells #[.slice A1 n1 d1, .int .i64 p.2.w, .bool p.2.full, .slice A2 n2 d2] 50 (0, 0))) := (hbx.block _ (Array.getElem?_eq_some_iff.1 HP2.out).1).trans HP2.out
                    have rb2 : wc.cell? ⟨w.heap.size, 2, none⟩ = some (.slice (some ⟨bq, off, none⟩) m c) := by
                      have := (K3.out.block w.heap.size (by omega) (by omega)).trans X.out.box
                      simp [World.cell?, this]
                    have HB3 : Hid (wc.heap[Bd]? = some (.cells #[.int .i64 b'] 3 (0, 0))) := (hbx.block Bd (Array.getElem?_eq_some_iff.1 HB2.out).1).trans HB2.out
                    clear pc0 HP2 K1 hbx HB2
                    by_cases hbad : ∃ q ∈ (r.ps.take k).getLast?, ¬ lo0 q.1 < lo0 p.1
                    · have HN : Hid (formedb (n + 1) r b = none) := HEQ.out.trans (fL_2 hbad)
                      have hd : decide (∃ q ∈ (r.ps.take k).getLast?, ¬ lo0 q.1 < lo0 p.1) = true := decide_eq_true hbad
                      generalize decide (∃ q ∈ (r.ps.take k).getLast?, ¬ lo0 q.1 < lo0 p.1) = dsl at hd
                      subst hd
                      clear hbad
                      go_wp2_with fail
                      go_ret
                      exact fno HN.out (X.out.kp.trans K3.out)
                    · have hd : decide (∃ q ∈ (r.ps.take k).getLast?, ¬ lo0 q.1 < lo0 p.1) = false := decide_eq_false hbad
                      generalize decide (∃ q ∈ (r.ps.take k).getLast?, ¬ lo0 q.1 < lo0 p.1) = dsl at hd
                      subst hd
                      have HBAD := Lib.hid hbad; clear hbad
                      go_wp2_with fail
                      go_loopw [84] (fun j wr => ∃ l : Nat, l ≤ k ∧ j = .int .i64 l ∧ Below wc.heap.size wc wr ∧ Hid (∀ q ∈ r.ps.take l, ∀ v, has q.1 v → ¬ has p.1 v)) (fun j _ => k - (intOf j).toNat)
                      case atStart => exact ⟨0, by omega, rfl, Below.refl _ _, by simp [Hid]⟩
                      case round =>
                        obtain ⟨l, hlk, rfl, hbw, hno⟩ := hrel
                        have K5 : Hid (But Bd wo wr) := K3.out.trans (But.of_below hbw)
                        have HP5 : Hid (wr.heap[wo.heap.size]? = some (.cells #[.slice A1 n1 d1, .int .i64 p.2.w, .bool p.2.full, .slice A2 n2 d2] 50 (0, 0))) := (hbw.block _ (Array.getElem?_eq_some_iff.1 HP3.out).1).trans HP3.out
                        by_cases hlk2 : l < k
                        · obtain ⟨q, hq⟩ : ∃ q, r.ps[l]? = some q := ⟨r.ps[l]'(by omega), List.getElem?_eq_getElem (by omega)⟩
                          have hqin : q ∈ r.ps.take k := by
                            rw [List.mem_take_iff_getElem]
                            obtain ⟨h1, h2⟩ := List.getElem?_eq_some_iff.1 hq
                            exact ⟨l, by omega, h2⟩
                          obtain ⟨hq1, hq2, hq3⟩ := HPQ.out q hqin
                          obtain ⟨bq', off', eA', okb', hbq', Aq, nq, dq, Aq2, nq2, dq2, qc1, qc2, qc3, qc4, m2, m3, m4, m5, hivq, _⟩ := HKR.out.get hq
                          cases eA'
                          have s1 := (K5.out.cell okb' hbq').trans qc1
                          have s2 := (K5.out.cell okb' hbq').trans qc2
                          have s3 := (K5.out.cell okb' hbq').trans qc3
                          have s4 := (K5.out.cell okb' hbq').trans qc4
                          have IVQ := Lib.hid ((hivq.keep K5.out.keeps).mono (ok' := any) (fun _ _ _ => trivial))
                          have IVP := Lib.hid ((HIV.out.keep K5.out.keeps).mono (ok' := any) (fun _ _ _ => trivial))
                          have HP6 : Hid ((wr.alloc (.cells #[.slice Aq nq dq, .int .i64 q.2.w, .bool q.2.full, .slice Aq2 nq2 dq2] 50)).heap[wo.heap.size]? = some (.cells #[.slice A1 n1 d1, .int .i64 p.2.w, .bool p.2.full, .slice A2 n2 d2] 50 (0, 0))) := by
                            rw [Below.heap_alloc _ _ _ (Array.getElem?_eq_some_iff.1 HP5.out).1]; exact HP5.out
                          have p6 : (wr.alloc (.cells #[.slice Aq nq dq, .int .i64 q.2.w, .bool q.2.full, .slice Aq2 nq2 dq2] 50)).cell? ⟨wo.heap.size, 0, none⟩ = some (.slice A1 n1 d1) := by simp [World.cell?, HP6.out]
                          have HQ2 := Lib.hid hq2
                          have HQI := Lib.hid hqin
                          have HQ := Lib.hid hq
                          have HNO := Lib.hid hno.out
                          have al := (Below.refl wr.heap.size wr).alloc (Nat.le_refl _) (.cells #[.slice Aq nq dq, .int .i64 q.2.w, .bool q.2.full, .slice Aq2 nq2 dq2] 50)
                          have AL := Lib.hid al
                          clear al hq1 hq2 hq3 qc1 qc2 qc3 qc4 hivq hqin hq hno rb2
                          go_wp2_with fail
                          refine (intersect_any q.1 p.1 Aq A1 nq dq n1 d1 _ (IVQ.out.keep (Keeps.of_below AL.out)) (IVP.out.keep (Keeps.of_below AL.out)) HQ2.out HSL.out m2 l2 m4 l4).mono ?_
                          rintro e w6 ⟨A', n', c', z, rfl, hz, hb6⟩
                          have HZ := Lib.hid hz; clear hz
                          have HB6 : Hid (Below wc.heap.size wc w6) := (hbw.trans (AL.out.mono hbw.size)).trans (hb6.mono (by have := hbw.size; simp; omega))
                          clear hb6 hbw s1 s2 s3 s4 p6
                          by_cases hz0 : z = 0
                          · by_cases hn0 : n' = 0
                            · have hall := HZ.out.1 ⟨hz0, hn0⟩
                              have HA := Lib.hid hall; clear hall
                              subst hz0 hn0
                              go_wp2_with fail
                              go_roundw
                              case rel =>
                                refine ⟨l + 1, by omega, by go_num, HB6.out, ?_⟩
                                intro u hu
                                rw [take_get HQ.out] at hu
                                rcases List.mem_append.1 hu with hu | hu
                                · exact HNO.out u hu
                                · simp only [List.mem_cons, List.not_mem_nil, or_false] at hu
                                  rw [hu]
                                  exact HA.out
                              case measure => simp [intOf]; omega
                            · have hex : ∃ q ∈ r.ps.take k, ∃ v, has q.1 v ∧ has p.1 v := Classical.byContradiction fun hc => hn0 (HZ.out.2 (fun v h1 h2 => hc ⟨q, HQI.out, v, h1, h2⟩)).2
                              have HN : Hid (formedb (n + 1) r b = none) := HEQ.out.trans (fL_3 hex)
                              clear hex
                              subst hz0
                              have g1 : decide ((n' : Int) > 0) = true := by simp; omega
                              have g2 : decide ((0 : Int) < n') = true := by simp; omega
                              go_wp2_with fail
                              go_ret
                              exact fno HN.out (X.out.kp.trans (K3.out.trans (But.of_below HB6.out)))
                          · have hex : ∃ q ∈ r.ps.take k, ∃ v, has q.1 v ∧ has p.1 v := Classical.byContradiction fun hc => hz0 (HZ.out.2 (fun v h1 h2 => hc ⟨q, HQI.out, v, h1, h2⟩)).1
                            have HN : Hid (formedb (n + 1) r b = none) := HEQ.out.trans (fL_3 hex)
                            clear hex
                            have g1 : (z == 0) = false := by simpa using hz0
                            have g2 : (z != 0) = true := by simpa using hz0
                            go_wp2_with fail
                            go_ret
                            exact fno HN.out (X.out.kp.trans (K3.out.trans (But.of_below HB6.out)))
                        · have ek : l = k := by omega
                          have HNO : Hid (∀ q ∈ r.ps.take k, ∀ v, has q.1 v → ¬ has p.1 v) := by rw [← ek]; exact hno
                          have p1 : wr.cell? ⟨wo.heap.size, 1, none⟩ = some (.int .i64 p.2.w) := by simp [World.cell?, HP5.out]
                          have p2 : wr.cell? ⟨wo.heap.size, 2, none⟩ = some (.bool p.2.full) := by simp [World.cell?, HP5.out]
                          have p3 : wr.cell? ⟨wo.heap.size, 3, none⟩ = some (.slice A2 n2 d2) := by simp [World.cell?, HP5.out]
                          have HB5 : Hid (wr.heap[Bd]? = some (.cells #[.int .i64 b'] 3 (0, 0))) := (hbw.block Bd (Array.getElem?_eq_some_iff.1 HB3.out).1).trans HB3.out
                          have a5 : IntKind.i64.wrap ((n : Int) + 1 - 1) = n := by rw [IntWalk.i64_in _ (by omega)]; omega
                          have a6 : IntKind.i64.wrap (n : Int) = n := IntWalk.i64_in _ (by omega)
                          have hb0' := X.out.b0
                          have hb1' := X.out.b1
                          clear hno hbw rb2
                          go_wp2_with fail
                          refine (IH.out p.2 A2 n2 d2 b' wr (RgAt.keep K5.out.keeps p.2 HRE.out) l3 l5 HB5.out hb0' hb1' (HT.out.on ((X.out.kp.trans K5.out).below hTB hbl))).mono ?_
                          rintro e w7 ⟨rfl, k7, hb7⟩
                          have K7 : Hid (But Bd wo w7) := K5.out.trans k7
                          have HB7 := Lib.hid hb7
                          have HP7 : Hid (w7.heap[wo.heap.size]? = some (.cells #[.slice A1 n1 d1, .int .i64 p.2.w, .bool p.2.full, .slice A2 n2 d2] 50 (0, 0))) := (k7.block _ (by omega) (Array.getElem?_eq_some_iff.1 HP5.out).1).trans HP5.out
                          have p1 : w7.cell? ⟨wo.heap.size, 1, none⟩ = some (.int .i64 p.2.w) := by simp [World.cell?, HP7.out]
                          have p2 : w7.cell? ⟨wo.heap.size, 2, none⟩ = some (.bool p.2.full) := by simp [World.cell?, HP7.out]
                          have p3 : w7.cell? ⟨wo.heap.size, 3, none⟩ = some (.slice A2 n2 d2) := by simp [World.cell?, HP7.out]
                          clear k7 hb7 a5 a6
                          cases hfo : formedb n p.2 b' with
                          | none =>
                            have HN : Hid (formedb (n + 1) r b = none) := HEQ.out.trans (fL_4 hfo)
                            clear hfo
                            go_wp2_with fail
                            go_ret
                            exact fno HN.out (X.out.kp.trans K7.out)
                          | some b2 =>
                            have HFO := Lib.hid hfo; clear hfo
                            obtain ⟨hcan, hb20, hb21⟩ := formedb_canon (by omega) hb0' hb1' HFO.out
                            have HCAN := Lib.hid hcan; clear hcan
                            have hbud7 := HB7.out b2 HFO.out
                            have HBU7 := Lib.hid hbud7; clear hbud7
                            have HNN := Lib.hid (none_is HRE.out)
                            go_wp2_with fail
                            refine (nothing_any p.2.w p.2.full A2 n2 d2 w7).mono ?_
                            rintro e w8 ⟨rfl, hb8⟩
                            rw [HNN.out]
                            have K8 : Hid (But Bd wo w8) := K7.out.trans (But.of_below hb8)
                            have HP8 : Hid (w8.heap[wo.heap.size]? = some (.cells #[.slice A1 n1 d1, .int .i64 p.2.w, .bool p.2.full, .slice A2 n2 d2] 50 (0, 0))) := (hb8.block _ (Array.getElem?_eq_some_iff.1 HP7.out).1).trans HP7.out
                            have HBU8 : Hid (w8.heap[Bd]? = some (.cells #[.int .i64 b2] 3 (0, 0))) := (hb8.block Bd (Array.getElem?_eq_some_iff.1 HBU7.out).1).trans HBU7.out
                            have p1 : w8.cell? ⟨wo.heap.size, 1, none⟩ = some (.int .i64 p.2.w) := by simp [World.cell?, HP8.out]
                            have p2 : w8.cell? ⟨wo.heap.size, 2, none⟩ = some (.bool p.2.full) := by simp [World.cell?, HP8.out]
                            have p3 : w8.cell? ⟨wo.heap.size, 3, none⟩ = some (.slice A2 n2 d2) := by simp [World.cell?, HP8.out]
                            clear hb8 HNN
                            cases hnn : p.2.none
                            · have HNN := Lib.hid hnn; clear hnn
                              have HR8 : Hid (RgAt any w8 p.2 A2 n2) := RgAt.mono (fun _ _ _ => trivial) p.2 (RgAt.keep K8.out.keeps p.2 HRE.out)
                              have hs8 : T ≤ w8.heap.size := by have := K8.out.size; omega
                              go_wp2_with fail
                              refine (text_str p.2 HCAN.out A2 n2 d2 w8 HR8.out l3 l5 hs8 (HT.out.on ((X.out.kp.trans K8.out).below hTB hbl))).mono ?_
                              rintro e w9 ⟨tv, rfl, hcv, hb9⟩
                              have K9 : Hid (But Bd wo w9) := K8.out.trans (But.of_below hb9)
                              have HBU9 : Hid (w9.heap[Bd]? = some (.cells #[.int .i64 b2] 3 (0, 0))) := (hb9.block Bd (Array.getElem?_eq_some_iff.1 HBU8.out).1).trans HBU8.out
                              have HM := Lib.hid (X.out.seen.kept (K9.out.block (w.heap.size + 1) (by omega) (by omega)))
                              clear hb9
                              cases hsn : seenOf (r.ps.take k) (.string (F10.rg p.2))
                              · have hnot : ¬ ∃ q ∈ r.ps.take k, q.2 = p.2 := by
                                  rintro ⟨q, hq, e⟩
                                  have := of_decide_eq_false hsn
                                  exact this ⟨q, hq, by rw [e]⟩
                                have HNOT := Lib.hid hnot; clear hnot
                                go_wp2_with (first | (at_lookup; refine wpList_lookup_MB rfl _ _ 69 rfl 9 ks umap_sb (w.heap.size + 1) k (seenOf (r.ps.take k)) rfl HM.out _ (.string (F10.rg p.2)) rfl (str_key HCAN.out) ?_; rw [hsn]) | (at_mapUpdate; refine wpList_put_MB rfl _ _ _ 69 rfl 9 ks umap_sb (w.heap.size + 1) k (seenOf (r.ps.take k)) rfl HM.out (by unfold maxLen; omega) _ true (.string (F10.rg p.2)) rfl rfl (str_key HCAN.out) ?_; intro w10 hm10 hg10))
                                have hlt9 : Bd < w9.heap.size := (Array.getElem?_eq_some_iff.1 HBU9.out).1
                                have etk : r.ps.take (k + 1) = r.ps.take k ++ [p] := take_get HPP.out
                                have hseen : seenOf (r.ps.take (k + 1)) = fun l => if l = .string (F10.rg p.2) then true else seenOf (r.ps.take k) l := by
                                  funext l
                                  rw [etk]
                                  unfold seenOf
                                  by_cases hl : l = .string (F10.rg p.2)
                                  · rw [if_pos hl]
                                    exact decide_eq_true ⟨p, by simp, hl⟩
                                  · rw [if_neg hl]
                                    simp only [List.mem_append, List.mem_cons, List.not_mem_nil, or_false, or_and_right, exists_or, exists_eq_left, hl, or_false]
                                have FS1 : FS n r b Bd w (some ⟨bq, off, none⟩) m c (k + 1) b2 w10 := by
                                  refine ⟨(hg10.block Bd hlt9 (fun e => by injection e with e; omega)).trans HBU9.out, hb20, hb21, (X.out.kp.trans K9.out).grown hg10 (by omega), ?_, ?_, ?_, ?_⟩
                                  · rw [hg10.block w.heap.size (by have := K9.out.size; omega) (fun e => by injection e with e; omega), K9.out.block w.heap.size (by omega) (by omega)]
                                    exact X.out.box
                                  · rw [hseen]; exact hm10
                                  · intro u hu
                                    rw [etk] at hu
                                    rcases List.mem_append.1 hu with hu | hu
                                    · exact HPQ.out u hu
                                    · simp only [List.mem_cons, List.not_mem_nil, or_false] at hu
                                      rw [hu]
                                      exact ⟨fun e => hv0 (by rw [e] at hn1; simpa using hn1.symm), HSL.out, HCAN.out⟩
                                  · rw [HEQ.out, etk]
                                    refine fL_6 ?_ HBAD.out ?_ HFO.out ?_
                                    · rintro (e | e)
                                      · exact hv0 (by rw [e] at hn1; simpa using hn1.symm)
                                      · exact e HSL.out
                                    · rintro ⟨q, hq, v, h1, h2⟩
                                      exact HNO.out q hq v h1 h2
                                    · rintro (e | e)
                                      · rw [HNN.out] at e; cases e
                                      · exact HNOT.out e
                                have HFS := Lib.hid FS1
                                clear FS1 hseen etk hm10 hg10
                                go_wp2_with fail
                                go_roundw
                                case rel => exact ⟨k + 1, b2, by omega, by go_num, HFS.out⟩
                                case measure => simp [intOf]; omega
                              · have hin : ∃ q ∈ r.ps.take k, q.2 = p.2 := by
                                  obtain ⟨q, hq, e⟩ := of_decide_eq_true hsn
                                  injection e with e
                                  exact ⟨q, hq, (F10.rg_eq e).symm⟩
                                have HN : Hid (formedb (n + 1) r b = none) := HEQ.out.trans (fL_5 HFO.out (.inr hin))
                                clear hin
                                go_wp2_with (at_lookup; refine wpList_lookup_MB rfl _ _ 69 rfl 9 ks umap_sb (w.heap.size + 1) k (seenOf (r.ps.take k)) rfl HM.out _ (.string (F10.rg p.2)) rfl (str_key HCAN.out) ?_; rw [hsn])
                                go_ret
                                exact fno HN.out (X.out.kp.trans K9.out)
                            · have HN : Hid (formedb (n + 1) r b = none) := HEQ.out.trans (fL_5 HFO.out (.inl hnn))
                              clear hnn
                              go_wp2_with fail
                              go_ret
                              exact fno HN.out (X.out.kp.trans K8.out)
                · have HN : Hid (formedb (n + 1) r b = none) := HEQ.out.trans (fL_1 (.inr hsl))
                  have hd : decide (Slim p.1) = false := decide_eq_false hsl
                  generalize decide (Slim p.1) = dsl at hd
                  subst hd
                  clear hsl
                  go_wp2_with fail
                  go_ret
                  exact fno HN.out (X.out.kp.trans K1.out)
            · have ek : k = m := by omega
              have hEQ := X.out.eq
              rw [List.drop_of_length_le (by omega), formedL] at hEQ
              have HEQ := Lib.hid hEQ; clear hEQ
              go_wp2_with fail
              go_ret
              exact fyes HEQ.out X.out.kp X.out.bud
      · have hF : Hid (formedb (n + 1) r b = none) := by
          show formedb (n + 1) r b = none
          rw [formedb, if_pos (.inr h2)]
        have a2 : ((n : Int) + 1 == 0) = false := by simp; omega
        rw [h1]
        clear hlen h1
        go_enter Tryd.func20, Tryd.ntmps20
        go_wp2_with fail
        go_ret
        exact fno hF.out (keeps_alloc _ _)
    · have hF : Hid (formedb (n + 1) r b = none) := by
        show formedb (n + 1) r b = none
        rw [formedb, if_pos (.inl h1)]
      have g : (r.w == ((n + 1 : Nat) : Int)) = false := by simpa using h1
      have g' : (r.w != ((n + 1 : Nat) : Int)) = true := by simpa using h1
      have g2 : (r.w == ((n : Int) + 1)) = false := by simpa using h1
      have g2' : (r.w != ((n : Int) + 1)) = true := by simpa using h1
      clear hlen
      go_enter Tryd.func20, Tryd.ntmps20
      go_wp2_with fail
      go_ret
      exact fno hF.out (keeps_alloc _ _)

end Go.Proofs.YtbkgmahpfghheaaDoor
