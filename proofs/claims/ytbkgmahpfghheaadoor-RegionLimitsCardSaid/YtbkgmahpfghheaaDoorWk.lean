/- Look-up and store in maps of the call's own whose elements are bools or ints; a region's text as a string. -/
import Derived.Test.YtbkgmahpfghheaaDoorWj
import Derived.Maps.OwnSet
import Derived.Maps.OwnOps
import Derived.Laws.IdiomStrings
namespace Go.Proofs.YtbkgmahpfghheaaDoor
open Go.RowKit
open Ps
open Go.Maps (Keyed)

/-! ### A map whose elements are bools -/
theorem plainElem_bool_inv {P : Program} {e : TypeId} (he : P.underlying e = some .bool) {v : Value} {z : DataW Unit × List MemPlace} (h : plainElem P e v = some z) : ∃ a, v = .bool a ∧ z = (.lit (.bool a), []) := by
  unfold plainElem at h
  rw [he] at h
  cases v <;> simp at h
  exact ⟨_, rfl, h.symm⟩

/-- Block M is a map of at most n entries, and at the keys that S names it holds true. -/
def MB (k : TypeId) (w : World) (M n : Nat) (S : Lit → Bool) : Prop :=
  ∃ D : DataW Unit, w.ownsMap Tryd.prog k (plainElem Tryd.prog 4) M n D ∧ ∀ l, D.atKey l (.lit (.bool false)) = .lit (.bool (S l))

theorem ub : Tryd.prog.underlying 4 = some .bool := by kernel_rfl
theorem zerob (w : World) : (zeroValue 4).run Tryd.prog w = .ok (.bool false) w := by kernel_rfl

theorem MB.made (k : TypeId) (w : World) : MB k (w.alloc (.map #[] 0)) w.heap.size 0 (fun _ => false) := ⟨.map [], World.ownsMap_made _ _ _ _, fun _ => rfl⟩
theorem MB.kept {k : TypeId} {w w' : World} {M n : Nat} {S : Lit → Bool} (h : MB k w M n S) (hb : w'.heap[M]? = w.heap[M]?) : MB k w' M n S := by
  obtain ⟨D, ⟨es, cl, a, b⟩, d⟩ := h
  exact ⟨D, ⟨es, cl, hb.trans a, b⟩, d⟩
theorem MB.lt {k : TypeId} {w : World} {M n : Nat} {S : Lit → Bool} (h : MB k w M n S) : M < w.heap.size := by obtain ⟨D, a, _⟩ := h; exact a.lt
theorem MB.look {k t : TypeId} {w : World} {M n : Nat} {S : Lit → Bool} (h : MB k w M n S) (K : Keyed Tryd.prog k) (ht : Tryd.prog.underlying t = some (.map k 4)) {key : Value} {kl : Lit} (hkey : keyOf Tryd.prog k key = some kl) :
    (Instr.lookup t (.map (some M)) key false).run Tryd.prog w = .ok (.bool (S kl)) w := by
  obtain ⟨D, a, d⟩ := h
  obtain ⟨v, ps, hrun, hv⟩ := a.lookup K ht (zerob w) (plainElem_bool ub false) hkey
  obtain ⟨b, rfl, hz⟩ := plainElem_bool_inv ub hv
  rw [d] at hz
  simp at hz
  rw [hrun, hz.1]

theorem wpList_lookup_MB {w : World} {ops : Array Oper} {rest : List Oper} {o : Oper} {a : Act} {Q : Exit → Act → World → Prop}
    (hg : o.guard = none) (m x : Operand) (t : TypeId) (hop : o.op = Op.lookup t m x false) (k : TypeId) (K : Keyed Tryd.prog k) (ht : Tryd.prog.underlying t = some (.map k 4)) (M n : Nat) (S : Lit → Bool)
    (hm : a.eval m = .map (some M)) (hown : MB k w M n S) (key : Value) (kl : Lit) (hx : a.eval x = key) (hkey : keyOf Tryd.prog k key = some kl)
    (hK : wpList Tryd.prog ops Q rest (a.put o.dst (.bool (S kl))) w) :
    wpList Tryd.prog ops Q (o :: rest) a w := by
  refine wpList_plain hg fun K' hK' => ?_
  have hrun := hown.look K ht hkey
  unfold Oper.wp
  simp [execOp, hop, hm, hx, hrun, Result.andThen]
  exact hK' _ _ hK

open Classical in
theorem wpList_put_MB {w : World} {ops : Array Oper} {rest : List Oper} {o : Oper} {a : Act} {Q : Exit → Act → World → Prop}
    (hg : o.guard = none) (m x v : Operand) (t : TypeId) (hop : o.op = Op.mapUpdate t m x v) (k : TypeId) (K : Keyed Tryd.prog k) (ht : Tryd.prog.underlying t = some (.map k 4)) (M n : Nat) (S : Lit → Bool)
    (hm : a.eval m = .map (some M)) (hown : MB k w M n S) (hn : n < maxLen) (key : Value) (b : Bool) (kl : Lit) (hx : a.eval x = key) (hv : a.eval v = .bool b) (hkey : keyOf Tryd.prog k key = some kl)
    (hK : ∀ w', MB k w' M (n + 1) (fun l => if l = kl then b else S l) → w.grownBy w' (some M) → wpList Tryd.prog ops Q rest (a.put o.dst undef) w') :
    wpList Tryd.prog ops Q (o :: rest) a w := by
  obtain ⟨D, own, d⟩ := hown
  refine wpList_mapUpdate_own w hg m x v t hop k 4 K ht (plainElem Tryd.prog 4) M n D hm own hn key (.bool b) kl hx hv hkey (.lit (.bool b)) [] (plainElem_bool ub b) (fun w' h1 h2 => hK w' ⟨_, h1, fun l => ?_⟩ h2)
  by_cases h : l = kl
  · subst h
    rw [Maps.atKey_put_same own.isMap (K.key hkey)]; simp
  · rw [Maps.atKey_put_other h, d]; simp [h]

/-! ### A map whose elements are ints -/
def MI (k : TypeId) (w : World) (M n : Nat) (g : Lit → Option Int) : Prop :=
  ∃ D : DataW Unit, w.ownsMap Tryd.prog k (plainElem Tryd.prog 3) M n D ∧ ∀ l, Maps.has D l = (g l).isSome ∧ D.atKey l (.lit (.int .i64 0)) = .lit (.int .i64 ((g l).getD 0))

theorem ui : Tryd.prog.underlying 3 = some (.int .i64) := by kernel_rfl
theorem zeroi (w : World) : (zeroValue 3).run Tryd.prog w = .ok (.int .i64 0) w := by kernel_rfl

theorem MI.made (k : TypeId) (w : World) : MI k (w.alloc (.map #[] 0)) w.heap.size 0 (fun _ => none) := ⟨.map [], World.ownsMap_made _ _ _ _, fun _ => ⟨rfl, rfl⟩⟩
theorem MI.kept {k : TypeId} {w w' : World} {M n : Nat} {S : Lit → Option Int} (h : MI k w M n S) (hb : w'.heap[M]? = w.heap[M]?) : MI k w' M n S := by
  obtain ⟨D, ⟨es, cl, a, b⟩, d⟩ := h
  exact ⟨D, ⟨es, cl, hb.trans a, b⟩, d⟩
theorem MI.lt {k : TypeId} {w : World} {M n : Nat} {S : Lit → Option Int} (h : MI k w M n S) : M < w.heap.size := by obtain ⟨D, a, _⟩ := h; exact a.lt

theorem wpList_lookup_MI {w : World} {ops : Array Oper} {rest : List Oper} {o : Oper} {a : Act} {Q : Exit → Act → World → Prop}
    (hg : o.guard = none) (m x : Operand) (t : TypeId) (hop : o.op = Op.lookup t m x true) (k : TypeId) (K : Keyed Tryd.prog k) (ht : Tryd.prog.underlying t = some (.map k 3)) (M n : Nat) (g : Lit → Option Int)
    (hm : a.eval m = .map (some M)) (hown : MI k w M n g) (key : Value) (kl : Lit) (hx : a.eval x = key) (hkey : keyOf Tryd.prog k key = some kl)
    (hK : wpList Tryd.prog ops Q rest (a.put o.dst (.tuple #[.int .i64 ((g kl).getD 0), .bool (g kl).isSome])) w) :
    wpList Tryd.prog ops Q (o :: rest) a w := by
  obtain ⟨D, own, d⟩ := hown
  refine wpList_lookup_own_ok_int w hg m x t hop k 3 .i64 K ht ui (zeroi w) M n D hm own key kl hx hkey (fun c hc _ => ?_)
  rw [(d kl).1]
  rw [(d kl).2] at hc
  have : (g kl).getD 0 = c := by simpa using hc
  rw [← this]
  exact hK

open Classical in
theorem wpList_put_MI {w : World} {ops : Array Oper} {rest : List Oper} {o : Oper} {a : Act} {Q : Exit → Act → World → Prop}
    (hg : o.guard = none) (m x v : Operand) (t : TypeId) (hop : o.op = Op.mapUpdate t m x v) (k : TypeId) (K : Keyed Tryd.prog k) (ht : Tryd.prog.underlying t = some (.map k 3)) (M n : Nat) (g : Lit → Option Int)
    (hm : a.eval m = .map (some M)) (hown : MI k w M n g) (hn : n < maxLen) (key : Value) (b : Int) (kl : Lit) (hx : a.eval x = key) (hv : a.eval v = .int .i64 b) (hwf : (Lit.int .i64 b).wf = true) (hkey : keyOf Tryd.prog k key = some kl)
    (hK : ∀ w', MI k w' M (n + 1) (fun l => if l = kl then some b else g l) → w.grownBy w' (some M) → wpList Tryd.prog ops Q rest (a.put o.dst undef) w') :
    wpList Tryd.prog ops Q (o :: rest) a w := by
  obtain ⟨D, own, d⟩ := hown
  refine wpList_mapUpdate_own w hg m x v t hop k 3 K ht (plainElem Tryd.prog 3) M n D hm own hn key (.int .i64 b) kl hx hv hkey (.lit (.int .i64 b)) [] (plainElem_int ui hwf) (fun w' h1 h2 => hK w' ⟨_, h1, fun l => ?_⟩ h2)
  by_cases h : l = kl
  · subst h
    rw [Maps.atKey_put_same own.isMap (K.key hkey), Maps.has_put_same own.isMap (K.key hkey)]
    simp
  · rw [Maps.atKey_put_other h, Maps.has_put_other h]
    simp only [h, if_false]
    exact d l

/-! ### A region's text as a string -/
def str (r : Rg) : ByteArray := ⟨(F10.rg r).toArray⟩
theorem str_inj {a b : Rg} : str a = str b ↔ a = b := by
  constructor
  · intro h
    have : (F10.rg a).toArray = (F10.rg b).toArray := congrArg ByteArray.data h
    exact F10.rg_eq (by simpa using congrArg Array.toList this)
  · rintro rfl; rfl

theorem rg_len (r : Rg) : Canon r → (F10.rg r).length ≤ 45 + r.cnt * 1000000 := by
  refine Rg.ind (P := fun r => Canon r → (F10.rg r).length ≤ 45 + r.cnt * 1000000) (fun wd f ps ih h => ?_) r
  have hw : -9223372036854775808 ≤ wd ∧ wd ≤ 9223372036854775807 := by
    obtain ⟨n, h12, e, _⟩ := h.w
    simp only [Rg.w_mk] at e
    omega
  have hpc : ps.length ≤ cntL ps := by
    clear ih h
    induction ps with
    | nil => simp
    | cons q t ih => rw [cntL_cons]; simp only [List.length_cons]; omega
  have h64 : cntL ps ≤ 64 := by obtain ⟨n, _, _, h, _⟩ := h; rwa [Rg.cnt_ps] at h
  have key : ∀ (ps : Pts), (∀ p ∈ ps, Slim p.1 ∧ (F10.rg p.2).length ≤ 45 + p.2.cnt * 1000000) → (F10.rgs ps).length ≤ cntL ps * 1000000 := by
    intro ps
    induction ps with
    | nil => intro _; simp [Fmt.rgs]
    | cons p t ih =>
      intro hp
      obtain ⟨vs, r⟩ := p
      obtain ⟨h1, h2⟩ := hp _ (List.mem_cons_self ..)
      have h3 := ih (fun p hp' => hp p (List.mem_cons_of_mem _ hp'))
      rw [cntL_cons]
      simp only [Fmt.rgs, List.length_append]
      have l1 := num_len vs.length (by omega) (by have := h1.2; simp only at this; omega)
      have key2 : ∀ (l : List Iv), (∀ x ∈ l, x.lo.text.size ≤ 64 ∧ x.hi.text.size ≤ 64) → (F10.ivs l).length ≤ l.length * 9000 := by
        intro l
        induction l with
        | nil => intro _; simp [Fmt.ivs]
        | cons x l ih =>
          intro hx
          have a := hx x (List.mem_cons_self ..)
          have b := ih (fun y hy => hx y (List.mem_cons_of_mem _ hy))
          have c := val_len x.lo (by omega)
          have d := val_len x.hi (by omega)
          simp only [Fmt.ivs, Fmt.iv, List.length_append, List.length_cons]
          have e : (if x.op = true then [(111 : UInt8)] else []).length ≤ 1 := by split <;> simp
          omega
      have l2 := key2 vs (fun x hx => Ok.mem_ok h1.1 hx)
      have l3 := h1.2
      simp only at l2 l3 h2 ⊢
      omega
  have hk := key ps (fun p hp => ⟨(Canon.part h hp).2, ih p hp (Canon.part h hp).1⟩)
  have l1 := num_len wd hw.1 hw.2
  have l2 := num_len ps.length (by omega) (by omega)
  rw [Rg.cnt_ps]
  simp only [Fmt.rg, List.length_append, Rg.ps_mk]
  have e : (if f = true then [(102 : UInt8)] else []).length ≤ 1 := by split <;> simp
  omega

theorem rg_lim {r : Rg} (h : Canon r) : (F10.rg r).length ≤ 64000045 := by
  have := rg_len r h
  obtain ⟨_, _, _, h, _⟩ := h
  omega
theorem str_size {r : Rg} (h : Canon r) : (str r).size ≤ 64000045 := by
  have := rg_lim h
  show (F10.rg r).toArray.size ≤ _
  simpa using this
theorem str_key {r : Rg} (h : Canon r) : keyOf Tryd.prog 9 (.string (str r)) = some (.string (F10.rg r)) := by
  have := Go.WideMaps.keyOf_string_mk (P := Tryd.prog) (k := 9) (by kernel_rfl) (s := str r) (by have := str_size h; unfold maxLen; omega)
  rw [this]
  simp [str]

theorem own_string {w : World} {B : Nat} {v : Value} {l : List UInt8} (h : w.ownsRow B 5 1 v l.length (Lib.byteCells l)) (hl : l ≠ []) : (convert 67 9 v).run Tryd.prog w = .ok (.string ⟨l.toArray⟩) w := by
  obtain ⟨_, ⟨_, h0⟩ | ⟨g, cap, cur, rfl, _, hh, _, _, _, ht⟩⟩ := h
  · exact absurd (List.length_eq_zero_iff.1 h0) hl
  · refine run_convert_bytes_back w 67 9 5 ⟨g, 0, none⟩ cap l (by kernel_rfl) (by kernel_rfl) (by kernel_rfl) (fun j hj => ?_)
    have e : cur.toList[j]? = (Lib.byteCells l)[j]? := by rw [← ht, Nat.mul_one, List.getElem?_take_of_lt hj]
    have ea : (⟨g, 0, none⟩ : Addr).add j = ⟨g, j, none⟩ := by
      unfold Addr.add
      split
      · rename_i h0; rw [h0]
      · simp
    rw [ea]
    simp only [World.cell?, hh]
    rw [← Array.getElem?_toList, e]
    simp [Lib.byteCells, hj]

def StrPost (r : Rg) (w : World) (e : Ending) (w' : World) : Prop :=
  ∃ v, e = .returned v ∧ (convert 67 9 v).run Tryd.prog w' = .ok (.string (str r)) w' ∧ Below w.heap.size w w'

theorem text_str (r : Rg) (h : Canon r) (A : Option Addr) (m c : Nat) (w : World) (hr : RgAt any w r A m) (hmc : m ≤ c) (hc : c ≤ 9223372036854775807) {B : Nat} (hB : B ≤ w.heap.size) (hT : TabB B w) :
    Calls Tryd.prog 26 #[.slice none 0 0, .agg #[.int .i64 r.w, .bool r.full, .slice A m c]] w (StrPost r w) := by
  refine (text_any w.heap.size r h A m c (.slice none 0 0) [] w (RgAt.mono (fun i hi _ => hi) r hr) hmc hc ⟨rfl, .inl ⟨rfl, rfl⟩⟩ (hT.mono hB) (Nat.le_refl _) (by have := rg_lim h; simp only [List.length_nil]; omega)).mono ?_
  rintro e w' ⟨v, rfl, ho, hb, _⟩
  refine ⟨v, rfl, ?_, hb⟩
  rw [List.nil_append] at ho
  refine own_string ho ?_
  obtain ⟨a, b, c⟩ := r
  rw [Fmt.rg, Fmt.num]
  simp

end Go.Proofs.YtbkgmahpfghheaaDoor
