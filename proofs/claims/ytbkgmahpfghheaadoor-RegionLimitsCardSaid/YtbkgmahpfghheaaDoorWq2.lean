/- Region 37 of combine: the interval is appended to its part. -/
import Derived.Test.YtbkgmahpfghheaaDoorWt
import Derived.Deep.RegionLaw
import Derived.Deep.RegionHeld3
namespace Go.Proofs.YtbkgmahpfghheaaDoor
open Go.RowKit
open Ps

/-! ### Region 37 of combine as a statement of its own: the interval is appended -/
def findR (n : Nat) : Code → Option Code
  | .region id ops b => if id = n then some (.region id ops b) else none
  | .seq a b => match findR n a with
    | some c => some c
    | none => findR n b
  | .cond _ a b => match findR n a with
    | some c => some c
    | none => findR n b
  | .block _ c => findR n c
  | .loop c => findR n c
  | .scope c => findR n c
  | _ => none
noncomputable def pushCode : Code := ((Tryd.f18.body.bind (findR 37)).getD .skip)

set_option maxRecDepth 100000 in
set_option maxHeartbeats 40000000 in
theorem push_region {Q : Exit → Act → World → Prop} {b0 M1 : Nat} {n1 : Int} {ac bc : List Value} {w4 : World} {i1 i2 : Nat} {ps : Pts} {us : List (Value × Value)} {known byText : Lit → Option Int} {w12 : World} {P j : Nat} {p : Vl} {x y : Int} {q : List Iv × Rg} {ua ub : Value} {g cap : Nat}
    (hX : Hid (MW b0 M1 n1 ac bc w4 i1 i2 ps us (.slice (some ⟨g, 0, none⟩) ps.length cap) known byText w12)) (hPB : Hid (PB P p x y w12)) (hq : Hid (ps[j]? = some q)) (hu : Hid (us[j]? = some (ua, ub)))
    (hvu : Hid (∀ i, ua.ownBlock = some i → M1 + 1 + 1 ≤ i ∧ (Value.slice (some ⟨g, 0, none⟩) ps.length cap).ownBlock ≠ some i)) (huP : Hid (∀ i, ua.ownBlock = some i → i ≠ P ∧ i ≠ P + 1)) (hgP : Hid (g ≠ P ∧ g ≠ P + 1)) (hle : q.1.length ≤ 20000)
    (x0 x1 x2 x3 x4 x5 x6 x7 x9 x10 x11 x12 x13 x14 x15 x17 x19 x20 x21 x22 x23 x24 x25 x26 x27 x28 x29 x30 x31 x32 x33 x34 x35 x36 x37 x38 x39 x40 x41 x42 x43 x44 x45 x46 x47 x48 x49 x50 x51 x52 x53 x54 x55 x56 x57 x58 x59 x60 x61 x62 x63 x64 x65 x66 x67 x68 x69 x70 x71 x72 x73 x74 x75 x76 x77 x78 x79 x80 x81 x82 x83 x84 x85 x86 x87 x88 x89 x90 x91 x92 x93 x94 x95 x96 x97 x98 x99 x100 x101 x102 x103 x104 x105 x106 x107 x108 x109 x110 x111 x112 x113 x114 x115 x116 x117 x118 x119 x120 x121 x122 x123 x124 x125 x126 x127 x128 x129 x130 x131 x132 x133 x134 x135 x136 x137 x138 x139 x140 x141 x142 x143 x144 x145 x146 x147 x148 x149 x150 x151 x152 x153 x154 x155 x156 x157 x158 x159 x160 x161 x162 x163 x164 x165 x166 x167 x168 x169 x170 x171 x172 x173 x174 x175 x176 x177 x178 x179 x180 x181 x182 : Value)
    (hQ : ∀ (y152 y153 y154 y155 y156 y157 y158 y159 y160 y161 y162 y163 y164 y165 y166 : Value) (w' : World), (∃ us2, Hid (PB P p x y w') ∧ Hid (MW b0 M1 n1 ac bc w4 i1 i2 (ps.set j (q.1 ++ [⟨p, .zero, true⟩], q.2)) us2 (.slice (some ⟨g, 0, none⟩) ps.length cap) known byText w') ∧ Kb (fun i => M1 + 1 + 1 ≤ i) w12 w') → Q .normal ⟨#[x0, x1, x2, x3, x4, x5, x6, x7, .pointer (some ⟨b0 + 1 + 1 + 1, 0, none⟩), x9, x10, x11, x12, x13, x14, x15, .pointer (some ⟨P, 0, none⟩), x17, .int .i64 (j : Int), x19, x20, x21, x22, x23, x24, x25, x26, x27, x28, x29, x30, x31, x32, x33, x34, x35, x36, x37, x38, x39, x40, x41, x42, x43, x44, x45, x46, x47, x48, x49, x50, x51, x52, x53, x54, x55, x56, x57, x58, x59, x60, x61, x62, x63, x64, x65, x66, x67, x68, x69, x70, x71, x72, x73, x74, x75, x76, x77, x78, x79, x80, x81, x82, x83, x84, x85, x86, x87, x88, x89, x90, x91, x92, x93, x94, x95, x96, x97, x98, x99, x100, x101, x102, x103, x104, x105, x106, x107, x108, x109, x110, x111, x112, x113, x114, x115, x116, x117, x118, x119, x120, x121, x122, x123, x124, x125, x126, x127, x128, x129, x130, x131, x132, x133, x134, x135, x136, x137, x138, x139, x140, x141, x142, x143, x144, x145, x146, x147, x148, x149, x150, x151, y152, y153, y154, y155, y156, y157, y158, y159, y160, y161, y162, y163, y164, y165, y166, x167, x168, x169, x170, x171, x172, x173, x174, x175, x176, x177, x178, x179, x180, x181, x182], []⟩ w') :
    Code.wp Tryd.prog pushCode Q ⟨#[x0, x1, x2, x3, x4, x5, x6, x7, .pointer (some ⟨b0 + 1 + 1 + 1, 0, none⟩), x9, x10, x11, x12, x13, x14, x15, .pointer (some ⟨P, 0, none⟩), x17, .int .i64 (j : Int), x19, x20, x21, x22, x23, x24, x25, x26, x27, x28, x29, x30, x31, x32, x33, x34, x35, x36, x37, x38, x39, x40, x41, x42, x43, x44, x45, x46, x47, x48, x49, x50, x51, x52, x53, x54, x55, x56, x57, x58, x59, x60, x61, x62, x63, x64, x65, x66, x67, x68, x69, x70, x71, x72, x73, x74, x75, x76, x77, x78, x79, x80, x81, x82, x83, x84, x85, x86, x87, x88, x89, x90, x91, x92, x93, x94, x95, x96, x97, x98, x99, x100, x101, x102, x103, x104, x105, x106, x107, x108, x109, x110, x111, x112, x113, x114, x115, x116, x117, x118, x119, x120, x121, x122, x123, x124, x125, x126, x127, x128, x129, x130, x131, x132, x133, x134, x135, x136, x137, x138, x139, x140, x141, x142, x143, x144, x145, x146, x147, x148, x149, x150, x151, x152, x153, x154, x155, x156, x157, x158, x159, x160, x161, x162, x163, x164, x165, x166, x167, x168, x169, x170, x171, x172, x173, x174, x175, x176, x177, x178, x179, x180, x181, x182], []⟩ w12 := by
  conv => arg 2; whnf
  refine wp_region_noPanic ?_
  have hj : j < ps.length := (List.getElem?_eq_some_iff.1 hq.out).1
  have hjI : (j : Int) < (ps.length : Nat) := by omega
  obtain ⟨t0', t1', t2', _⟩ := hPB.out.cells
  obtain ⟨_, _, o2, _⟩ := hX.out.box.ocells
  have val : w12.cell? ⟨g, j * 4, none⟩ = some ua := (hX.out.val_cell hq.out hu.out rfl).1
  have vfr : w12.frozen? ⟨g, j * 4, none⟩ = false := (hX.out.val_cell hq.out hu.out rfl).2
  have HO2 : Hid (w12.drew.ownsRow (M1 + 1 + 1) 41 7 ua q.1.length (ivsCells q.1)) := own_kept_of (hX.out.out.vals j q _ hq.out hu.out) (fun k e => rfl)
  have HB2 : Hid (M1 + 1 + 1 ≤ w12.drew.heap.size) := hX.out.size
  have hby := bytes72 (show q.1.length ≤ 9000000 by omega)
  have KA := (Below.refl w12.heap.size w12).alloc (Nat.le_refl _) (.cells #[.int .i64 p.kind, .int .i64 p.num, .string p.text, .int .i64 0, .int .i64 0, .string ⟨#[]⟩, .bool true] 41)
  have o2' := (KA.cell (World.block_lt_of_cell? _ _ o2)).trans o2
  have val' := (KA.cell (World.block_lt_of_cell? _ _ val)).trans val
  clear KA
  have HQQ := Lib.hid hQ
  clear hQ
  go_region_law (refine step_append_el (W := w12.drew) (M1 + 1 + 1) rfl _ _ 29 41 (.agg #[.int .i64 0, .int .i64 0, .string ⟨#[]⟩, .int .i64 0, .int .i64 0, .string ⟨#[]⟩, .bool false]) 7 72 rfl Tryd.underlying29 info_iv rfl (Nat.succ_pos _) (Nat.succ_pos _) ua q.1.length (ivsCells q.1) (Iv.cells ⟨p, .zero, true⟩) rfl _ rfl rfl rfl (iv_one _) HO2.out HB2.out hby ?_; intro v2 w13 hown hgr hat; obtain ⟨gz, capz, hvz, _, _⟩ := own_form hown; subst hvz; have KX := push_facts hX.out hPB.out hq.out hu.out hvu.out huP.out hgP.out hown hgr hat; obtain ⟨ga, gb, gc, gd, KX⟩ := KX; have KXH := Lib.hid KX; clear KX hown hgr hat)
  all_goals exact HQQ.out _ _ _ _ _ _ _ _ _ _ _ _ _ _ _ _ KXH.out

end Go.Proofs.YtbkgmahpfghheaaDoor
