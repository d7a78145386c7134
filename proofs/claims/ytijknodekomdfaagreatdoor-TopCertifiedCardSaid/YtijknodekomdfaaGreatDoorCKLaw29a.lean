/- Texts joined into one, what is needed of them (a program of ours). -/
import Derived.Test.YtijknodekomdfaaGreatDoorCKH
import Derived.BigQuiet
import Derived.Test.YtijknodekomdfaaGreatDoorCKZh
import Derived.Lib.QuietBelow
import Derived.Deep.DeepCutAuto
namespace Go.Proofs.YtijknodekomdfaaGreatDoor
open Go.RowKit Go.Lib Go.Shelf

/-- the cells of a boxed description of layer 29 -/
structure D29 where
  kd : Int
  N : Int
  md : Int
  mv : Int
  lr : List S
  lw : List S
  lf : List F2
  ar : Option Addr
  cr : Nat
  aw : Option Addr
  cw : Nat
  af : Option Addr
  cf : Nat
structure OkD (w : World) (d : D29) : Prop where
  r : Rd w d.ar d.lr.length d.cr 1 (sl d.lr)
  q : Rd w d.aw d.lw.length d.cw 1 (sl d.lw)
  f : Rd w d.af d.lf.length d.cf 2 (fl d.lf)
  k0 : 0 ≤ d.kd
  k1 : d.kd ≤ 255
  n0 : 0 ≤ d.N
  n1 : d.N ≤ 255
  m0 : 0 ≤ d.md
  m1 : d.md ≤ 255
  v0 : 0 ≤ d.mv
theorem OkD.keep {w w' : World} {d : D29} (h : OkD w d) (k : Keeps w w') : OkD w' d := ⟨h.r.keep k, h.q.keep k, h.f.keep k, h.k0, h.k1, h.n0, h.n1, h.m0, h.m1, h.v0⟩
abbrev cD (d : D29) : Array Value := #[.int .u8 d.kd, .int .u8 d.N, .int .u8 d.md, .slice d.ar d.lr.length d.cr, .slice d.aw d.lw.length d.cw, .slice d.af d.lf.length d.cf, .int .u8 d.mv]
theorem Blk.c7 {w : World} {B : Nat} {T : TypeId} {d : D29} (h : Blk w B T (cD d)) :
    (w.cell? ⟨B, 0, none⟩ = some (.int .u8 d.kd) ∧ w.cell? ⟨B, 1, none⟩ = some (.int .u8 d.N) ∧ w.cell? ⟨B, 2, none⟩ = some (.int .u8 d.md) ∧ w.cell? ⟨B, 3, none⟩ = some (.slice d.ar d.lr.length d.cr) ∧ w.cell? ⟨B, 4, none⟩ = some (.slice d.aw d.lw.length d.cw) ∧ w.cell? ⟨B, 5, none⟩ = some (.slice d.af d.lf.length d.cf) ∧ w.cell? ⟨B, 6, none⟩ = some (.int .u8 d.mv)) :=
  ⟨h.cell 0 rfl, h.cell 1 rfl, h.cell 2 rfl, h.cell 3 rfl, h.cell 4 rfl, h.cell 5 rfl, h.cell 6 rfl⟩
theorem RoG.set6 {w : World} {z : CA} (h : RoG w z) {B : Nat} {cs : Array Value} (hB : Blk w B 36 cs) (v0 v1 v2 v3 v4 v5 : Value) :
    RoG ((((((w.setCell ⟨B, 0, none⟩ v0).setCell ⟨B, 1, none⟩ v1).setCell ⟨B, 2, none⟩ v2).setCell ⟨B, 3, none⟩ v3).setCell ⟨B, 4, none⟩ v4).setCell ⟨B, 5, none⟩ v5) z := RowC.set6 h hB (by decide) (by decide) v0 v1 v2 v3 v4 v5
end Go.Proofs.YtijknodekomdfaaGreatDoor
