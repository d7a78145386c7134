/- Texts joined into one (wip/bin/pack.py): Made29. -/
import Derived.Test.YtijknodekomdfaaGreatDoorKZf
import Derived.Test.YtijknodekomdfaaGreatDoorKZg
import Derived.Deep.RegionHeld3
import Derived.Deep.RegionLaw
import Derived.Lib.QuietBelow
/- The reference's moved and Made (layer 29). -/
namespace Go.Proofs.YtijknodekomdfaaGreatDoor
open Go.RowKit Go.Lib Go.Shelf

def mvL (k : Nat) (l : List S) : List S := l.map fun (x : S) => (x <<< k : S)
def mvF (k : Nat) (x : F2) : F2 := (x.1 <<< k &&& 4095#16, x.2 <<< k &&& 4095#16)
theorem mvL_snoc (k : Nat) (l : List S) (i : Nat) (h : i < l.length) : mvL k (l.take (i + 1)) = mvL k (l.take i) ++ [at_ l i <<< k] := by
  unfold mvL; rw [take_at l i h, List.map_append]; rfl
@[go_sem] theorem sv_and4095 (x : S) : bits .and .u16 (sv x) 4095 = sv (x &&& 4095#16) := by
  have : (4095 : Int) = sv 4095#16 := rfl
  rw [this, sv_and]
def moveK (mv : Int) : Nat := (mv % 4).toNat
def made29 (nm : ByteArray) (kd N md : Int) (lr lw : List S) (lf : List F2) (mv : Int) : Cf :=
  ⟨nm, kdOf kd, fullS (nOf N) <<< moveK mv, mvL (moveK mv) (setsR md lr (nOf N)), mvL (moveK mv) (setsR md lw (nOf N)), normF ((madeF (nOf N) lf).map (mvF (moveK mv)))⟩
set_option maxRecDepth 20000 in
theorem resCfg1 {fn : Func} {p : Tmp} (h : fn.results = #[.cell p 36]) {tmps : Array Value} {W : World} {B : Nat} {z : CA}
    (hB : Blk W B 36 #[.string z.c.nm, .int .i64 z.c.kd, .int .u16 (sv z.c.M), .slice z.ar z.c.R.length z.cr, .slice z.aw z.c.Q.length z.cw, .slice z.af z.c.F.length z.cf])
    (tp : tmps.getD p undef = .pointer (some ⟨B, 0, none⟩)) : (results fn tmps).run Tryz.prog W = .ok (vg z) W :=
  results_cell_row h _ _ _ _ _ _ _ tp hB rfl rfl rfl
theorem Aft.name {W2 W : World} {B : Nat} {u0 u1 u2 : Value} {a1 : Option Addr} {n1 c1 : Nat} {L1 : List Value} {a2 : Option Addr} {n2 c2 : Nat} {L2 : List Value} (h : Aft W2 B u0 u1 u2 a1 n1 c1 L1 a2 n2 c2 L2 W) :
    ∃ B' x1 y1 x2 y2, B = B' ∧ a1 = x1 ∧ c1 = y1 ∧ a2 = x2 ∧ c2 = y2 ∧ Aft W2 B' u0 u1 u2 x1 n1 y1 L1 x2 n2 y2 L2 W := ⟨B, a1, c1, a2, c2, rfl, rfl, rfl, rfl, rfl, h⟩
def RetG (w : World) (c : Cf) (e : Ending) (w' : World) : Prop := ∃ z : CA, e = .returned (vg z) ∧ z.c = c ∧ RoG w' z ∧ Keeps w w'
end Go.Proofs.YtijknodekomdfaaGreatDoor
