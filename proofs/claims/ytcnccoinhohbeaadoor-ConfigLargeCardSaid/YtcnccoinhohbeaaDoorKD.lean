/- Texts joined into one (wip/bin/pack.py): Trust, Rules. -/
import Derived.Test.YtcnccoinhohbeaaDoorKC
import Derived.Laws.ResultCell
/- trust: valid, rules, accepts. -/
namespace Go.Proofs.YtcnccoinhohbeaaDoor
open Go.RowKit Go.Lib Go.Shelf

def tvS (kd : Int) (M : S) (R Q : List S) (F m : List F2) : Int := if cvS kd M R Q F ≠ 0 then cvS kd M R Q F else fvS m
/-! ### what a client accepts -/
def acb (s r wt : S) (byz : List S) : Bool := byz.any fun b => s &&& r &&& ~~~(b ||| wt) == 0#16
def accT (s wt : S) (byz R : List S) : Bool := !(R.any fun r => acb s r wt byz)
end Go.Proofs.YtcnccoinhohbeaaDoor
/- trust: rules. -/
namespace Go.Proofs.YtcnccoinhohbeaaDoor
open Go.RowKit Go.Lib Go.Shelf

/-- a clash: rule, two sets, Byzantine servers -/
abbrev CL := Int × S × S × S
def vcl (x : CL) : Value := .agg #[.int .i64 x.1, .int .u16 (sv x.2.1), .int .u16 (sv x.2.2.1), .int .u16 (sv x.2.2.2)]
def cl0 : CL := (0, 0#16, 0#16, 0#16)
def p1 (r q wt b : S) : Bool := r &&& q &&& ~~~(b ||| wt) == 0#16
def p2 (p q b : S) : Bool := b != 0#16 && p &&& q &&& ~~~b == 0#16
def g1 (wt : S) (byz : List S) (r q : S) : Option CL := (byz.find? (p1 r q wt)).map fun b => (1, r, q, b)
def g2 (byz : List S) (p q : S) : Option CL := (byz.find? (p2 p q)).map fun b => (2, p, q, b)
def f1 (wt : S) (byz Q : List S) (r : S) : Option CL := Q.findSome? (g1 wt byz r)
def f2 (byz Q : List S) (p : S) : Option CL := Q.findSome? (g2 byz p)
def rulesS (kd : Int) (wt : S) (byz R Q : List S) : Option CL :=
  match R.findSome? (f1 wt byz Q) with
  | some x => some x
  | none => if kd ≠ 2 then none else Q.findSome? (f2 byz Q)
def RetCB (o : Option CL) (e : Ending) : Prop := e = .returned (.tuple #[vcl (o.getD cl0), .bool o.isSome])
theorem f_step {α : Type} (f : S → Option α) (l : List S) (i : Nat) (h : i < l.length) : (l.drop i).findSome? f = match f (at_ l i) with | some b => some b | none => (l.drop (i + 1)).findSome? f := by
  rw [drop_at l i h, List.findSome?_cons]; cases f (at_ l i) <;> rfl
theorem find_step (f : S → Bool) (l : List S) (i : Nat) (h : i < l.length) : (l.drop i).find? f = match f (at_ l i) with | true => some (at_ l i) | false => (l.drop (i + 1)).find? f := by
  rw [drop_at l i h, List.find?_cons]; cases f (at_ l i) <;> rfl
/-- a clash in a cell and a plain value come back -/
theorem resCL {fn : Func} {p u : Tmp} (h : fn.results = #[.cell p 42, .tmp u]) {tmps : Array Value} {W1 : World} {B : Nat} {x : CL} {v : Value} (hB : W1.heap.size = B) (T : TypeId)
    (tp : tmps.getD p undef = .pointer (some ⟨B, 0, none⟩)) (tu : tmps.getD u undef = v) :
    (results fn tmps).run Tryd.prog (W1.alloc (.cells #[.int .i64 x.1, .int .u16 (sv x.2.1), .int .u16 (sv x.2.2.1), .int .u16 (sv x.2.2.2)] T)) = .ok (.tuple #[vcl x, v]) (W1.alloc (.cells #[.int .i64 x.1, .int .u16 (sv x.2.1), .int .u16 (sv x.2.2.1), .int .u16 (sv x.2.2.2)] T)) := by
  subst hB
  rw [results_cell_tmp h, tp, tu]
  have k0 : ∀ i, (W1.alloc (.cells #[.int .i64 x.1, .int .u16 (sv x.2.1), .int .u16 (sv x.2.2.1), .int .u16 (sv x.2.2.2)] T)).cell? ⟨W1.heap.size, i, none⟩ = #[Value.int .i64 x.1, .int .u16 (sv x.2.1), .int .u16 (sv x.2.2.1), .int .u16 (sv x.2.2.2)][i]? := fun i => World.cell?_alloc_at _ _ _ _ rfl
  simp [go_sem, vcl, asAddr, loadVar, loadCells, loadCellsFrom]
end Go.Proofs.YtcnccoinhohbeaaDoor
