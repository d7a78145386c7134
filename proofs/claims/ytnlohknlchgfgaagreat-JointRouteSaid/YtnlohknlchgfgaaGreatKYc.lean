/- Texts joined into one (wip/bin/pack.py): ClStep, CClash, CSafe. -/
import Derived.Test.YtnlohknlchgfgaaGreatKYb
import Derived.Test.YtnlohknlchgfgaaGreatKYa
/- config.Clash: what its function does with an item. -/
namespace Go.Proofs.YtnlohknlchgfgaaGreat
open Go.RowKit Go.Lib Go.Shelf

/-- a write into a block that may change -/
theorem KpX.set {bad : Nat → Obj → Prop} {W : World} {B : Nat} {T : TypeId} {cs : Array Value} (hB : Blk W B T cs) (hb : bad B (.cells cs T)) (i : Nat) (u : Value) : KpX bad W (W.setCell ⟨B, i, none⟩ u) :=
  ⟨rfl, rfl, rfl, by simp [World.setCell], fun k o hk hn => by
    by_cases h : k = B
    · subst h; rw [show W.heap[k]? = some (.cells cs T) from hB] at hk; cases hk; exact absurd hb hn
    · rw [Below.heap_setCell _ _ _ _ (by simpa using h)]; exact hk⟩
def badCl (B E : Nat) (k : Nat) (o : Obj) : Prop := (k = B ∧ ∃ cs, o = .cells cs 90) ∨ (k = E ∧ ∃ cs, o = .cells cs 35)
/-- what the two variables hold after some items -/
def clSt (l : List It) : CL × Int := match l.find? negI with | some x => (clI x, 0) | none => (cl0, 13)
def clInv (B E : Nat) (l : List It) (W : World) : Prop :=
  Blk W B 90 #[.int .i64 (clSt l).1.1, .int .u16 (sv (clSt l).1.2.1), .int .u16 (sv (clSt l).1.2.2.1), .int .u16 (sv (clSt l).1.2.2.2)] ∧ Blk W E 35 #[.int .i64 (clSt l).2]
theorem clSt_all {l : List It} (h : l.all (fun x => !negI x) = true) : clSt l = (cl0, 13) := by
  unfold clSt
  rw [show l.find? negI = none from List.find?_eq_none.2 fun x hx => by have := List.all_eq_true.1 h x hx; simpa using this]
theorem clSt_snoc {l : List It} (h : l.all (fun x => !negI x) = true) (x : It) : clSt (l ++ [x]) = if negI x = true then (clI x, 0) else (cl0, 13) := by
  have hl : l.find? negI = none := List.find?_eq_none.2 fun x hx => by have := List.all_eq_true.1 h x hx; simpa using this
  unfold clSt
  rw [List.find?_append, hl, Option.none_or]
  cases hx : negI x <;> simp [hx]
end Go.Proofs.YtnlohknlchgfgaaGreat
/- config.Clash. -/
namespace Go.Proofs.YtnlohknlchgfgaaGreat
open Go.RowKit Go.Lib Go.Shelf

theorem cB1 {w : World} {B : Nat} {T : TypeId} {v0 : Value} (h : Blk w B T #[v0]) : w.cell? ⟨B, 0, none⟩ = some v0 := h.cell 0 rfl
theorem clSt_upTo (l : List It) : clSt (upTo (fun x => !negI x) l) = clSt l := by
  induction l with
  | nil => rfl
  | cons x xs ih =>
    unfold upTo
    unfold clSt at ih ⊢
    cases hx : negI x
    · simp only [Bool.not_false, if_true, List.find?_cons, hx]; exact ih
    · simp [hx]
end Go.Proofs.YtnlohknlchgfgaaGreat
/- config.Safe. -/
namespace Go.Proofs.YtnlohknlchgfgaaGreat
open Go.RowKit Go.Lib Go.Shelf

end Go.Proofs.YtnlohknlchgfgaaGreat
