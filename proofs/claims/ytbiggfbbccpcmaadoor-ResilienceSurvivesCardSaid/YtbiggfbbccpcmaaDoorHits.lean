/- transversal.Hits and Least. -/
import Derived.Test.YtbiggfbbccpcmaaDoorIter
import Derived.Test.YtbiggfbbccpcmaaDoorValid
namespace Go.Proofs.YtbiggfbbccpcmaaDoor
open Go.RowKit Go.Lib Go.Shelf

/-- a set meets all sets of a list -/
def hitS (f : List S) (s : S) : Bool := !(f.any fun x => x &&& s == 0#16)

theorem hitsPred (s : S) (B : Nat) (l : List S) (w : World) (hc : w.cell? ⟨B, 0, none⟩ = some (.int .u16 (sv s))) :
    PredK Tryd.prog 64 #[.pointer (some ⟨B, 0, none⟩)] vs (fun x => x &&& s == 0#16) l w := fun W x _ hk => by
  have hc' := hk.cell hc
  show Calls Tryd.prog 64 #[.int .u16 (sv x), .pointer (some ⟨B, 0, none⟩)] W _
  go_enter Tryd.func64, Tryd.ntmps64
  go_wp2
  go_ret
  exact ⟨rfl, Keeps.refl _⟩

theorem hits_any (a : Option Addr) (n c : Nat) (l : List S) (s : S) (w : World) (h : Rd w a n c 1 (sl l)) :
    Calls Tryd.prog 42 #[.slice a n c, .int .u16 (sv s)] w fun e w' => e = .returned (.bool (hitS l s)) ∧ Keeps w w' := by
  have eg : ∀ args w, (callFunc 64 args).run Tryd.prog w = .ok (.enter 64 args) w := enters_of Tryd.func64 (by kernel_rfl) rfl
  have hK := (Keeps.refl w).alloc (.cells #[.int .u16 (sv s)] 31)
  have hcon := containsFuncS_any a n c l (w.alloc (.cells #[.int .u16 (sv s)] 31)) 64 #[.pointer (some ⟨w.heap.size, 0, none⟩)] (fun x => x &&& s == 0#16) (h.keep hK) eg
    (hitsPred s w.heap.size l _ (by rw [World.cell?_alloc_at _ _ _ _ rfl]; rfl))
  unfold hitS
  generalize (l.any fun x => x &&& s == 0#16) = r at hcon ⊢
  have HC := Lib.hid hcon; clear hcon eg h
  go_enter Tryd.func42, Tryd.ntmps42
  go_wp2_with (go_at_call 63; refine HC.out.mono ?_; rintro e w' ⟨rfl, K2⟩)
  go_ret
  exact ⟨rfl, hK.trans K2⟩
end Go.Proofs.YtbiggfbbccpcmaaDoor
