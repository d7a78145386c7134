/- transversal.Hits and Least. -/
import Derived.Test.YteaehcaokcbehaaDoorIter
import Derived.Test.YteaehcaokcbehaaDoorValid
namespace Go.Proofs.YteaehcaokcbehaaDoor
open Go.RowKit Go.Lib Go.Shelf

/-- a set meets all sets of a list -/
def hitS (f : List S) (s : S) : Bool := !(f.any fun x => x &&& s == 0#16)

theorem hitsPred (s : S) (B : Nat) (l : List S) (w : World) (hc : w.cell? ⟨B, 0, none⟩ = some (.int .u16 (sv s))) :
    PredK Tryd.prog 43 #[.pointer (some ⟨B, 0, none⟩)] vs (fun x => x &&& s == 0#16) l w := fun W x _ hk => by
  have hc' := hk.cell hc
  show Calls Tryd.prog 43 #[.int .u16 (sv x), .pointer (some ⟨B, 0, none⟩)] W _
  go_enter Tryd.func43, Tryd.ntmps43
  go_wp2
  go_ret
  exact ⟨rfl, Keeps.refl _⟩

theorem hits_any (a : Option Addr) (n c : Nat) (l : List S) (s : S) (w : World) (h : Rd w a n c 1 (sl l)) :
    Calls Tryd.prog 15 #[.slice a n c, .int .u16 (sv s)] w fun e w' => e = .returned (.bool (hitS l s)) ∧ Keeps w w' := by
  have eg : ∀ args w, (callFunc 43 args).run Tryd.prog w = .ok (.enter 43 args) w := enters_of Tryd.func43 (by kernel_rfl) rfl
  have hK := (Keeps.refl w).alloc (.cells #[.int .u16 (sv s)] 24)
  have hcon := containsFuncS_any a n c l (w.alloc (.cells #[.int .u16 (sv s)] 24)) 43 #[.pointer (some ⟨w.heap.size, 0, none⟩)] (fun x => x &&& s == 0#16) (h.keep hK) eg
    (hitsPred s w.heap.size l _ (by rw [World.cell?_alloc_at _ _ _ _ rfl]; rfl))
  unfold hitS
  generalize (l.any fun x => x &&& s == 0#16) = r at hcon ⊢
  have HC := Lib.hid hcon; clear hcon eg h
  go_enter Tryd.func15, Tryd.ntmps15
  go_wp2_with (go_at_call 16; refine HC.out.mono ?_; rintro e w' ⟨rfl, K2⟩)
  go_ret
  exact ⟨rfl, hK.trans K2⟩
end Go.Proofs.YteaehcaokcbehaaDoor
