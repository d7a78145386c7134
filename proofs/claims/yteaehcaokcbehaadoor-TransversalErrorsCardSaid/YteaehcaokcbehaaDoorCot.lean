/- transversal.IsDual, Cross, Disjoint, Coterie, coterie, Dominated. -/
import Derived.Test.YteaehcaokcbehaaDoorCross
import Derived.Test.YteaehcaokcbehaaDoorMinimal
namespace Go.Proofs.YteaehcaokcbehaaDoor
open Go.RowKit Go.Lib Go.Shelf

/-- each set of f meets each set of g -/
def crossS (f g : List S) : Bool := !(f.any fun x => !hitS g x)

theorem crossPred (B : Nat) (a2 : Option Addr) (n2 c2 : Nat) (g l : List S) (w : World) (hc : w.cell? ⟨B, 0, none⟩ = some (.slice a2 n2 c2)) (h2 : Rd w a2 n2 c2 1 (sl g)) :
    PredK Tryd.prog 45 #[.pointer (some ⟨B, 0, none⟩)] vs (fun x => !hitS g x) l w := fun W x _ hk => by
  have hc' := hk.cell hc
  have hcall := Lib.hid (hits_any a2 n2 c2 g x W (h2.keep hk))
  show Calls Tryd.prog 45 #[.int .u16 (sv x), .pointer (some ⟨B, 0, none⟩)] W _
  go_enter Tryd.func45, Tryd.ntmps45
  go_wp2_with (go_at_call 15; refine hcall.out.mono ?_; rintro e w' ⟨rfl, K2⟩)
  go_ret
  exact ⟨rfl, K2⟩

theorem cross_any (a : Option Addr) (n c : Nat) (l : List S) (a2 : Option Addr) (n2 c2 : Nat) (g : List S) (w : World) (h : Rd w a n c 1 (sl l)) (h2 : Rd w a2 n2 c2 1 (sl g)) :
    Calls Tryd.prog 19 #[.slice a n c, .slice a2 n2 c2] w fun e w' => e = .returned (.bool (crossS l g)) ∧ Keeps w w' := by
  have eg : ∀ args w, (callFunc 45 args).run Tryd.prog w = .ok (.enter 45 args) w := enters_of Tryd.func45 (by kernel_rfl) rfl
  have hK := (Keeps.refl w).alloc (.cells #[.slice a2 n2 c2] 25)
  have hcon := containsFuncS_any a n c l (w.alloc (.cells #[.slice a2 n2 c2] 25)) 45 #[.pointer (some ⟨w.heap.size, 0, none⟩)] (fun x => !hitS g x) (h.keep hK) eg
    (crossPred w.heap.size a2 n2 c2 g l _ (by rw [World.cell?_alloc_at _ _ _ _ rfl]; rfl) (h2.keep hK))
  unfold crossS
  generalize (l.any fun x => !hitS g x) = r at hcon ⊢
  have HC := Lib.hid hcon; clear hcon eg h h2
  go_enter Tryd.func19, Tryd.ntmps19
  go_wp2_with (go_at_call 16; refine HC.out.mono ?_; rintro e w' ⟨rfl, K2⟩)
  go_ret
  exact ⟨rfl, hK.trans K2⟩

theorem isDual_any (a : Option Addr) (n c : Nat) (l : List S) (a2 : Option Addr) (n2 c2 : Nat) (g : List S) (w : World) (hT : Tab w) (h : Rd w a n c 1 (sl l)) (h2 : Rd w a2 n2 c2 1 (sl g)) (hsm : validS l = 0 → small (supS l)) :
    Calls Tryd.prog 31 #[.slice a n c, .slice a2 n2 c2] w fun e w' => e = .returned (.bool ((dualErr l).2 == 0 && eqS (dualErr l).1 g)) ∧ Keeps w w' := by
  have hd := dual_any a n c l w hT h hsm
  generalize dualErr l = r at hd ⊢
  obtain ⟨d, er⟩ := r
  simp only at hd ⊢
  have he := fun W (k : Keeps w W) a3 c3 (hr : Rd W a3 d.length c3 1 (sl d)) => equal_any a3 d.length c3 d a2 n2 c2 g W hr (h2.keep k)
  have HD := Lib.hid hd; have HE := Lib.hid he; clear hd he h h2 hsm hT
  go_enter Tryd.func31, Tryd.ntmps31
  go_wp2_with fail
  refine HD.out.mono ?_
  rintro e w1 ⟨v1, rfl, hO⟩
  obtain ⟨a3, c3, rfl, hR⟩ := hO.rd
  have K1 := hO.2
  by_cases hz : er = 0
  · subst hz
    go_wp2_with (go_at_call 47; refine (HE.out w1 K1 a3 c3 hR).mono ?_; rintro e w2 ⟨rfl, K2⟩)
    go_ret
    exact ⟨by simp, K1.trans K2⟩
  · have hb : (er == 0) = false := by simpa using hz
    go_wp2_with fail
    go_ret
    exact ⟨by simp [hz], K1⟩
end Go.Proofs.YteaehcaokcbehaaDoor
