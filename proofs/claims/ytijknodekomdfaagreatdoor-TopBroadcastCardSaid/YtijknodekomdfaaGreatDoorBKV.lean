/- Texts joined into one, what is needed of them (a program of ours). -/
import Derived.Test.YtijknodekomdfaaGreatDoorBKQ
import Derived.Test.YtijknodekomdfaaGreatDoorBKH
import Derived.Test.YtijknodekomdfaaGreatDoorBKC
import Derived.Test.YtijknodekomdfaaGreatDoorBKD
import Derived.Test.YtijknodekomdfaaGreatDoorBKM
import Derived.Test.YtijknodekomdfaaGreatDoorBKP
namespace Go.Proofs.YtijknodekomdfaaGreatDoor
open Go.RowKit Go.Lib
end Go.Proofs.YtijknodekomdfaaGreatDoor
namespace Go.Proofs.YtijknodekomdfaaGreatDoor
open Go.RowKit Go.Lib Go.Shelf

end Go.Proofs.YtijknodekomdfaaGreatDoor
namespace Go.Proofs.YtijknodekomdfaaGreatDoor
open Go.RowKit Go.Lib Go.Shelf

def corTo (byz : S) (k : Nat) : List Nat := (List.range k).filter fun i => !((byz >>> i) &&& 1#16 == 1#16)
theorem corTo_eq (byz : S) (n : Nat) : corTo byz n = corrL n byz := by
  unfold corTo corrL
  refine List.filter_congr fun i hi => ?_
  rw [hbT]
  unfold corr
  rw [decide_eq_true (List.mem_range.1 hi), Bool.true_and]
  rfl
end Go.Proofs.YtijknodekomdfaaGreatDoor
namespace Go.Proofs.YtijknodekomdfaaGreatDoor

section
variable {f b : List S} {x : Nd} {i : Nat} {v : Str}
end
end Go.Proofs.YtijknodekomdfaaGreatDoor
namespace Go.Proofs.YtijknodekomdfaaGreatDoor
open Go.RowKit Go.Lib Go.Shelf

/-- a row of what was heard: it came in, or it was made -/
def RP (w W : World) (a : Option Addr) (n c : Nat) (xs : List Value) : Prop := Rd W a n c 2 xs ∧ (Rd w a n c 2 xs ∨ Own 156 2 w W (.slice a n c) n xs)
theorem RP.keep {w W W' : World} {a : Option Addr} {n c : Nat} {xs : List Value} (h : RP w W a n c xs) (k : Keeps W W') (_ : Keeps w W) : RP w W' a n c xs :=
  ⟨h.1.keep k, h.2.imp id fun o => o.keep k⟩
theorem RP.set {w W : World} {a : Option Addr} {n c : Nat} {xs : List Value} (h : RP w W a n c xs) {C : Nat} {T : TypeId} {cs : Array Value} (hC : Blk W C T cs) (hT : T ≠ 156) (hlo : w.heap.size ≤ C) (J : Keeps w W) (i : Nat) (u : Value) : RP w (W.setCell ⟨C, i, none⟩ u) a n c xs := by
  rcases h.2 with h2 | h2
  · exact ⟨h2.keep (keeps_set J hlo i u), .inl h2⟩
  · have h3 := own_oth9 h2 hC hT hlo i u
    exact ⟨h3.row0.rd, .inr h3⟩
theorem RP.set9 {w W : World} {a : Option Addr} {n c : Nat} {xs : List Value} (h : RP w W a n c xs) {C : Nat} {T : TypeId} {cs : Array Value} (hC : Blk W C T cs) (hT : T ≠ 156) (hlo : w.heap.size ≤ C) (J : Keeps w W) (u0 u1 u2 u3 u4 u5 u6 u7 u8 : Value) : RP w ((((((((((W.setCell ⟨C, 0, none⟩ (u0)).setCell ⟨C, 1, none⟩ (u1)).setCell ⟨C, 2, none⟩ (u2)).setCell ⟨C, 3, none⟩ (u3)).setCell ⟨C, 4, none⟩ (u4)).setCell ⟨C, 5, none⟩ (u5)).setCell ⟨C, 6, none⟩ (u6)).setCell ⟨C, 7, none⟩ (u7)).setCell ⟨C, 8, none⟩ (u8))) a n c xs := by
  rcases h.2 with h2 | h2
  · exact ⟨h2.keep (keeps_set9 J hlo u0 u1 u2 u3 u4 u5 u6 u7 u8), .inl h2⟩
  · have h3 := own_other9 h2 hC hT hlo u0 u1 u2 u3 u4 u5 u6 u7 u8
    exact ⟨h3.row0.rd, .inr h3⟩
def RPN (w W : World) (z : NA) : Prop := RP w W z.ae z.x.echoes.length z.ce (hl z.x.echoes) ∧ RP w W z.ar z.x.readies.length z.cr (hl z.x.readies)
end Go.Proofs.YtijknodekomdfaaGreatDoor
