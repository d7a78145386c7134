/- Texts joined into one, what is needed of them (a program of ours). -/
import Derived.Test.YtijknodekomdfaaGreatDoorBKV
namespace Go.Proofs.YtijknodekomdfaaGreatDoor
open Go.RowKit Go.Lib Go.Shelf

end Go.Proofs.YtijknodekomdfaaGreatDoor
namespace Go.Proofs.YtijknodekomdfaaGreatDoor
open Go.RowKit Go.Lib Go.Shelf

theorem RPN.keep {w W W' : World} {z : NA} (h : RPN w W z) (k : Keeps W W') (J : Keeps w W) : RPN w W' z := ⟨h.1.keep k J, h.2.keep k J⟩
theorem RPN.set9 {w W : World} {z : NA} (h : RPN w W z) {C : Nat} {T : TypeId} {cs : Array Value} (hC : Blk W C T cs) (hT : T ≠ 156) (hlo : w.heap.size ≤ C) (J : Keeps w W) (u0 u1 u2 u3 u4 u5 u6 u7 u8 : Value) : RPN w ((((((((((W.setCell ⟨C, 0, none⟩ (u0)).setCell ⟨C, 1, none⟩ (u1)).setCell ⟨C, 2, none⟩ (u2)).setCell ⟨C, 3, none⟩ (u3)).setCell ⟨C, 4, none⟩ (u4)).setCell ⟨C, 5, none⟩ (u5)).setCell ⟨C, 6, none⟩ (u6)).setCell ⟨C, 7, none⟩ (u7)).setCell ⟨C, 8, none⟩ (u8))) z :=
  ⟨h.1.set9 hC hT hlo J u0 u1 u2 u3 u4 u5 u6 u7 u8, h.2.set9 hC hT hlo J u0 u1 u2 u3 u4 u5 u6 u7 u8⟩
theorem RP.grown {w W W' : World} {a : Option Addr} {n c : Nat} {xs : List Value} (h : RP w W a n c xs) {b' : Nat} {v : Value} {m : Nat} {ys : List Value} (hO : W.ownsRow b' 153 9 v m ys) (J : Keeps w W') (hg : W.grownBy W' v.ownBlock) : RP w W' a n c xs := by
  rcases h.2 with h2 | h2
  · exact ⟨h2.keep J, .inl h2⟩
  · have h3 : Own 156 2 w W' (.slice a n c) n xs := ⟨row_kept h2.1 hO (by decide) hg, J⟩
    exact ⟨h3.row0.rd, .inr h3⟩
theorem RPN.grown {w W W' b'' : World} {z : NA} (h : RPN w W z) {v : Value} {m : Nat} {ys : List Value} (hO : Own 153 9 b'' W v m ys) (J : Keeps w W') (hg : W.grownBy W' v.ownBlock) : RPN w W' z := ⟨h.1.grown hO.1 J hg, h.2.grown hO.1 J hg⟩
theorem RPN.set5 {w W : World} {z : NA} (h : RPN w W z) {C : Nat} {T : TypeId} {cs : Array Value} (hC : Blk W C T cs) (hT : T ≠ 156) (hlo : w.heap.size ≤ C) (J : Keeps w W) (u0 u1 u2 u3 u4 : Value) : RPN w (st5 W C u0 u1 u2 u3 u4) z := by
  have b1 := hC.set 0 u0; have b2 := b1.set 1 u1; have b3 := b2.set 2 u2; have b4 := b3.set 3 u3
  have J1 := keeps_set J hlo 0 u0; have J2 := keeps_set J1 hlo 1 u1; have J3 := keeps_set J2 hlo 2 u2; have J4 := keeps_set J3 hlo 3 u3
  exact ⟨((((h.1.set hC hT hlo J 0 u0).set b1 hT hlo J1 1 u1).set b2 hT hlo J2 2 u2).set b3 hT hlo J3 3 u3).set b4 hT hlo J4 4 u4, ((((h.2.set hC hT hlo J 0 u0).set b1 hT hlo J1 1 u1).set b2 hT hlo J2 2 u2).set b3 hT hlo J3 3 u3).set b4 hT hlo J4 4 u4⟩
theorem RPN.rdh {w W : World} {z : NA} (h : RPN w W z) : RdH W z := ⟨h.1.1, h.2.1⟩
end Go.Proofs.YtijknodekomdfaaGreatDoor
