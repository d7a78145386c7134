/- Texts joined into one, what is needed of them (a program of ours). -/
import Derived.Test.YtijknodekomdfaaGreatDoorBKW
import Derived.Test.YtijknodekomdfaaGreatDoorBKU
namespace Go.Proofs.YtijknodekomdfaaGreatDoor
open Go.RowKit Go.Lib Go.Shelf

/-- a row that came in, or was made since -/
def RowB (w W : World) (T : TypeId) (sz : Nat) (a : Option Addr) (n c : Nat) (xs : List Value) : Prop := Rd W a n c sz xs ∧ (Rd w a n c sz xs ∨ Own T sz w W (.slice a n c) n xs)
theorem RowB.keep {w W W' : World} {T : TypeId} {sz : Nat} {a : Option Addr} {n c : Nat} {xs : List Value} (h : RowB w W T sz a n c xs) (k : Keeps W W') : RowB w W' T sz a n c xs :=
  ⟨h.1.keep k, h.2.imp id fun o => o.keep k⟩
theorem RowB.set {w W : World} {T' : TypeId} {sz : Nat} {a : Option Addr} {n c : Nat} {xs : List Value} (h : RowB w W T' sz a n c xs) {C : Nat} {T : TypeId} {cs : Array Value} (hC : Blk W C T cs) (hT : T ≠ T') (hlo : w.heap.size ≤ C) (J : Keeps w W) (i : Nat) (u : Value) : RowB w (W.setCell ⟨C, i, none⟩ u) T' sz a n c xs := by
  rcases h.2 with h2 | h2
  · exact ⟨h2.keep (keeps_set J hlo i u), .inl h2⟩
  · have h3 := own_oth9 h2 hC hT hlo i u
    exact ⟨h3.row0.rd, .inr h3⟩
theorem RowB.st5 {w W : World} {T' : TypeId} {sz : Nat} {a : Option Addr} {n c : Nat} {xs : List Value} (h : RowB w W T' sz a n c xs) {C : Nat} {T : TypeId} {cs : Array Value} (hC : Blk W C T cs) (hT : T ≠ T') (hlo : w.heap.size ≤ C) (J : Keeps w W) (u0 u1 u2 u3 u4 : Value) : RowB w (st5 W C u0 u1 u2 u3 u4) T' sz a n c xs := by
  have b1 := hC.set 0 u0; have b2 := b1.set 1 u1; have b3 := b2.set 2 u2; have b4 := b3.set 3 u3
  have J1 := keeps_set J hlo 0 u0; have J2 := keeps_set J1 hlo 1 u1; have J3 := keeps_set J2 hlo 2 u2; have J4 := keeps_set J3 hlo 3 u3
  exact ((((h.set hC hT hlo J 0 u0).set b1 hT hlo J1 1 u1).set b2 hT hlo J2 2 u2).set b3 hT hlo J3 3 u3).set b4 hT hlo J4 4 u4
theorem RowB.new {w W : World} {T : TypeId} {sz : Nat} {a : Option Addr} {n c : Nat} {xs : List Value} (h : Own T sz w W (.slice a n c) n xs) : RowB w W T sz a n c xs := ⟨h.row0.rd, .inr h⟩
theorem RowB.old {w W : World} {T : TypeId} {sz : Nat} {a : Option Addr} {n c : Nat} {xs : List Value} (h : Rd w a n c sz xs) (k : Keeps w W) : RowB w W T sz a n c xs := ⟨h.keep k, .inl h⟩
/-- the run that a value holds, whose rows came in or were made since -/
def HasB (w W : World) (c : CD) (v : Value) : Prop := ∃ an cn nas ag cg, v = vCast c.n c.byz c.src (.slice an nas.length cn) (.slice ag c.st.flight.length cg) ∧ RowB w W 153 9 an nas.length cn (nl nas) ∧ RowB w W 145 4 ag c.st.flight.length cg (cl c.st.flight) ∧ (∀ z ∈ nas, RPN w W z) ∧ nas.map NA.x = c.st.nodes
theorem HasB.toC {w W : World} {c : CD} {v : Value} (h : HasB w W c v) : HasC W c v := by
  obtain ⟨an, cn, nas, ag, cg, rfl, h1, h2, h3, h4⟩ := h
  exact ⟨an, cn, nas, ag, cg, rfl, h1.1, h2.1, fun z hz => (h3 z hz).rdh, h4⟩
theorem HasB.keep {w W W' : World} {c : CD} {v : Value} (h : HasB w W c v) (k : Keeps W W') (J : Keeps w W) : HasB w W' c v := by
  obtain ⟨an, cn, nas, ag, cg, rfl, h1, h2, h3, h4⟩ := h
  exact ⟨an, cn, nas, ag, cg, rfl, h1.keep k, h2.keep k, fun z hz => (h3 z hz).keep k J, h4⟩
theorem HasB.st5 {w W : World} {c : CD} {v : Value} (h : HasB w W c v) {C : Nat} {cs : Array Value} (hC : Blk W C 75 cs) (hlo : w.heap.size ≤ C) (J : Keeps w W) (u0 u1 u2 u3 u4 : Value) : HasB w (st5 W C u0 u1 u2 u3 u4) c v := by
  obtain ⟨an, cn, nas, ag, cg, rfl, h1, h2, h3, h4⟩ := h
  exact ⟨an, cn, nas, ag, cg, rfl, h1.st5 hC (by decide) hlo J _ _ _ _ _, h2.st5 hC (by decide) hlo J _ _ _ _ _, fun z hz => (h3 z hz).set5 hC (by decide) hlo J _ _ _ _ _, h4⟩
end Go.Proofs.YtijknodekomdfaaGreatDoor
namespace Go.Proofs.YtijknodekomdfaaGreatDoor
open Go.RowKit Go.Lib Go.Shelf

end Go.Proofs.YtijknodekomdfaaGreatDoor
namespace Go.Proofs.YtijknodekomdfaaGreatDoor
open Go.RowKit Go.Lib Go.Shelf

end Go.Proofs.YtijknodekomdfaaGreatDoor
