/- Texts joined into one, what is needed of them (a program of ours). -/
import Derived.Test.YtijknodekomdfaaGreatDoorBKPE
import Derived.Test.YtijknodekomdfaaGreatDoorBKP
namespace Go.Proofs.YtijknodekomdfaaGreatDoor
open Go.RowKit Go.Lib Go.Shelf

theorem row0_st5 {W : World} {T' : TypeId} {sz : Nat} {v : Value} {n : Nat} {xs : List Value} (h : Row0 T' sz W v n xs) {C : Nat} {T : TypeId} {cs : Array Value} (hC : Blk W C T cs) (hT : T ≠ T') (u0 u1 u2 u3 u4 : Value) : Row0 T' sz (st5 W C u0 u1 u2 u3 u4) v n xs := by
  have b1 := hC.set 0 u0; have b2 := b1.set 1 u1; have b3 := b2.set 2 u2; have b4 := b3.set 3 u3
  exact ((((h.set hC hT 0 u0).set b1 hT 1 u1).set b2 hT 2 u2).set b3 hT 3 u3).set b4 hT 4 u4
theorem own_st5 {w W : World} {T' : TypeId} {sz : Nat} {v : Value} {n : Nat} {xs : List Value} (h : Own T' sz w W v n xs) {C : Nat} {T : TypeId} {cs : Array Value} (hC : Blk W C T cs) (hT : T ≠ T') (hlo : w.heap.size ≤ C) (u0 u1 u2 u3 u4 : Value) : Own T' sz w (st5 W C u0 u1 u2 u3 u4) v n xs := by
  have b1 := hC.set 0 u0; have b2 := b1.set 1 u1; have b3 := b2.set 2 u2; have b4 := b3.set 3 u3
  exact own_oth9 (own_oth9 (own_oth9 (own_oth9 (own_oth9 h hC hT hlo 0 u0) b1 hT hlo 1 u1) b2 hT hlo 2 u2) b3 hT hlo 3 u3) b4 hT hlo 4 u4
/-- a run whose rows were all made since -/
def RunN (w W : World) (c : CD) (v : Value) : Prop := ∃ nas nv gv, v = vCast c.n c.byz c.src nv gv ∧ Own 153 9 w W nv nas.length (nl nas) ∧ Own 145 4 w W gv c.st.flight.length (cl c.st.flight) ∧ (∀ z ∈ nas, NOk W z) ∧ nas.map NA.x = c.st.nodes
theorem RunN.toC {w W : World} {c : CD} {v : Value} (h : RunN w W c v) : HasC W c v := by
  obtain ⟨nas, nv, gv, rfl, h1, h2, h3, h4⟩ := h
  obtain ⟨N, byz, so, ⟨nodes, fl⟩⟩ := c
  dsimp only at *
  subst h4
  exact hasC_own h1 h2 h3
theorem RunN.since {w0 w W : World} {c : CD} {v : Value} (h : RunN w W c v) (k : Keeps w0 w) : RunN w0 W c v := by
  obtain ⟨nas, nv, gv, rfl, h1, h2, h3, h4⟩ := h
  exact ⟨nas, nv, gv, rfl, h1.since k, h2.since k, h3, h4⟩
theorem RunN.keep {w W W' : World} {c : CD} {v : Value} (h : RunN w W c v) (k : Keeps W W') : RunN w W' c v := by
  obtain ⟨nas, nv, gv, rfl, h1, h2, h3, h4⟩ := h
  exact ⟨nas, nv, gv, rfl, h1.keep k, h2.keep k, fun z hz => (h3 z hz).tyf (.of k), h4⟩
theorem RunN.st5 {w W : World} {c : CD} {v : Value} (h : RunN w W c v) {C : Nat} {cs : Array Value} (hC : Blk W C 75 cs) (hlo : w.heap.size ≤ C) (u0 u1 u2 u3 u4 : Value) : RunN w (st5 W C u0 u1 u2 u3 u4) c v := by
  obtain ⟨nas, nv, gv, rfl, h1, h2, h3, h4⟩ := h
  exact ⟨nas, nv, gv, rfl, own_st5 h1 hC (by decide) hlo _ _ _ _ _, own_st5 h2 hC (by decide) hlo _ _ _ _ _, fun z hz => ⟨row0_st5 (h3 z hz).1 hC (by decide) _ _ _ _ _, row0_st5 (h3 z hz).2 hC (by decide) _ _ _ _ _⟩, h4⟩
theorem runN_own {w w' : World} {N : Int} {byz : S} {source : Int} {nv gv : Value} {nas : List NA} {fl : List Ct} (h1 : Own 153 9 w w' nv nas.length (nl nas)) (h2 : Own 145 4 w w' gv fl.length (cl fl)) (h3 : ∀ z ∈ nas, NOk w' z) : RunN w w' ⟨N, byz, source, ⟨nas.map NA.x, fl⟩⟩ (vCast N byz source nv gv) := ⟨nas, nv, gv, rfl, h1, h2, h3, rfl⟩
theorem runN_zero {w w' : World} (k : Keeps w w') : RunN w w' cd0 zCast := ⟨[], _, _, rfl, Own.nil _ _ k, Own.nil _ _ k, fun z hz => (by cases hz), rfl⟩
def RetN (w : World) (er : Int) (c : CD) (e : Ending) (w' : World) : Prop := Keeps w w' ∧ ∃ v, e = .returned (.tuple #[v, .int .i64 er]) ∧ RunN w w' (if er = 0 then c else cd0) v
end Go.Proofs.YtijknodekomdfaaGreatDoor
