/- Texts joined into one, what is needed of them (a program of ours). -/
import Derived.Test.YtijknodekomdfaaGreatDoorCKB
import Derived.Test.YtijknodekomdfaaGreatDoorCKC
import Derived.ProofKit
import Derived.OpenShut
import Derived.Deep.Slices
import Derived.ChangeShapes
namespace Go.Proofs.YtijknodekomdfaaGreatDoor
open Go.RowKit Go.Lib Go.ChangeShapes Go.WideShapes Go.Deep

section
variable {H : Type} {enc : TypeId × Value → H} {w : World} {base : Nat} {spare : Nat → Bool} {held : Bool} {fuel : Nat} {cs : List Value} {x : DataW H × List MemPlace}
theorem len2 {α : Type} {l : List α} (h : l.length = 2) : ∃ a b, l = [a, b] := by match l, h with | [a, b], _ => exact ⟨a, b, rfl⟩
theorem len6 {α : Type} {l : List α} (h : l.length = 6) : ∃ a b c d e f, l = [a, b, c, d, e, f] := by match l, h with | [a, b, c, d, e, f], _ => exact ⟨a, b, c, d, e, f, rfl⟩
theorem add_at (x : Addr) (j : Nat) : adr (some x) j = x.add j := rfl
/-- a slice of numbers of 16 bits reads as a list of sets -/
theorem rd_sets {t e : TypeId} (ht : Tryz.prog.underlying t = some (.slice e)) (he : Tryz.prog.underlying e = some (.int .u16)) (hc : Tryz.prog.cellsOf e = 1)
    (h : DataW.trod enc Tryz.prog w base spare held fuel t cs = some x) : ∃ (a : Option Addr) (len cap : Nat) (l : List S), cs = [.slice a len cap] ∧ Rd w a len cap 1 (sl l) := by
  rcases open_ints ht he hc h with ⟨hcs, _⟩ | ⟨y, len, cap, zs, hcs, _, hl, hm, hz, _, hcell, hwz⟩
  · exact ⟨none, 0, 0, [], hcs, rfl, Nat.le_refl _, Nat.zero_le _, fun h => absurd h (Nat.lt_irrefl _), fun j u hu => by simp [sl] at hu⟩
  · have hlz : len ≤ zs.length := by rw [hz]; split <;> omega
    refine ⟨some y, len, cap, (zs.take len).map (BitVec.ofInt 16), hcs, by simp; omega, hl, hm, fun _ => rfl, fun j u hu => ?_⟩
    have hj : j < len := by
      have := (List.getElem?_eq_some_iff.1 hu).1
      simp at this; omega
    have hjz : j < zs.length := by omega
    have hb := bounds16 (hwz zs[j] (List.getElem_mem hjz))
    have e1 : u = .int .u16 zs[j] := by
      simp [sl, hj, hjz] at hu
      rw [← hu, sv_ofInt _ hb.1 hb.2]
    rw [e1]
    have := hcell j hjz
    simpa [adr, List.getD, hjz] using this
/-- the set in a cell -/
def cellS (w : World) (p : Addr) : S := match w.cell? p with
  | some (.int _ z) => BitVec.ofInt 16 z
  | _ => 0#16
theorem cellS_eq {p : Addr} {z : Int} (h : w.cell? p = some (.int .u16 z)) (h0 : 0 ≤ z) (h1 : z ≤ 65535) : w.cell? p = some (.int .u16 (sv (cellS w p))) := by
  unfold cellS; rw [h]; simp only; rw [sv_ofInt z h0 h1]
theorem cells2 : Tryz.prog.cellsOf 34 = 2 := by kernel_rfl
theorem cells1 : Tryz.prog.cellsOf 31 = 1 := by kernel_rfl
/-- a slice of faults reads as a list of faults -/
theorem rd_faults (h : DataW.trod enc Tryz.prog w base spare held fuel 22 cs = some x) : ∃ (a : Option Addr) (len cap : Nat) (l : List F2), cs = [.slice a len cap] ∧ Rd w a len cap 2 (fl l) := by
  rcases DataW.trod_slice Tryz.underlying22 h with ⟨hcs, _⟩ | ⟨y, len, cap, elems, rest, n, _, hcs, _, hb, hl, hm, hlen, hel, _, _⟩
  · exact ⟨none, 0, 0, [], hcs, rfl, Nat.le_refl _, Nat.zero_le _, fun h => absurd h (Nat.lt_irrefl _), fun j u hu => by simp [fl] at hu⟩
  · have hcell : ∀ i, i < len → w.cell? (y.add (i * 2)) = some (.int .u16 (sv (cellS w (y.add (i * 2))))) ∧ w.cell? (y.add (i * 2 + 1)) = some (.int .u16 (sv (cellS w (y.add (i * 2 + 1))))) := by
      intro i hi
      have h1 := hel i hi
      rw [cells2, List.getElem?_eq_getElem (by omega)] at h1
      rw [Option.bind_eq_some_iff] at h1
      obtain ⟨cs', hc, ht⟩ := h1
      obtain ⟨_, hcl, hat⟩ := World.cells?_some hc
      obtain ⟨xs, n', _, _, hcl2, hxl, hf⟩ := DataW.trod_struct Tryz.underlying34 ht
      rw [cells2] at hcl2
      obtain ⟨u0, u1, rfl⟩ := len2 hcl2
      obtain ⟨y0, y1, rfl⟩ := len2 (show xs.length = 2 from hxl)
      have f0 : DataW.trod enc Tryz.prog w base spare held n' 31 (([u0, u1].drop 0).take (Tryz.prog.cellsOf 31)) = some y0 := hf 0 _ rfl
      have f1 : DataW.trod enc Tryz.prog w base spare held n' 31 (([u0, u1].drop 1).take (Tryz.prog.cellsOf 31)) = some y1 := hf 1 _ rfl
      rw [cells1] at f0 f1
      obtain ⟨z0, e0, _, b0⟩ := DataW.trod_int Tryz.underlying31 f0
      obtain ⟨z1, e1, _, b1⟩ := DataW.trod_int Tryz.underlying31 f1
      simp at e0 e1
      subst e0; subst e1
      have c0 := hat 0 (by omega)
      have c1 := hat 1 (by omega)
      rw [Go.Deep.add_add] at c0 c1
      have q0 := bounds16 b0
      have q1 := bounds16 b1
      exact ⟨cellS_eq (by simpa using c0) q0.1 q0.2, cellS_eq (by simpa using c1) q1.1 q1.2⟩
    refine ⟨some y, len, cap, (List.range len).map fun i => (cellS w (y.add (i * 2)), cellS w (y.add (i * 2 + 1))), hcs, by rw [length_fl]; simp, hl, hm, fun _ => rfl, fun j u hu => ?_⟩
    have hj := (List.getElem?_eq_some_iff.1 hu).1
    rw [length_fl, List.length_map, List.length_range] at hj
    have hi : j / 2 < len := by omega
    have hat := fl_at ((List.range len).map fun i => (cellS w (y.add (i * 2)), cellS w (y.add (i * 2 + 1)))) (j / 2) (by simpa using hi)
    have hfa : fa ((List.range len).map fun i => (cellS w (y.add (i * 2)), cellS w (y.add (i * 2 + 1)))) (j / 2) = (cellS w (y.add (j / 2 * 2)), cellS w (y.add (j / 2 * 2 + 1))) := by
      simp [fa, List.getD, hi]
    rw [hfa] at hat
    rcases Nat.mod_two_eq_zero_or_one j with h0 | h0
    · have ej : j = j / 2 * 2 := by omega
      rw [ej, hat.1] at hu
      cases hu
      rw [add_at, ej]
      simpa using (hcell (j / 2) hi).1
    · have ej : j = j / 2 * 2 + 1 := by omega
      rw [ej, hat.2] at hu
      cases hu
      rw [add_at, ej]
      have := (hcell (j / 2) hi).2
      rw [show (j / 2 * 2 + 1) / 2 = j / 2 by omega]
      exact this
end
end Go.Proofs.YtijknodekomdfaaGreatDoor
namespace Go.Proofs.YtijknodekomdfaaGreatDoor
open Go.RowKit Go.Lib Go.ChangeShapes Go.WideShapes Go.Deep

section
variable {H : Type} {enc : TypeId × Value → H} {w : World} {base : Nat} {spare : Nat → Bool} {held : Bool} {fuel : Nat} {cs : List Value} {x : DataW H × List MemPlace}
theorem bounds8' {z : Int} (h : (Lit.int .u8 z).wf = true) : 0 ≤ z ∧ z ≤ 255 := by
  simp [Lit.wf, IntKind.min, IntKind.max, IntKind.signed, IntKind.bits] at h
  omega
theorem one_u8 (h : DataW.trod enc Tryz.prog w base spare held fuel 5 cs = some x) : ∃ z : Int, cs = [.int .u8 z] ∧ 0 ≤ z ∧ z ≤ 255 := by
  obtain ⟨z, e, _, b⟩ := DataW.trod_int Tryz.underlying5 h
  exact ⟨z, e, bounds8' b⟩
theorem one_set (h : DataW.trod enc Tryz.prog w base spare held fuel 31 cs = some x) : ∃ z : S, cs = [.int .u16 (sv z)] := by
  obtain ⟨z, e, _, b⟩ := DataW.trod_int Tryz.underlying31 h
  have q := bounds16 b
  exact ⟨BitVec.ofInt 16 z, by rw [e, sv_ofInt z q.1 q.2]⟩
theorem c8 : Tryz.prog.cellsOf 5 = 1 := by kernel_rfl
theorem c16 : Tryz.prog.cellsOf 30 = 1 := by kernel_rfl
theorem cS16 : Tryz.prog.cellsOf 46 = 1 := by kernel_rfl
theorem cSF : Tryz.prog.cellsOf 22 = 1 := by kernel_rfl
theorem cDraft : Tryz.prog.cellsOf 48 = 6 := by kernel_rfl
/-- a draft's cells -/
def DraftIs (w : World) (cs : List Value) (kd N md : Int) (ar : Option Addr) (cr : Nat) (lr : List S) (aw : Option Addr) (cw : Nat) (lw : List S) (af : Option Addr) (cf : Nat) (lf : List F2) : Prop :=
  cs = [.int .u8 kd, .int .u8 N, .int .u8 md, .slice ar lr.length cr, .slice aw lw.length cw, .slice af lf.length cf] ∧ (0 ≤ kd ∧ kd ≤ 255) ∧ (0 ≤ N ∧ N ≤ 255) ∧ (0 ≤ md ∧ md ≤ 255) ∧ Rd w ar lr.length cr 1 (sl lr) ∧ Rd w aw lw.length cw 1 (sl lw) ∧ Rd w af lf.length cf 2 (fl lf)
theorem open_draft (h : DataW.trod enc Tryz.prog w base spare held fuel 48 cs = some x) : ∃ kd N md ar cr lr aw cw lw af cf lf, DraftIs w cs kd N md ar cr lr aw cw lw af cf lf := by
  obtain ⟨xs, n, _, _, hl, hxl, hf⟩ := DataW.trod_struct Tryz.underlying48 h
  rw [cDraft] at hl
  obtain ⟨u0, u1, u2, u3, u4, u5, rfl⟩ := len6 hl
  obtain ⟨y0, y1, y2, y3, y4, y5, rfl⟩ := len6 (show xs.length = 6 from hxl)
  have f0 : DataW.trod enc Tryz.prog w base spare held n 5 (([u0, u1, u2, u3, u4, u5].drop 0).take (Tryz.prog.cellsOf 5)) = some y0 := hf 0 _ rfl
  have f1 : DataW.trod enc Tryz.prog w base spare held n 5 (([u0, u1, u2, u3, u4, u5].drop 1).take (Tryz.prog.cellsOf 5)) = some y1 := hf 1 _ rfl
  have f2 : DataW.trod enc Tryz.prog w base spare held n 5 (([u0, u1, u2, u3, u4, u5].drop 2).take (Tryz.prog.cellsOf 5)) = some y2 := hf 2 _ rfl
  have f3 : DataW.trod enc Tryz.prog w base spare held n 46 (([u0, u1, u2, u3, u4, u5].drop 3).take (Tryz.prog.cellsOf 46)) = some y3 := hf 3 _ rfl
  have f4 : DataW.trod enc Tryz.prog w base spare held n 46 (([u0, u1, u2, u3, u4, u5].drop 4).take (Tryz.prog.cellsOf 46)) = some y4 := hf 4 _ rfl
  have f5 : DataW.trod enc Tryz.prog w base spare held n 22 (([u0, u1, u2, u3, u4, u5].drop 5).take (Tryz.prog.cellsOf 22)) = some y5 := hf 5 _ rfl
  rw [c8] at f0 f1 f2
  rw [cS16] at f3 f4
  rw [cSF] at f5
  obtain ⟨kd, e0, b0⟩ := one_u8 f0
  obtain ⟨N, e1, b1⟩ := one_u8 f1
  obtain ⟨md, e2, b2⟩ := one_u8 f2
  obtain ⟨ar, nr, cr, lr, e3, r3⟩ := rd_sets Tryz.underlying46 Tryz.underlying30 c16 f3
  obtain ⟨aw, nw, cw, lw, e4, r4⟩ := rd_sets Tryz.underlying46 Tryz.underlying30 c16 f4
  obtain ⟨af, nf, cf, lf, e5, r5⟩ := rd_faults f5
  simp at e0 e1 e2 e3 e4 e5
  have L3 := r3.lenS; have L4 := r4.lenS; have L5 := r5.lenF
  subst e0; subst e1; subst e2; subst e3; subst e4; subst e5; subst L3; subst L4; subst L5
  exact ⟨kd, N, md, ar, cr, lr, aw, cw, lw, af, cf, lf, rfl, b0, b1, b2, r3, r4, r5⟩
end
end Go.Proofs.YtijknodekomdfaaGreatDoor
