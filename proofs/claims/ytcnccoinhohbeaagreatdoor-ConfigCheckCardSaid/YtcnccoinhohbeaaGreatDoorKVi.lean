/- Texts joined into one (wip/bin/pack.py): OpenI. -/
import Derived.Test.YtcnccoinhohbeaaGreatDoorKV
import Derived.Test.YtcnccoinhohbeaaGreatDoorKYe
/- A slice of rows of certificates that came in as an argument. -/
namespace Go.Proofs.YtcnccoinhohbeaaGreatDoor
open Go.RowKit Go.Lib Go.ChangeShapes Go.WideShapes Go.Deep

def cellZ (w : World) (p : Addr) : Int := match w.cell? p with
  | some (.int _ z) => z
  | _ => 0
theorem cellZ_eq {w : World} {p : Addr} {z : Int} (h : w.cell? p = some (.int .i64 z)) : w.cell? p = some (.int .i64 (cellZ w p)) := by
  unfold cellZ; rw [h]
theorem cells5V : Tryz.prog.cellsOf 49 = 5 := by kernel_rfl
theorem len5V {α : Type} {l : List α} (h : l.length = 5) : ∃ a b c d e, l = [a, b, c, d, e] := by
  match l, h with
  | [a, b, c, d, e], _ => exact ⟨a, b, c, d, e, rfl⟩
def rowV (w : World) (y : Addr) (i : Nat) : It := (cellZ w (y.add (i * 5)), cellS w (y.add (i * 5 + 1)), cellS w (y.add (i * 5 + 2)), cellS w (y.add (i * 5 + 3)), cellZ w (y.add (i * 5 + 4)))
set_option maxRecDepth 20000 in
theorem rd_commons {H : Type} {enc : TypeId × Value → H} {w : World} {base : Nat} {spare : Nat → Bool} {held : Bool} {fuel : Nat} {cs : List Value} {x : DataW H × List MemPlace} (h : DataW.trod enc Tryz.prog w base spare held fuel 42 cs = some x) : ∃ (a : Option Addr) (len cap : Nat) (l : List It), cs = [.slice a len cap] ∧ Rd w a len cap 5 (itl l) := by
  rcases DataW.trod_slice Tryz.underlying42 h with ⟨hcs, _⟩ | ⟨y, len, cap, elems, rest, n, _, hcs, _, hb, hl, hm, hlen, hel, _, _⟩
  · exact ⟨none, 0, 0, [], hcs, rfl, Nat.le_refl _, Nat.zero_le _, fun h => absurd h (Nat.lt_irrefl _), fun j u hu => by simp [itl] at hu⟩
  · have hcell : ∀ i, i < len → w.cell? (y.add (i * 5)) = some (.int .i64 (cellZ w (y.add (i * 5)))) ∧ w.cell? (y.add (i * 5 + 1)) = some (.int .u16 (sv (cellS w (y.add (i * 5 + 1))))) ∧ w.cell? (y.add (i * 5 + 2)) = some (.int .u16 (sv (cellS w (y.add (i * 5 + 2))))) ∧ w.cell? (y.add (i * 5 + 3)) = some (.int .u16 (sv (cellS w (y.add (i * 5 + 3))))) ∧ w.cell? (y.add (i * 5 + 4)) = some (.int .i64 (cellZ w (y.add (i * 5 + 4)))) := by
      intro i hi
      have h1 := hel i hi
      rw [cells5V, List.getElem?_eq_getElem (by omega)] at h1
      rw [Option.bind_eq_some_iff] at h1
      obtain ⟨cs', hc, ht⟩ := h1
      obtain ⟨_, hcl, hat⟩ := World.cells?_some hc
      obtain ⟨xs, n', _, _, hcl2, hxl, hf⟩ := DataW.trod_struct Tryz.underlying49 ht
      rw [cells5V] at hcl2
      obtain ⟨u0, u1, u2, u3, u4, rfl⟩ := len5V hcl2
      obtain ⟨y0, y1, y2, y3, y4, rfl⟩ := len5V (show xs.length = 5 from hxl)
      have f0 : DataW.trod enc Tryz.prog w base spare held n' 3 (([u0, u1, u2, u3, u4].drop 0).take (Tryz.prog.cellsOf 3)) = some y0 := hf 0 _ rfl
      have f1 : DataW.trod enc Tryz.prog w base spare held n' 27 (([u0, u1, u2, u3, u4].drop 1).take (Tryz.prog.cellsOf 27)) = some y1 := hf 1 _ rfl
      have f2 : DataW.trod enc Tryz.prog w base spare held n' 27 (([u0, u1, u2, u3, u4].drop 2).take (Tryz.prog.cellsOf 27)) = some y2 := hf 2 _ rfl
      have f3 : DataW.trod enc Tryz.prog w base spare held n' 27 (([u0, u1, u2, u3, u4].drop 3).take (Tryz.prog.cellsOf 27)) = some y3 := hf 3 _ rfl
      have f4 : DataW.trod enc Tryz.prog w base spare held n' 3 (([u0, u1, u2, u3, u4].drop 4).take (Tryz.prog.cellsOf 3)) = some y4 := hf 4 _ rfl
      rw [cIntV] at f0 f4
      rw [cells1] at f1 f2 f3
      obtain ⟨z0, e0⟩ := one_intV f0
      obtain ⟨z1, e1, _, b1⟩ := DataW.trod_int Tryz.underlying27 f1
      obtain ⟨z2, e2, _, b2⟩ := DataW.trod_int Tryz.underlying27 f2
      obtain ⟨z3, e3, _, b3⟩ := DataW.trod_int Tryz.underlying27 f3
      obtain ⟨z4, e4⟩ := one_intV f4
      simp at e0 e1 e2 e3 e4
      subst e0; subst e1; subst e2; subst e3; subst e4
      have c0 := hat 0 (by omega)
      have c1 := hat 1 (by omega)
      have c2 := hat 2 (by omega)
      have c3 := hat 3 (by omega)
      have c4 := hat 4 (by omega)
      rw [Go.Deep.add_add] at c0 c1 c2 c3 c4
      have q1 := bounds16 b1
      have q2 := bounds16 b2
      have q3 := bounds16 b3
      exact ⟨cellZ_eq (by simpa using c0), cellS_eq (by simpa using c1) q1.1 q1.2, cellS_eq (by simpa using c2) q2.1 q2.2, cellS_eq (by simpa using c3) q3.1 q3.2, cellZ_eq (by simpa using c4)⟩
    refine ⟨some y, len, cap, (List.range len).map (rowV w y), hcs, by rw [length_itl]; simp, hl, hm, fun _ => rfl, fun j u hu => ?_⟩
    have hj := (List.getElem?_eq_some_iff.1 hu).1
    rw [length_itl, List.length_map, List.length_range] at hj
    have hi : j / 5 < len := by omega
    have hat := itl_at ((List.range len).map (rowV w y)) (j / 5) (by simpa using hi)
    have hfa : ia ((List.range len).map (rowV w y)) (j / 5) = rowV w y (j / 5) := by
      simp [ia, List.getD, hi]
    rw [hfa] at hat
    obtain ⟨h0, h1, h2, h3, h4⟩ := hcell (j / 5) hi
    have hm5 : j % 5 = 0 ∨ j % 5 = 1 ∨ j % 5 = 2 ∨ j % 5 = 3 ∨ j % 5 = 4 := by omega
    rcases hm5 with e | e | e | e | e
    · have ej : j = j / 5 * 5 := by omega
      have g := hat.1
      rw [← ej] at g h0
      rw [g] at hu
      cases hu
      rw [add_at]
      show _ = some (Value.int .i64 (cellZ w (y.add (j / 5 * 5))))
      rw [← ej]; exact h0
    · have ej : j = j / 5 * 5 + 1 := by omega
      have g := hat.2.1
      rw [← ej] at g h1
      rw [g] at hu
      cases hu
      rw [add_at]
      show _ = some (Value.int .u16 (sv (cellS w (y.add (j / 5 * 5 + 1)))))
      rw [← ej]; exact h1
    · have ej : j = j / 5 * 5 + 2 := by omega
      have g := hat.2.2.1
      rw [← ej] at g h2
      rw [g] at hu
      cases hu
      rw [add_at]
      show _ = some (Value.int .u16 (sv (cellS w (y.add (j / 5 * 5 + 2)))))
      rw [← ej]; exact h2
    · have ej : j = j / 5 * 5 + 3 := by omega
      have g := hat.2.2.2.1
      rw [← ej] at g h3
      rw [g] at hu
      cases hu
      rw [add_at]
      show _ = some (Value.int .u16 (sv (cellS w (y.add (j / 5 * 5 + 3)))))
      rw [← ej]; exact h3
    · have ej : j = j / 5 * 5 + 4 := by omega
      have g := hat.2.2.2.2
      rw [← ej] at g h4
      rw [g] at hu
      cases hu
      rw [add_at]
      show _ = some (Value.int .i64 (cellZ w (y.add (j / 5 * 5 + 4))))
      rw [← ej]; exact h4
theorem open_commonsV {H : Type} {enc : TypeId × Value → H} {w : World} {base : Nat} {spare : Nat → Bool} {held : Bool} {a : Option Addr} {len cap : Nat} {d : DataW H} {p : List MemPlace} (h : DataW.Trod enc Tryz.prog w base spare held 42 (.slice a len cap) d p) :
    ∃ l : List It, Rd w a len cap 5 (itl l) := by
  obtain ⟨fuel, hf⟩ := h
  obtain ⟨a', len', cap', l, e, hr⟩ := rd_commons hf
  simp [Value.cells] at e
  obtain ⟨rfl, rfl, rfl⟩ := e
  exact ⟨l, hr⟩
end Go.Proofs.YtcnccoinhohbeaaGreatDoor
