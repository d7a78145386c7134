/- Texts joined into one (wip/bin/pack.py): OpenJ3. -/
import Derived.Test.YtnlohknlchgfgaaGreatKX
import Derived.Test.YtnlohknlchgfgaaGreatKSb
/- Lists of descriptions of layer 29 that came in as arguments, opened. -/
namespace Go.Proofs.YtnlohknlchgfgaaGreat
open Go.RowKit Go.Lib Go.ChangeShapes Go.WideShapes Go.Deep
section
variable {H : Type} {enc : TypeId × Value → H} {w : World} {base : Nat} {spare : Nat → Bool} {held : Bool}
set_option maxRecDepth 20000 in
theorem open_d29s {a : Option Addr} {len cap : Nat} {d : DataW H} {p : List MemPlace} (h : DataW.Trod enc Tryz.prog w base spare held 49 (.slice a len cap) d p) :
    ∃ l : List D29, Rd w a len cap 7 (dl l) ∧ ∀ x ∈ l, OkD w x := by
  obtain ⟨fuel, h⟩ := h
  rcases DataW.trod_slice Tryz.underlying49 h with ⟨hcs, _⟩ | ⟨y, len', cap', elems, rest, n, _, hcs, _, hb, hl, hm, hlen, hel, _, _⟩
  · simp [Value.cells] at hcs
    obtain ⟨rfl, rfl, rfl⟩ := hcs
    exact ⟨[], ⟨rfl, Nat.le_refl _, Nat.zero_le _, fun h => absurd h (Nat.lt_irrefl _), fun j u hu => by simp [dl, fle] at hu⟩, by simp⟩
  · simp [Value.cells] at hcs
    obtain ⟨rfl, rfl, rfl⟩ := hcs
    have hcell : ∀ i, ∃ x : D29, i < len → OkD w x ∧ ∀ j, j < 7 → w.cell? (y.add (i * 7 + j)) = (eD x)[j]? := by
      intro i
      by_cases hi : i < len
      · have h1 := hel i hi
        rw [cD29, List.getElem?_eq_getElem (by omega)] at h1
        rw [Option.bind_eq_some_iff] at h1
        obtain ⟨cs', hc, ht⟩ := h1
        obtain ⟨_, hcl, hat⟩ := World.cells?_some hc
        obtain ⟨xs, n', _, _, hcl2, hxl, hf⟩ := DataW.trod_struct Tryz.underlying27 ht
        rw [cD29] at hcl2
        obtain ⟨u0, u1, u2, u3, u4, u5, u6, rfl⟩ := len7J hcl2
        obtain ⟨y0, y1, rfl⟩ := len2J (show xs.length = 2 from hxl)
        have f0 : DataW.trod enc Tryz.prog w base spare held n' 25 (([u0, u1, u2, u3, u4, u5, u6].drop 0).take (Tryz.prog.cellsOf 25)) = some y0 := hf 0 _ rfl
        have f1 : DataW.trod enc Tryz.prog w base spare held n' 5 (([u0, u1, u2, u3, u4, u5, u6].drop 6).take (Tryz.prog.cellsOf 5)) = some y1 := hf 1 _ rfl
        rw [cDraft] at f0
        rw [cU8J] at f1
        obtain ⟨kd, N, md, ar, cr, lr, aw, cw, lw, af, cf, lf, e0, b0, b1, b2, r3, r4, r5⟩ := open_draft f0
        obtain ⟨mv, e1, m0, m1⟩ := one_u8J f1
        simp at e0 e1
        obtain ⟨rfl, rfl, rfl, rfl, rfl, rfl⟩ := e0
        subst e1
        refine ⟨⟨kd, N, md, mv, lr, lw, lf, ar, cr, aw, cw, af, cf⟩, fun _ => ⟨⟨r3, r4, r5, b0.1, b0.2, b1.1, b1.2, b2.1, b2.2, m0⟩, fun j hj => ?_⟩⟩
        have c := hat j (by simpa using hj)
        rw [Go.Deep.add_add] at c
        exact c
      · exact ⟨d00, fun h => absurd h hi⟩
    obtain ⟨f, hf⟩ := Classical.skolem.1 hcell
    have hlen2 : ((List.range len).map f).length = len := by simp
    refine ⟨(List.range len).map f, ⟨by rw [show dl _ = fle eD _ from rfl, fle_len eD 7 eD_len, hlen2], hl, hm, fun _ => rfl, fun j u hu => ?_⟩, fun x hx => ?_⟩
    · have hj := (List.getElem?_eq_some_iff.1 hu).1
      rw [show dl _ = fle eD _ from rfl, fle_len eD 7 eD_len, hlen2] at hj
      have hi : j / 7 < len := by omega
      have ej : j = j / 7 * 7 + j % 7 := by omega
      have hm7 : j % 7 < 7 := Nat.mod_lt _ (by decide)
      rw [show dl _ = fle eD _ from rfl, ej, fle_at eD 7 eD_len _ _ (by rw [hlen2]; exact hi) _ hm7] at hu
      rw [add_at, ej, (hf _ hi).2 _ hm7]
      simpa using hu
    · obtain ⟨i, hi, rfl⟩ := List.mem_map.1 hx
      exact (hf i (List.mem_range.1 hi)).1
end
end Go.Proofs.YtnlohknlchgfgaaGreat
