/- Texts joined into one, what is needed of them (a program of ours). -/
import Derived.Test.YtbcfkgolhklkaaaDoorSKX
import Derived.Test.YtbcfkgolhklkaaaDoorSKR
import Derived.Test.YtbcfkgolhklkaaaDoorSKS
namespace Go.Proofs.YtbcfkgolhklkaaaDoor
open Go.RowKit Go.Lib Go.ChangeShapes Go.WideShapes Go.Deep

section
variable {H : Type} {enc : TypeId × Value → H} {w : World} {base : Nat} {spare : Nat → Bool} {held : Bool} {fuel : Nat} {cs : List Value} {x : DataW H × List MemPlace}
theorem lenR2 {α : Type} {l : List α} (h : l.length = 2) : ∃ a b, l = [a, b] := by match l, h with | [a, b], _ => exact ⟨a, b, rfl⟩
theorem lenR4 {α : Type} {l : List α} (h : l.length = 4) : ∃ a b c d, l = [a, b, c, d] := by match l, h with | [a, b, c, d], _ => exact ⟨a, b, c, d, rfl⟩
theorem lenR5 {α : Type} {l : List α} (h : l.length = 5) : ∃ a b c d e, l = [a, b, c, d, e] := by match l, h with | [a, b, c, d, e], _ => exact ⟨a, b, c, d, e, rfl⟩
theorem lenR9 {α : Type} {l : List α} (h : l.length = 9) : ∃ a b c d e f g h i, l = [a, b, c, d, e, f, g, h, i] := by match l, h with | [a, b, c, d, e, f, g, h, i], _ => exact ⟨a, b, c, d, e, f, g, h, i, rfl⟩
/-- a slice of structs reads as a list, if its elements do -/
theorem rd_rows {α : Type} (eA : α → List Value) (sz : Nat) (hlen : ∀ y, (eA y).length = sz) (hp : 0 < sz) (OK : α → Prop) (d0 : α) {t e : TypeId} (ht : Tryd.prog.underlying t = some (.slice e)) (hce : Tryd.prog.cellsOf e = sz)
    (hone : ∀ (n : Nat) (cs : List Value) (x : DataW H × List MemPlace), DataW.trod enc Tryd.prog w base spare held n e cs = some x → ∃ y : α, OK y ∧ cs = eA y)
    (h : DataW.trod enc Tryd.prog w base spare held fuel t cs = some x) : ∃ (a : Option Addr) (len cap : Nat) (l : List α), cs = [.slice a len cap] ∧ Rd w a len cap sz (fle eA l) ∧ ∀ y ∈ l, OK y := by
  rcases DataW.trod_slice ht h with ⟨hcs, _⟩ | ⟨y, len, cap, elems, rest, n, _, hcs, _, hb, hl, hm, hlen1, hel, _, _⟩
  · exact ⟨none, 0, 0, [], hcs, ⟨by simp [fle], Nat.le_refl _, Nat.zero_le _, fun h => absurd h (Nat.lt_irrefl _), fun j u hu => by simp [fle] at hu⟩, fun y hy => by cases hy⟩
  · have hcell : ∀ i, ∃ z : α, i < len → OK z ∧ ∀ j, j < sz → w.cell? (y.add (i * sz + j)) = (eA z)[j]? := by
      intro i
      by_cases hi : i < len
      · have h1 := hel i hi
        rw [hce, List.getElem?_eq_getElem (by omega)] at h1
        rw [Option.bind_eq_some_iff] at h1
        obtain ⟨cs', hc, ht⟩ := h1
        obtain ⟨_, hcl, hat⟩ := World.cells?_some hc
        obtain ⟨z, hz, rfl⟩ := hone n cs' _ ht
        refine ⟨z, fun _ => ⟨hz, fun j hj => ?_⟩⟩
        have c := hat j (by rw [hlen] at *; exact hj)
        rw [Go.Deep.add_add] at c
        exact c
      · exact ⟨d0, fun h => absurd h hi⟩
    obtain ⟨f, hf⟩ := Classical.skolem.1 hcell
    have hlen2 : ((List.range len).map f).length = len := by simp
    refine ⟨some y, len, cap, (List.range len).map f, hcs, ⟨by rw [fle_len eA sz hlen, hlen2], hl, hm, fun _ => rfl, fun j u hu => ?_⟩, fun x hx => ?_⟩
    · have hj := (List.getElem?_eq_some_iff.1 hu).1
      rw [fle_len eA sz hlen, hlen2] at hj
      have hi : j / sz < len := Nat.div_lt_of_lt_mul (by rw [Nat.mul_comm]; exact hj)
      have ej : j = j / sz * sz + j % sz := by rw [Nat.mul_comm]; exact (Nat.div_add_mod j sz).symm
      have hmz : j % sz < sz := Nat.mod_lt _ hp
      rw [ej, fle_at eA sz hlen _ _ (by rw [hlen2]; exact hi) _ hmz] at hu
      show w.cell? (y.add j) = some u
      rw [ej, (hf _ hi).2 _ hmz]
      simpa using hu
    · obtain ⟨i, hi, rfl⟩ := List.mem_map.1 hx
      exact (hf i (List.mem_range.1 hi)).1
theorem one_setR (h : DataW.trod enc Tryd.prog w base spare held fuel 24 cs = some x) : ∃ z : S, cs = [.int .u16 (sv z)] := by
  obtain ⟨z, e, _, b⟩ := DataW.trod_int Tryd.underlying24 h
  have q := bounds16 b
  exact ⟨BitVec.ofInt 16 z, by rw [e, sv_ofInt z q.1 q.2]⟩
theorem cells_2 : Tryd.prog.cellsOf 103 = 2 := by kernel_rfl
theorem cells_4 : Tryd.prog.cellsOf 53 = 4 := by kernel_rfl
theorem cells_9 : Tryd.prog.cellsOf 46 = 9 := by kernel_rfl
theorem cells_5 : Tryd.prog.cellsOf 32 = 5 := by kernel_rfl
theorem rd_heard (h : DataW.trod enc Tryd.prog w base spare held fuel 44 cs = some x) : ∃ (a : Option Addr) (len cap : Nat) (l : List Hd), cs = [.slice a len cap] ∧ Rd w a len cap 2 (hl l) := by
  obtain ⟨a, n, c, l, e, r, _⟩ := rd_rows eH 2 eH_len (by decide) (fun _ => True) hd0 Tryd.underlying44 cells_2 (fun n cs x h => by
    obtain ⟨xs, n', _, _, hcl2, hxl, hf⟩ := DataW.trod_struct Tryd.underlying103 h
    rw [cells_2] at hcl2
    obtain ⟨u0, u1, rfl⟩ := lenR2 hcl2
    obtain ⟨y0, y1, rfl⟩ := lenR2 (show xs.length = 2 from hxl)
    have f0 : DataW.trod enc Tryd.prog w base spare held n' 9 (([u0, u1].drop 0).take (Tryd.prog.cellsOf 9)) = some y0 := hf 0 _ rfl
    rw [show Tryd.prog.cellsOf 9 = 1 by kernel_rfl] at f0
    obtain ⟨z0, e0, _, _⟩ := DataW.trod_string Tryd.underlying9 f0
    have f1 : DataW.trod enc Tryd.prog w base spare held n' 24 (([u0, u1].drop 1).take (Tryd.prog.cellsOf 24)) = some y1 := hf 1 _ rfl
    rw [show Tryd.prog.cellsOf 24 = 1 by kernel_rfl] at f1
    obtain ⟨z1, e1⟩ := one_setR f1
    simp at e0 e1
    subst e0; subst e1
    exact ⟨⟨z0, z1⟩, trivial, rfl⟩) h
  exact ⟨a, n, c, l, e, r⟩
theorem rd_casts (h : DataW.trod enc Tryd.prog w base spare held fuel 30 cs = some x) : ∃ (a : Option Addr) (len cap : Nat) (l : List Ct), cs = [.slice a len cap] ∧ Rd w a len cap 4 (cl l) := by
  obtain ⟨a, n, c, l, e, r, _⟩ := rd_rows eC 4 eC_len (by decide) (fun _ => True) ct0 Tryd.underlying30 cells_4 (fun n cs x h => by
    obtain ⟨xs, n', _, _, hcl2, hxl, hf⟩ := DataW.trod_struct Tryd.underlying53 h
    rw [cells_4] at hcl2
    obtain ⟨u0, u1, u2, u3, rfl⟩ := lenR4 hcl2
    obtain ⟨y0, y1, y2, y3, rfl⟩ := lenR4 (show xs.length = 4 from hxl)
    have f0 : DataW.trod enc Tryd.prog w base spare held n' 3 (([u0, u1, u2, u3].drop 0).take (Tryd.prog.cellsOf 3)) = some y0 := hf 0 _ rfl
    rw [show Tryd.prog.cellsOf 3 = 1 by kernel_rfl] at f0
    obtain ⟨z0, e0, _, _⟩ := DataW.trod_int Tryd.underlying3 f0
    have f1 : DataW.trod enc Tryd.prog w base spare held n' 3 (([u0, u1, u2, u3].drop 1).take (Tryd.prog.cellsOf 3)) = some y1 := hf 1 _ rfl
    rw [show Tryd.prog.cellsOf 3 = 1 by kernel_rfl] at f1
    obtain ⟨z1, e1, _, _⟩ := DataW.trod_int Tryd.underlying3 f1
    have f2 : DataW.trod enc Tryd.prog w base spare held n' 3 (([u0, u1, u2, u3].drop 2).take (Tryd.prog.cellsOf 3)) = some y2 := hf 2 _ rfl
    rw [show Tryd.prog.cellsOf 3 = 1 by kernel_rfl] at f2
    obtain ⟨z2, e2, _, _⟩ := DataW.trod_int Tryd.underlying3 f2
    have f3 : DataW.trod enc Tryd.prog w base spare held n' 9 (([u0, u1, u2, u3].drop 3).take (Tryd.prog.cellsOf 9)) = some y3 := hf 3 _ rfl
    rw [show Tryd.prog.cellsOf 9 = 1 by kernel_rfl] at f3
    obtain ⟨z3, e3, _, _⟩ := DataW.trod_string Tryd.underlying9 f3
    simp at e0 e1 e2 e3
    subst e0; subst e1; subst e2; subst e3
    exact ⟨⟨z0, z1, z2, z3⟩, trivial, rfl⟩) h
  exact ⟨a, n, c, l, e, r⟩
set_option maxRecDepth 20000 in
theorem rd_nodes (h : DataW.trod enc Tryd.prog w base spare held fuel 29 cs = some x) : ∃ (a : Option Addr) (len cap : Nat) (l : List NA), cs = [.slice a len cap] ∧ Rd w a len cap 9 (nl l) ∧ ∀ z ∈ l, RdH w z :=
  rd_rows eN 9 eN_len (by decide) (fun z => RdH w z) na0 Tryd.underlying29 cells_9 (fun n cs x h => by
    obtain ⟨xs, n', _, _, hcl2, hxl, hf⟩ := DataW.trod_struct Tryd.underlying46 h
    rw [cells_9] at hcl2
    obtain ⟨u0, u1, u2, u3, u4, u5, u6, u7, u8, rfl⟩ := lenR9 hcl2
    obtain ⟨y0, y1, y2, y3, y4, y5, y6, y7, y8, rfl⟩ := lenR9 (show xs.length = 9 from hxl)
    have f0 : DataW.trod enc Tryd.prog w base spare held n' 3 (([u0, u1, u2, u3, u4, u5, u6, u7, u8].drop 0).take (Tryd.prog.cellsOf 3)) = some y0 := hf 0 _ rfl
    rw [show Tryd.prog.cellsOf 3 = 1 by kernel_rfl] at f0
    obtain ⟨z0, e0, _, _⟩ := DataW.trod_int Tryd.underlying3 f0
    have f1 : DataW.trod enc Tryd.prog w base spare held n' 9 (([u0, u1, u2, u3, u4, u5, u6, u7, u8].drop 1).take (Tryd.prog.cellsOf 9)) = some y1 := hf 1 _ rfl
    rw [show Tryd.prog.cellsOf 9 = 1 by kernel_rfl] at f1
    obtain ⟨z1, e1, _, _⟩ := DataW.trod_string Tryd.underlying9 f1
    have f2 : DataW.trod enc Tryd.prog w base spare held n' 4 (([u0, u1, u2, u3, u4, u5, u6, u7, u8].drop 2).take (Tryd.prog.cellsOf 4)) = some y2 := hf 2 _ rfl
    rw [show Tryd.prog.cellsOf 4 = 1 by kernel_rfl] at f2
    obtain ⟨z2, e2, _⟩ := DataW.trod_bool Tryd.underlying4 f2
    have f3 : DataW.trod enc Tryd.prog w base spare held n' 9 (([u0, u1, u2, u3, u4, u5, u6, u7, u8].drop 3).take (Tryd.prog.cellsOf 9)) = some y3 := hf 3 _ rfl
    rw [show Tryd.prog.cellsOf 9 = 1 by kernel_rfl] at f3
    obtain ⟨z3, e3, _, _⟩ := DataW.trod_string Tryd.underlying9 f3
    have f4 : DataW.trod enc Tryd.prog w base spare held n' 4 (([u0, u1, u2, u3, u4, u5, u6, u7, u8].drop 4).take (Tryd.prog.cellsOf 4)) = some y4 := hf 4 _ rfl
    rw [show Tryd.prog.cellsOf 4 = 1 by kernel_rfl] at f4
    obtain ⟨z4, e4, _⟩ := DataW.trod_bool Tryd.underlying4 f4
    have f5 : DataW.trod enc Tryd.prog w base spare held n' 9 (([u0, u1, u2, u3, u4, u5, u6, u7, u8].drop 5).take (Tryd.prog.cellsOf 9)) = some y5 := hf 5 _ rfl
    rw [show Tryd.prog.cellsOf 9 = 1 by kernel_rfl] at f5
    obtain ⟨z5, e5, _, _⟩ := DataW.trod_string Tryd.underlying9 f5
    have f6 : DataW.trod enc Tryd.prog w base spare held n' 4 (([u0, u1, u2, u3, u4, u5, u6, u7, u8].drop 6).take (Tryd.prog.cellsOf 4)) = some y6 := hf 6 _ rfl
    rw [show Tryd.prog.cellsOf 4 = 1 by kernel_rfl] at f6
    obtain ⟨z6, e6, _⟩ := DataW.trod_bool Tryd.underlying4 f6
    have f7 : DataW.trod enc Tryd.prog w base spare held n' 44 (([u0, u1, u2, u3, u4, u5, u6, u7, u8].drop 7).take (Tryd.prog.cellsOf 44)) = some y7 := hf 7 _ rfl
    rw [show Tryd.prog.cellsOf 44 = 1 by kernel_rfl] at f7
    obtain ⟨a7, n7, c7, l7, e7, r7⟩ := rd_heard f7
    have f8 : DataW.trod enc Tryd.prog w base spare held n' 44 (([u0, u1, u2, u3, u4, u5, u6, u7, u8].drop 8).take (Tryd.prog.cellsOf 44)) = some y8 := hf 8 _ rfl
    rw [show Tryd.prog.cellsOf 44 = 1 by kernel_rfl] at f8
    obtain ⟨a8, n8, c8, l8, e8, r8⟩ := rd_heard f8
    simp at e0 e1 e2 e3 e4 e5 e6 e7 e8
    subst e0; subst e1; subst e2; subst e3; subst e4; subst e5; subst e6; subst e7; subst e8
    have L7 := hl_rdlen r7; have L8 := hl_rdlen r8
    subst L7; subst L8
    exact ⟨⟨⟨z0, z1, z2, z3, z4, z5, z6, l7, l8⟩, a7, c7, a8, c8⟩, ⟨r7, r8⟩, rfl⟩) h
set_option maxRecDepth 20000 in
theorem open_run39 {r : Reach} {b0 : Nat} {v : Value} {d : DataW H} {p : List MemPlace} (hv : Value.okWide Tryd.prog w r b0 32 v) (h : DataW.Trod enc Tryd.prog w base spare held 32 v d p) :
    ∃ c : CD, HasC w c v := by
  obtain ⟨cs, rfl, hsz⟩ := okWide_struct Tryd.underlying32 hv
  obtain ⟨l⟩ := cs
  obtain ⟨fuel, hf0⟩ := h
  have hf1 : DataW.trod enc Tryd.prog w base spare held fuel 32 l = some (d, p) := hf0
  clear hf0 hsz hv
  obtain ⟨xs, n', _, _, hcl2, hxl, hf⟩ := DataW.trod_struct Tryd.underlying32 hf1
  rw [cells_5] at hcl2
  obtain ⟨u0, u1, u2, u3, u4, rfl⟩ := lenR5 hcl2
  obtain ⟨y0, y1, y2, y3, y4, rfl⟩ := lenR5 (show xs.length = 5 from hxl)
  have f0 : DataW.trod enc Tryd.prog w base spare held n' 3 (([u0, u1, u2, u3, u4].drop 0).take (Tryd.prog.cellsOf 3)) = some y0 := hf 0 _ rfl
  rw [show Tryd.prog.cellsOf 3 = 1 by kernel_rfl] at f0
  obtain ⟨z0, e0, _, _⟩ := DataW.trod_int Tryd.underlying3 f0
  have f1 : DataW.trod enc Tryd.prog w base spare held n' 24 (([u0, u1, u2, u3, u4].drop 1).take (Tryd.prog.cellsOf 24)) = some y1 := hf 1 _ rfl
  rw [show Tryd.prog.cellsOf 24 = 1 by kernel_rfl] at f1
  obtain ⟨z1, e1⟩ := one_setR f1
  have f2 : DataW.trod enc Tryd.prog w base spare held n' 3 (([u0, u1, u2, u3, u4].drop 2).take (Tryd.prog.cellsOf 3)) = some y2 := hf 2 _ rfl
  rw [show Tryd.prog.cellsOf 3 = 1 by kernel_rfl] at f2
  obtain ⟨z2, e2, _, _⟩ := DataW.trod_int Tryd.underlying3 f2
  have f3 : DataW.trod enc Tryd.prog w base spare held n' 29 (([u0, u1, u2, u3, u4].drop 3).take (Tryd.prog.cellsOf 29)) = some y3 := hf 3 _ rfl
  rw [show Tryd.prog.cellsOf 29 = 1 by kernel_rfl] at f3
  obtain ⟨a3, n3, c3, l3, e3, r3, k3⟩ := rd_nodes f3
  have f4 : DataW.trod enc Tryd.prog w base spare held n' 30 (([u0, u1, u2, u3, u4].drop 4).take (Tryd.prog.cellsOf 30)) = some y4 := hf 4 _ rfl
  rw [show Tryd.prog.cellsOf 30 = 1 by kernel_rfl] at f4
  obtain ⟨a4, n4, c4, l4, e4, r4⟩ := rd_casts f4
  simp at e0 e1 e2 e3 e4
  subst e0; subst e1; subst e2; subst e3; subst e4
  have L3 := nl_rdlen r3; have L4 := cl_rdlen r4
  subst L3; subst L4
  exact ⟨⟨z0, z1, z2, ⟨l3.map NA.x, l4⟩⟩, a3, c3, l3, a4, c4, rfl, r3, r4, k3, rfl⟩
end
end Go.Proofs.YtbcfkgolhklkaaaDoor
