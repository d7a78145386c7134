/- Texts joined into one, what is needed of them (a program of ours). -/
import Derived.Test.YtijknodekomdfaaGreatDoorBKA
import Derived.Test.YtijknodekomdfaaGreatDoorBKC
import Derived.Deep.DeepCutAuto
import Derived.Deep.RegionHeld3
namespace Go.Proofs.YtijknodekomdfaaGreatDoor
open Go.RowKit Go.Lib Go.Shelf

end Go.Proofs.YtijknodekomdfaaGreatDoor
namespace Go.Proofs.YtijknodekomdfaaGreatDoor
open Go.RowKit Go.Lib Go.Shelf

theorem Blk.c9 {w : World} {B : Nat} {T : TypeId} {v0 v1 v2 v3 v4 v5 v6 v7 v8 : Value} (h : Blk w B T #[v0, v1, v2, v3, v4, v5, v6, v7, v8]) : w.cell? ⟨B, 0, none⟩ = some (v0) ∧ w.cell? ⟨B, 1, none⟩ = some (v1) ∧ w.cell? ⟨B, 2, none⟩ = some (v2) ∧ w.cell? ⟨B, 3, none⟩ = some (v3) ∧ w.cell? ⟨B, 4, none⟩ = some (v4) ∧ w.cell? ⟨B, 5, none⟩ = some (v5) ∧ w.cell? ⟨B, 6, none⟩ = some (v6) ∧ w.cell? ⟨B, 7, none⟩ = some (v7) ∧ w.cell? ⟨B, 8, none⟩ = some (v8) := ⟨h.cell 0 rfl, h.cell 1 rfl, h.cell 2 rfl, h.cell 3 rfl, h.cell 4 rfl, h.cell 5 rfl, h.cell 6 rfl, h.cell 7 rfl, h.cell 8 rfl⟩
theorem Blk.f9 {w : World} {B : Nat} {T : TypeId} {cs : Array Value} (h : Blk w B T cs) : w.frozen? ⟨B, 0, none⟩ = false ∧ w.frozen? ⟨B, 1, none⟩ = false ∧ w.frozen? ⟨B, 2, none⟩ = false ∧ w.frozen? ⟨B, 3, none⟩ = false ∧ w.frozen? ⟨B, 4, none⟩ = false ∧ w.frozen? ⟨B, 5, none⟩ = false ∧ w.frozen? ⟨B, 6, none⟩ = false ∧ w.frozen? ⟨B, 7, none⟩ = false ∧ w.frozen? ⟨B, 8, none⟩ = false := ⟨h.frozen 0, h.frozen 1, h.frozen 2, h.frozen 3, h.frozen 4, h.frozen 5, h.frozen 6, h.frozen 7, h.frozen 8⟩
theorem Blk.set9 {w : World} {B : Nat} {T : TypeId} {v0 v1 v2 v3 v4 v5 v6 v7 v8 : Value} (h : Blk w B T #[v0, v1, v2, v3, v4, v5, v6, v7, v8]) (u0 u1 u2 u3 u4 u5 u6 u7 u8 : Value) : Blk ((((((((((w.setCell ⟨B, 0, none⟩ (u0)).setCell ⟨B, 1, none⟩ (u1)).setCell ⟨B, 2, none⟩ (u2)).setCell ⟨B, 3, none⟩ (u3)).setCell ⟨B, 4, none⟩ (u4)).setCell ⟨B, 5, none⟩ (u5)).setCell ⟨B, 6, none⟩ (u6)).setCell ⟨B, 7, none⟩ (u7)).setCell ⟨B, 8, none⟩ (u8))) B T #[u0, u1, u2, u3, u4, u5, u6, u7, u8] := by
  replace h : Blk (w.setCell ⟨B, 0, none⟩ (u0)) B T #[u0, v1, v2, v3, v4, v5, v6, v7, v8] := h.set 0 u0
  replace h : Blk ((w.setCell ⟨B, 0, none⟩ (u0)).setCell ⟨B, 1, none⟩ (u1)) B T #[u0, u1, v2, v3, v4, v5, v6, v7, v8] := h.set 1 u1
  replace h : Blk (((w.setCell ⟨B, 0, none⟩ (u0)).setCell ⟨B, 1, none⟩ (u1)).setCell ⟨B, 2, none⟩ (u2)) B T #[u0, u1, u2, v3, v4, v5, v6, v7, v8] := h.set 2 u2
  replace h : Blk ((((w.setCell ⟨B, 0, none⟩ (u0)).setCell ⟨B, 1, none⟩ (u1)).setCell ⟨B, 2, none⟩ (u2)).setCell ⟨B, 3, none⟩ (u3)) B T #[u0, u1, u2, u3, v4, v5, v6, v7, v8] := h.set 3 u3
  replace h : Blk (((((w.setCell ⟨B, 0, none⟩ (u0)).setCell ⟨B, 1, none⟩ (u1)).setCell ⟨B, 2, none⟩ (u2)).setCell ⟨B, 3, none⟩ (u3)).setCell ⟨B, 4, none⟩ (u4)) B T #[u0, u1, u2, u3, u4, v5, v6, v7, v8] := h.set 4 u4
  replace h : Blk ((((((w.setCell ⟨B, 0, none⟩ (u0)).setCell ⟨B, 1, none⟩ (u1)).setCell ⟨B, 2, none⟩ (u2)).setCell ⟨B, 3, none⟩ (u3)).setCell ⟨B, 4, none⟩ (u4)).setCell ⟨B, 5, none⟩ (u5)) B T #[u0, u1, u2, u3, u4, u5, v6, v7, v8] := h.set 5 u5
  replace h : Blk (((((((w.setCell ⟨B, 0, none⟩ (u0)).setCell ⟨B, 1, none⟩ (u1)).setCell ⟨B, 2, none⟩ (u2)).setCell ⟨B, 3, none⟩ (u3)).setCell ⟨B, 4, none⟩ (u4)).setCell ⟨B, 5, none⟩ (u5)).setCell ⟨B, 6, none⟩ (u6)) B T #[u0, u1, u2, u3, u4, u5, u6, v7, v8] := h.set 6 u6
  replace h : Blk ((((((((w.setCell ⟨B, 0, none⟩ (u0)).setCell ⟨B, 1, none⟩ (u1)).setCell ⟨B, 2, none⟩ (u2)).setCell ⟨B, 3, none⟩ (u3)).setCell ⟨B, 4, none⟩ (u4)).setCell ⟨B, 5, none⟩ (u5)).setCell ⟨B, 6, none⟩ (u6)).setCell ⟨B, 7, none⟩ (u7)) B T #[u0, u1, u2, u3, u4, u5, u6, u7, v8] := h.set 7 u7
  replace h : Blk (((((((((w.setCell ⟨B, 0, none⟩ (u0)).setCell ⟨B, 1, none⟩ (u1)).setCell ⟨B, 2, none⟩ (u2)).setCell ⟨B, 3, none⟩ (u3)).setCell ⟨B, 4, none⟩ (u4)).setCell ⟨B, 5, none⟩ (u5)).setCell ⟨B, 6, none⟩ (u6)).setCell ⟨B, 7, none⟩ (u7)).setCell ⟨B, 8, none⟩ (u8)) B T #[u0, u1, u2, u3, u4, u5, u6, u7, u8] := h.set 8 u8
  exact h
theorem Blk.other9 {w : World} {B : Nat} {T : TypeId} {cs : Array Value} (h : Blk w B T cs) {C : Nat} (hC : B ≠ C) (u0 u1 u2 u3 u4 u5 u6 u7 u8 : Value) : Blk ((((((((((w.setCell ⟨C, 0, none⟩ (u0)).setCell ⟨C, 1, none⟩ (u1)).setCell ⟨C, 2, none⟩ (u2)).setCell ⟨C, 3, none⟩ (u3)).setCell ⟨C, 4, none⟩ (u4)).setCell ⟨C, 5, none⟩ (u5)).setCell ⟨C, 6, none⟩ (u6)).setCell ⟨C, 7, none⟩ (u7)).setCell ⟨C, 8, none⟩ (u8))) B T cs :=
  (((((((((h.setOther hC 0 u0).setOther hC 1 u1).setOther hC 2 u2).setOther hC 3 u3).setOther hC 4 u4).setOther hC 5 u5).setOther hC 6 u6).setOther hC 7 u7).setOther hC 8 u8)
theorem keeps_set9 {w W : World} (h : Keeps w W) {B : Nat} (hB : w.heap.size ≤ B) (u0 u1 u2 u3 u4 u5 u6 u7 u8 : Value) : Keeps w ((((((((((W.setCell ⟨B, 0, none⟩ (u0)).setCell ⟨B, 1, none⟩ (u1)).setCell ⟨B, 2, none⟩ (u2)).setCell ⟨B, 3, none⟩ (u3)).setCell ⟨B, 4, none⟩ (u4)).setCell ⟨B, 5, none⟩ (u5)).setCell ⟨B, 6, none⟩ (u6)).setCell ⟨B, 7, none⟩ (u7)).setCell ⟨B, 8, none⟩ (u8))) :=
  (keeps_set (keeps_set (keeps_set (keeps_set (keeps_set (keeps_set (keeps_set (keeps_set (keeps_set h hB 0 u0) hB 1 u1) hB 2 u2) hB 3 u3) hB 4 u4) hB 5 u5) hB 6 u6) hB 7 u7) hB 8 u8)
theorem own_oth9 {e : TypeId} {sz : Nat} {w0 w : World} {v : Value} {n : Nat} {xs : List Value} (h : Own e sz w0 w v n xs) {B : Nat} {T : TypeId} {cs : Array Value} (hB : Blk w B T cs) (hT : T ≠ e) (hle : w0.heap.size ≤ B) (i : Nat) (u : Value) : Own e sz w0 (w.setCell ⟨B, i, none⟩ u) v n xs := by
  obtain ⟨⟨h1, h2⟩, hk⟩ := h
  refine ⟨⟨h1, ?_⟩, keeps_set hk hle i u⟩
  rcases h2 with ⟨a, b⟩ | ⟨g, cap, cur, hv, hg, hh, r⟩
  · exact Or.inl ⟨a, b⟩
  · refine Or.inr ⟨g, cap, cur, hv, hg, ?_, r⟩
    have hne : g ≠ B := by
      rintro rfl
      unfold Blk at hB
      rw [hB] at hh
      injection hh with hh
      injection hh with _ hh2
      exact hT hh2
    rw [Below.heap_setCell _ _ _ _ (by simpa using hne)]; exact hh
theorem own_other9 {e : TypeId} {sz : Nat} {w0 w : World} {v : Value} {n : Nat} {xs : List Value} (h : Own e sz w0 w v n xs) {B : Nat} {T : TypeId} {cs : Array Value} (hB : Blk w B T cs) (hT : T ≠ e) (hle : w0.heap.size ≤ B) (u0 u1 u2 u3 u4 u5 u6 u7 u8 : Value) : Own e sz w0 ((((((((((w.setCell ⟨B, 0, none⟩ (u0)).setCell ⟨B, 1, none⟩ (u1)).setCell ⟨B, 2, none⟩ (u2)).setCell ⟨B, 3, none⟩ (u3)).setCell ⟨B, 4, none⟩ (u4)).setCell ⟨B, 5, none⟩ (u5)).setCell ⟨B, 6, none⟩ (u6)).setCell ⟨B, 7, none⟩ (u7)).setCell ⟨B, 8, none⟩ (u8))) v n xs := by
  replace h := own_oth9 h hB hT hle 0 u0; replace hB := hB.set 0 u0
  replace h := own_oth9 h hB hT hle 1 u1; replace hB := hB.set 1 u1
  replace h := own_oth9 h hB hT hle 2 u2; replace hB := hB.set 2 u2
  replace h := own_oth9 h hB hT hle 3 u3; replace hB := hB.set 3 u3
  replace h := own_oth9 h hB hT hle 4 u4; replace hB := hB.set 4 u4
  replace h := own_oth9 h hB hT hle 5 u5; replace hB := hB.set 5 u5
  replace h := own_oth9 h hB hT hle 6 u6; replace hB := hB.set 6 u6
  replace h := own_oth9 h hB hT hle 7 u7; replace hB := hB.set 7 u7
  replace h := own_oth9 h hB hT hle 8 u8; replace hB := hB.set 8 u8
  exact h
theorem resNode {fn : Func} {p u : Tmp} (h : fn.results = #[.cell p 153, .tmp u]) {tmps : Array Value} {W : World} {B : Nat} {z : NA} {v : Value}
    (hB : Blk W B 153 #[.int .i64 z.x.id, .string z.x.echoed, .bool z.x.hasE, .string z.x.readied, .bool z.x.hasR, .string z.x.delivered, .bool z.x.hasD, .slice z.ae z.x.echoes.length z.ce, .slice z.ar z.x.readies.length z.cr]) (tp : tmps.getD p undef = .pointer (some ⟨B, 0, none⟩)) (tu : tmps.getD u undef = v) :
    (results fn tmps).run Tryz.prog W = .ok (.tuple #[vn z, v]) W := by
  rw [results_cell_tmp h, tp, tu]
  obtain ⟨k0, k1, k2, k3, k4, k5, k6, k7, k8⟩ := hB.c9
  simp [go_sem, vn, asAddr, loadVar, loadCells, loadCellsFrom, k0, k1, k2, k3, k4, k5, k6, k7, k8]
end Go.Proofs.YtijknodekomdfaaGreatDoor
namespace Go.Proofs.YtijknodekomdfaaGreatDoor
open Go.RowKit Go.Lib Go.Shelf

theorem Blk.c7 {w : World} {B : Nat} {T : TypeId} {v0 v1 v2 v3 v4 v5 v6 : Value} (h : Blk w B T #[v0, v1, v2, v3, v4, v5, v6]) : w.cell? ⟨B, 0, none⟩ = some v0 ∧ w.cell? ⟨B, 1, none⟩ = some v1 ∧ w.cell? ⟨B, 2, none⟩ = some v2 ∧ w.cell? ⟨B, 3, none⟩ = some v3 ∧ w.cell? ⟨B, 4, none⟩ = some v4 ∧ w.cell? ⟨B, 5, none⟩ = some v5 ∧ w.cell? ⟨B, 6, none⟩ = some v6 :=
  ⟨h.cell 0 rfl, h.cell 1 rfl, h.cell 2 rfl, h.cell 3 rfl, h.cell 4 rfl, h.cell 5 rfl, h.cell 6 rfl⟩
/-- correct as the program computes it -/
def corrI (n : Nat) (byz : S) (i : Int) : Bool := decide (0 ≤ i) && corr n byz i.toNat
theorem bit0_S (s : S) (i : Nat) : (s >>> i &&& 1#16 == 0#16) = !s.getLsbD i := by
  show _ = !s.toNat.testBit i
  rw [← hbT s i]
  cases h : (s >>> i &&& 1#16 == 1#16) with
  | true =>
    have := beq_iff_eq.1 h
    rw [this]; rfl
  | false =>
    have h1 := beq_eq_false_iff_ne.1 h
    have : s >>> i &&& 1#16 = 0#16 := by
      apply BitVec.eq_of_getLsbD_eq
      intro j hj
      by_cases h0 : j = 0
      · subst h0
        cases hb : (s >>> i &&& 1#16).getLsbD 0 with
        | false => simp
        | true =>
          exfalso
          apply h1
          apply BitVec.eq_of_getLsbD_eq
          intro k hk
          by_cases hk0 : k = 0
          · subst hk0; rw [hb]; rfl
          · simp [BitVec.getLsbD_one, hk0]
      · simp [BitVec.getLsbD_one, h0]
    rw [this]; rfl
set_option maxHeartbeats 1000000 in
theorem correct39_any (n : Nat) (hn : n ≤ 16) (byz : S) (i : Int) (B : Nat) (fv bv sv' nv gv : Value) (w : World) (hB : Blk w B 148 #[fv, bv, .int .i64 n, .int .u16 (sv byz), sv', nv, gv]) :
    Calls Tryz.prog 88 #[.pointer (some ⟨B, 0, none⟩), .int .i64 i] w fun e w' => e = .returned (.bool (corrI n byz i)) ∧ w = w' := by
  obtain ⟨c0, c1, c2, c3, c4, c5, c6⟩ := hB.c7
  clear c0 c1 c4 c5 c6
  by_cases h0 : 0 ≤ i
  · obtain ⟨k, rfl⟩ : ∃ k : Nat, i = (k : Int) := ⟨i.toNat, by omega⟩
    by_cases h1 : k < n
    · have e1 : corrI n byz (k : Int) = (byz >>> k &&& 1#16 == 0#16) := by
        unfold corrI corr
        rw [bit0_S, Int.toNat_natCast]
        simp [h0, h1]
      rw [e1]
      have hmin : min k 16 = k := by omega
      go_enter Tryz.func88, Tryz.ntmps88
      go_wp2_with fail
      go_ret
      exact ⟨rfl, rfl⟩
    · have e1 : corrI n byz (k : Int) = false := by
        unfold corrI corr
        rw [Int.toNat_natCast]
        simp [h1]
      rw [e1]
      go_enter Tryz.func88, Tryz.ntmps88
      go_wp2_with fail
      go_ret
      exact ⟨by simp, rfl⟩
  · have e1 : corrI n byz i = false := by
      unfold corrI
      simp [h0]
    rw [e1]
    go_enter Tryz.func88, Tryz.ntmps88
    go_wp2_with fail
    go_ret
    exact ⟨by simp, rfl⟩
end Go.Proofs.YtijknodekomdfaaGreatDoor
