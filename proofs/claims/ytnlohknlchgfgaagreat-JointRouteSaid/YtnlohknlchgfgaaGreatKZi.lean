/- Texts joined into one (wip/bin/pack.py): Same08, Awake29. -/
import Derived.Test.YtnlohknlchgfgaaGreatKH
import Derived.BigQuiet
import Derived.Test.YtnlohknlchgfgaaGreatKZh
/- The reference's Same of lists of sets. -/
namespace Go.Proofs.YtnlohknlchgfgaaGreat
open Go.RowKit Go.Lib Go.Shelf

theorem eqFrom_cons8 (x y : S) (xs ys : List S) : eqFrom (x :: xs) (y :: ys) = ((x == y) && eqFrom xs ys) := by
  rw [eqFrom]; cases h : x == y <;> simp [bne, h]
set_option maxHeartbeats 800000 in
theorem rSame08_any (a : Option Addr) (n c : Nat) (l : List S) (a2 : Option Addr) (n2 c2 : Nat) (l2 : List S) (w : World) (h : Rd w a n c 1 (sl l)) (h2 : Rd w a2 n2 c2 1 (sl l2)) :
    Calls Tryz.prog 31 #[.slice a n c, .slice a2 n2 c2] w fun e w' => e = .returned (.bool (eqS l l2)) ∧ Keeps w w' := by
  have L := Lib.hid h.lenS
  have L2 := Lib.hid h2.lenS
  have s1 := h.small
  by_cases hn : n = n2
  · subst hn
    have he : Hid (eqS l l2 = eqFrom l l2) := by show _ = _; unfold eqS; rw [if_neg (by have := L.out; have := L2.out; simp; omega)]
    go_enter Tryz.func31, Tryz.ntmps31
    go_wp2
    go_loopw [5] (fun v wr => ∃ (k : Nat), k ≤ n ∧ v = .int .i64 k ∧ Keeps w wr ∧ Hid (eqS l l2 = eqFrom (l.drop k) (l2.drop k))) (fun v _ => n - (intOf v).toNat)
    case atStart => exact ⟨0, Nat.zero_le _, rfl, Keeps.refl _, he⟩
    case round =>
      obtain ⟨k, hk, rfl, K1, HI⟩ := hrel
      by_cases hlt : k < n
      · have hc := (h.keep K1).at hlt
        have hc2 := (h2.keep K1).at hlt
        have hs := h.isSome (by omega)
        have hs2 := h2.isSome (by omega)
        have hst := HI.out
        rw [dropH L hlt, dropH L2 hlt, eqFrom_cons8] at hst
        cases hxy : (at_ l k == at_ l2 k) with
        | true =>
          have HJ : Hid (eqS l l2 = eqFrom (l.drop (k + 1)) (l2.drop (k + 1))) := by show _ = _; rw [hst, hxy]; rfl
          have hxy' : (at_ l k != at_ l2 k) = false := by simp [bne, hxy]
          clear hst HI hxy
          go_wp2_with (go_quiet (fail))
          go_roundw
          case rel => exact ⟨k + 1, by omega, rfl, by first | exact K1 | exact K1.drew | exact K1.drewN _, HJ⟩
          case measure => simp [intOf]; omega
        | false =>
          have HJ : Hid (eqS l l2 = false) := by show _ = _; rw [hst, hxy]; rfl
          have hxy' : (at_ l k != at_ l2 k) = true := by simp [bne, hxy]
          clear hst HI hxy
          go_wp2_with (go_quiet (fail))
          go_ret
          rw [HJ.out]
          exact ⟨rfl, by first | exact K1 | exact K1.drew | exact K1.drewN _⟩
      · have HJ : Hid (eqS l l2 = true) := by
          show _ = _
          rw [HI.out, dropN L hlt]; simp [eqFrom]
        clear HI
        go_wp2
        go_ret
        rw [HJ.out]
        exact ⟨rfl, K1⟩
  · have he : eqS l l2 = false := by unfold eqS; rw [if_pos (by have := L.out; have := L2.out; simp; omega)]
    rw [he]
    have hb : ((n : Int) != (n2 : Int)) = true := by rw [bne_iff_ne]; omega
    clear he
    go_enter Tryz.func31, Tryz.ntmps31
    go_wp2
    go_ret
    exact ⟨rfl, Keeps.refl _⟩

end Go.Proofs.YtnlohknlchgfgaaGreat
/- The statements' own example (layer 29). -/
namespace Go.Proofs.YtnlohknlchgfgaaGreat
open Go.RowKit Go.Lib Go.Shelf

theorem rd_lit {e : TypeId} {sz : Nat} {w : World} {cs : List Value} {n m : Nat} (h : w.heap.size = m) (hn : n ≤ maxLen) (hs : cs.length = n * sz) : Rd (w.alloc (.cells cs.toArray e)) (some ⟨m, 0, none⟩) n n sz cs := by
  subst h; exact rd_new e sz w cs n hn hs
def exA : Cf := ⟨⟨#[97]⟩, 1, 1#16, [1#16], [1#16], [(0#16, 0#16)]⟩
def exB : Cf := ⟨⟨#[98]⟩, 1, 7#16, [3#16, 5#16, 6#16], [3#16, 5#16, 6#16], [(0#16, 1#16), (0#16, 2#16), (0#16, 4#16)]⟩
def exJ : Cf := ⟨jNm, 1, 7#16, [3#16, 5#16], [3#16, 5#16], [(0#16, 2#16), (0#16, 4#16)]⟩
theorem exAv : cvf exA = 0 := by decide +kernel
theorem exBv : cvf exB = 0 := by decide +kernel
theorem exAnd : andS [1#16] [3#16, 5#16, 6#16] = ([3#16, 5#16], 0) := by
  unfold andS
  rw [if_neg (by decide +kernel), if_neg (by decide +kernel), least_same]
  decide +kernel
theorem exN : nmzE (jnL exA exB) = 0 := by decide +kernel
theorem exL : nmzL (jnL exA exB) = [(0#16, 2#16), (0#16, 4#16)] := by decide +kernel
theorem exOf : ofE exA exB = 0 ∧ ofC exA exB = exJ := by
  have e : ofE exA exB = 0 := by
    unfold ofE
    rw [if_neg (by simp [exAv]), if_neg (by simp [exBv]), show andS exA.R exB.R = ([3#16, 5#16], 0) from exAnd, show andS exA.Q exB.Q = ([3#16, 5#16], 0) from exAnd, exN]
    rfl
  refine ⟨e, ?_⟩
  unfold ofC
  rw [if_neg (by simp [e]), show andS exA.R exB.R = ([3#16, 5#16], 0) from exAnd, show andS exA.Q exB.Q = ([3#16, 5#16], 0) from exAnd, exL]
  rfl
set_option maxRecDepth 20000 in
set_option maxHeartbeats 4000000 in
theorem awake29_any (w : World) : Calls Tryz.prog 8 #[] w fun e w' => e = .returned (.bool true) ∧ Keeps w w' := by
  go_enter Tryz.func8, Tryz.ntmps8
  go_wp2_with fail
  have hs : ∀ (o : Obj) (W : World) (m : Nat), W.heap.size = m → (W.alloc o).heap.size = m + 1 := fun o W m h => by rw [World.size_alloc, h]
  have q0 := rd_lit (e := 29) (sz := 1) (w := w) (cs := [.int .u16 3, .int .u16 5, .int .u16 6]) (n := 3) rfl (by decide) rfl
  have e1 := hs (.cells #[.int .u16 3, .int .u16 5, .int .u16 6] 29) w _ rfl
  have q1 := rd_lit (e := 29) (sz := 1) (cs := [.int .u16 1]) (n := 1) e1 (by decide) rfl
  have e2 := hs (.cells #[.int .u16 1] 29) _ _ e1
  have q2 := rd_lit (e := 29) (sz := 1) (cs := [.int .u16 1]) (n := 1) e2 (by decide) rfl
  have e3 := hs (.cells #[.int .u16 1] 29) _ _ e2
  have q3 := rd_lit (e := 59) (sz := 2) (cs := [.int .u16 0, .int .u16 0]) (n := 1) e3 (by decide) rfl
  have e4 := hs (.cells #[.int .u16 0, .int .u16 0] 59) _ _ e3
  have e5 := hs (.cells #[.string ⟨#[97]⟩, .int .i64 1, .int .u16 1, .slice (some ⟨w.heap.size + 1, 0, none⟩) 1 1, .slice (some ⟨w.heap.size + 1 + 1, 0, none⟩) 1 1, .slice (some ⟨w.heap.size + 1 + 1 + 1, 0, none⟩) 1 1] 32) _ _ e4
  have q5 := rd_lit (e := 59) (sz := 2) (cs := [.int .u16 0, .int .u16 1, .int .u16 0, .int .u16 2, .int .u16 0, .int .u16 4]) (n := 3) e5 (by decide) rfl
  refine (jof_any ⟨exA, some ⟨w.heap.size + 1, 0, none⟩, 1, some ⟨w.heap.size + 1 + 1, 0, none⟩, 1, some ⟨w.heap.size + 1 + 1 + 1, 0, none⟩, 1⟩ ⟨exB, some ⟨w.heap.size, 0, none⟩, 3, some ⟨w.heap.size, 0, none⟩, 3, some ⟨w.heap.size + 1 + 1 + 1 + 1 + 1, 0, none⟩, 3⟩ _
    ⟨q1.keep (((((Keeps.refl _).alloc _).alloc _).alloc _).alloc _ |>.alloc _), q2.keep ((((Keeps.refl _).alloc _).alloc _).alloc _ |>.alloc _), q3.keep ((((Keeps.refl _).alloc _).alloc _).alloc _)⟩
    ⟨q0.keep ((((((Keeps.refl _).alloc _).alloc _).alloc _).alloc _).alloc _ |>.alloc _), q0.keep ((((((Keeps.refl _).alloc _).alloc _).alloc _).alloc _).alloc _ |>.alloc _), q5.keep ((Keeps.refl _).alloc _)⟩).mono ?_
  intro e w1 hret
  have KW : Keeps w w1 := by
    obtain ⟨_, _, _, _, K⟩ := hret
    exact (((((((Keeps.refl w).alloc _).alloc _).alloc _).alloc _).alloc _).alloc _ |>.alloc _).trans K
  obtain ⟨⟨c, ar, cr, aw, cw, af, cf⟩, rfl, hc, hR, _⟩ := hret
  dsimp only at hc hR
  rw [show ofC exA exB = exJ from exOf.2] at hc
  subst hc
  have he : ofE (exA) (exB) = 0 := exOf.1
  dsimp only
  rw [he]
  have hr := hR.rd.r; have hf := hR.rd.f
  have hr1 : Rd w1 ar 2 cr 1 (sl [3#16, 5#16]) := hr
  have hf1 : Rd w1 af 2 cf 2 (fl [(0#16, 2#16), (0#16, 4#16)]) := hf
  have HR1 := Lib.hid hr1; have HF1 := Lib.hid hf1; have HKW := Lib.hid KW
  clear q0 q1 q2 q3 q5 e1 e2 e3 e4 e5 hs hR hr hf hr1 hf1 he KW
  unfold vg
  dsimp only [exJ, jNm]
  generalize w.heap.size = hw at *
  have hb := Blk.new w1 32 #[.string ⟨#[106, 111, 105, 110, 116]⟩, .int .i64 1, .int .u16 (sv 7#16), .slice ar 2 cr, .slice aw 2 cw, .slice af 2 cf]
  have K1 := (Keeps.refl w1).alloc (.cells #[.string ⟨#[106, 111, 105, 110, 116]⟩, .int .i64 1, .int .u16 (sv 7#16), .slice ar 2 cr, .slice aw 2 cw, .slice af 2 cf] 32)
  have h7 : sv 7#16 = 7 := rfl
  rw [h7] at hb K1
  clear h7
  have hs : ∀ (o : Obj) (W : World) (m : Nat), W.heap.size = m → (W.alloc o).heap.size = m + 1 := fun o W m h => by rw [World.size_alloc, h]
  have e1 := hs (.cells #[.string ⟨#[106, 111, 105, 110, 116]⟩, .int .i64 1, .int .u16 7, .slice ar 2 cr, .slice aw 2 cw, .slice af 2 cf] 32) w1 _ rfl
  have q1 := rd_lit (e := 29) (sz := 1) (cs := [.int .u16 3, .int .u16 5]) (n := 2) e1 (by decide) rfl
  have Q1 := Lib.hid q1; have HB := Lib.hid hb
  clear q1 hb hs e1
  go_wp2_with fail
  refine (rSame08_any ar 2 cr [3#16, 5#16] _ 2 _ [3#16, 5#16] _ (HR1.out.keep (K1.alloc _)) Q1.out).mono ?_
  rintro e w2 ⟨rfl, K2⟩
  rw [show eqS [3#16, 5#16] [3#16, 5#16] = true by decide +kernel]
  have K3 := (K1.alloc _).trans K2
  have hb2 := HB.out.keep (((Keeps.refl _).alloc _).trans K2)
  obtain ⟨b0, b1, b2, b3, b4, b5⟩ := hb2.c6
  have q2 := rd_lit (e := 59) (sz := 2) (w := w2) (cs := [.int .u16 0, .int .u16 2, .int .u16 0, .int .u16 4]) (n := 2) rfl (by decide) rfl
  have Q2 := Lib.hid q2; have HK3 := Lib.hid K3
  clear q2 K1 K2 K3 hb2 HB
  go_wp2_with fail
  refine (rSame19e_any af 2 cf [(0#16, 2#16), (0#16, 4#16)] _ _ _ (HF1.out.keep (HK3.out.alloc _)) Q2.out).mono ?_
  rintro e w3 ⟨rfl, K4⟩
  have K5 := HKW.out.trans ((HK3.out.alloc _).trans K4)
  have HK5 := Lib.hid K5
  clear K5 K4 b0 b1 b2 b3 b4 b5
  go_wp2_with fail
  go_ret
  exact ⟨rfl, HK5.out⟩
end Go.Proofs.YtnlohknlchgfgaaGreat
