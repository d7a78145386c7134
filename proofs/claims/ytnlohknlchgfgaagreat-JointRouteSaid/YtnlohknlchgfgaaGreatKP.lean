/- Texts joined into one (wip/bin/pack.py): R28d. -/
import Derived.Lib.QuietBelow
import Derived.Test.YtnlohknlchgfgaaGreatKK
import Derived.Test.YtnlohknlchgfgaaGreatKF
/- The reference's Tolerates, Stronger, Covers, inside, checked, Minimal, Maximal. -/
namespace Go.Proofs.YtnlohknlchgfgaaGreat
open Go.RowKit Go.Lib Go.Shelf

/-- the subsets of a set among the first numbers -/
def inTo (M : S) : Nat → List S
  | 0 => []
  | x + 1 => inTo M x ++ (if (BitVec.ofNat 16 x &&& ~~~M == 0#16) then [BitVec.ofNat 16 x] else [])
theorem inTo_len (M : S) : ∀ x, (inTo M x).length ≤ x
  | 0 => Nat.le_refl _
  | x + 1 => by
    have := inTo_len M x
    rw [inTo, List.length_append]
    split <;> simp <;> omega
def insM (M : S) : List S := inTo M 4096
theorem insM_eq (M : S) : ∀ x, x = 4096 → inTo M x = insM M := fun x h => by rw [h, insM]
def chkR (l out : List S) : List S × Int := if l.any outS then ([], 7) else if 400 < out.length then ([], 3) else (out, 0)
set_option maxRecDepth 20000 in
theorem checked_any (w0 : World) (a : Option Addr) (n c : Nat) (l : List S) (v : Value) (o : List S) (w : World) (h : Rd w a n c 1 (sl l)) (hv : Own 29 1 w0 w v o.length (sl o)) :
    Calls Tryz.prog 99 #[.slice a n c, v] w fun e w' => RetS w0 (chkR l o) e w' := by
  have L := h.lenS
  subst L
  have sm := h.small
  obtain ⟨a2, c2, rfl, hR2⟩ := hv.rd
  have s2 := hR2.small
  have KV := hv.2
  have HV := Lib.hid hv
  have hres : chkR l o = if l.any outS then ([], 7) else if 400 < o.length then ([], 3) else (o, 0) := rfl
  have HRES := Lib.hid hres
  clear hres hR2 hv
  generalize chkR l o = res at *
  go_enter Tryz.func99, Tryz.ntmps99
  go_wp2_with fail
  go_loopw [6] (fun u wr => ∃ i : Nat, i ≤ l.length ∧ u = .int .i64 i ∧ w = wr ∧ Hid (l.any outS = (l.drop i).any outS)) (fun u _ => l.length - (intOf u).toNat)
  case atStart => exact ⟨0, Nat.zero_le _, rfl, rfl, rfl⟩
  case round =>
    obtain ⟨i, hi, rfl, rfl, HI⟩ := hrel
    by_cases hlt : i < l.length
    · have hc := h.at hlt
      have hs := h.isSome (by omega)
      have hst := HI.out
      rw [drop_at l i hlt, List.any_cons] at hst
      have hcon := fun W => range_any (at_ l i) W
      generalize at_ l i = x at *
      cases hq : outS x
      · have hq' : (x &&& 61440#16 != 0#16) = false := hq
        rw [hq, Bool.false_or] at hst
        rw [hq'] at hcon
        have HC := Lib.hid hcon; have HS := Lib.hid hst
        clear hcon hst HI hq hq'
        go_wp2_with fail
        refine (HC.out _).mono ?_
        rintro e w3 ⟨rfl, rfl⟩
        go_wp2_with fail
        go_roundw
        case rel => exact ⟨i + 1, by omega, by go_num, trivial, HS⟩
        case measure => simp [intOf]; omega
      · have hq' : (x &&& 61440#16 != 0#16) = true := hq
        rw [hq, Bool.true_or] at hst
        rw [hq'] at hcon
        have hf : res = ([], 7) := by rw [HRES.out, hst]; rfl
        have HC := Lib.hid hcon; have HF := Lib.hid hf
        clear hcon hst HI hq hq' hf
        go_wp2_with fail
        refine (HC.out _).mono ?_
        rintro e w3 ⟨rfl, rfl⟩
        go_wp2_with fail
        go_ret2
        rw [HF.out]
        exact ⟨_, rfl, Own.nil _ _ KV⟩
    · have hst := HI.out
      rw [drop_all l i (by omega), List.any_nil] at hst
      by_cases h400 : 400 < o.length
      · have hf : res = ([], 3) := by rw [HRES.out, hst, if_neg (by simp), if_pos h400]
        have h4 : (400 : Int) < (o.length : Int) := by omega
        have HF := Lib.hid hf
        clear hst HI hf h400
        go_wp2_with fail
        go_ret2
        rw [HF.out]
        exact ⟨_, rfl, Own.nil _ _ KV⟩
      · have hf : res = (o, 0) := by rw [HRES.out, hst, if_neg (by simp), if_neg h400]
        have h4 : ¬ (400 : Int) < (o.length : Int) := by omega
        have HF := Lib.hid hf
        clear hst HI hf h400
        go_wp2_with fail
        go_ret2
        rw [HF.out]
        exact ⟨_, rfl, HV.out⟩
set_option maxRecDepth 20000 in
theorem rMin_any (a : Option Addr) (n c : Nat) (l : List S) (w : World) (h : Rd w a n c 1 (sl l)) (hn : n ≤ 1000000) :
    Calls Tryz.prog 64 #[.slice a n c] w fun e w' => RetS w (chkR l (refLeast l)) e w' := by
  have h1 := Lib.hid (refLeast_any a n c l w h hn)
  have h2 := fun W v (hv : Own 29 1 w W v (refLeast l).length (sl (refLeast l))) => checked_any w a n c l v (refLeast l) W (h.keep hv.2) hv
  generalize refLeast l = o at *
  generalize chkR l o = res at *
  have H2 := Lib.hid h2
  clear h2 h
  go_enter Tryz.func64, Tryz.ntmps64
  go_wp2_with fail
  refine h1.out.mono ?_
  rintro e w2 ⟨v2, rfl, hO2⟩
  have HO2 := Lib.hid hO2
  obtain ⟨a2, c2, rfl, hR2⟩ := hO2.rd
  clear hO2 hR2
  go_wp2_with fail
  refine (H2.out _ _ HO2.out).mono ?_
  rintro e w3 ⟨v3, rfl, hO3⟩
  go_wp2_with fail
  go_ret2
  exact ⟨_, rfl, hO3⟩
end Go.Proofs.YtnlohknlchgfgaaGreat
