/- transversal.Disjoint, Coterie, coterie, Dominated. -/
import Derived.Test.YteaehcaokcbehaaDoorCot
namespace Go.Proofs.YteaehcaokcbehaaDoor
open Go.RowKit Go.Lib Go.Shelf

/-- a list is a coterie, as the program finds it -/
def cotS (l : List S) : Bool := validS l == 0 && l.length != 0 && !l.contains 0#16 && crossS l l && ((minimalS l).2 == 0 && (minimalS l).1.length == l.length)

theorem coterie_any (a : Option Addr) (n c : Nat) (l : List S) (w : World) (h : Rd w a n c 1 (sl l)) (hn : n ≤ 1000000) :
    Calls Tryd.prog 24 #[.slice a n c] w fun e w' => e = .returned (.bool (cotS l)) ∧ Keeps w w' := by
  have hv := valid_any a n c l w h
  have hc := fun W (k : Keeps w W) => contains_s_any a n c l 0#16 W (h.keep k)
  have hx := fun W (k : Keeps w W) => cross_any a n c l a n c l W (h.keep k) (h.keep k)
  have hm := fun W (k : Keeps w W) => minimal_any a n c l W (h.keep k) hn
  have L := h.lenS
  unfold cotS
  rw [L]
  generalize validS l = vl at *
  generalize l.contains 0#16 = ct at *
  generalize crossS l l = cr at *
  generalize minimalS l = r at *
  obtain ⟨d, er⟩ := r
  simp only
  unfold RetS at hm
  simp only at hm
  have s0 : sv 0#16 = 0 := sv_zero
  rw [s0] at hc
  have HV := Lib.hid hv; have HC := Lib.hid hc; have HX := Lib.hid hx; have HM := Lib.hid hm
  clear hv hc hx hm h L hn s0
  go_enter Tryd.func24, Tryd.ntmps24
  go_wp2_with fail
  refine HV.out.mono ?_
  rintro e w1 ⟨rfl, K1⟩
  by_cases hz : vl = 0
  · subst hz
    by_cases h0 : n = 0
    · subst h0
      go_wp2_with fail
      go_ret
      exact ⟨by simp, K1⟩
    · have h0b : ((n : Int) == 0) = false := by rw [beq_eq_false_iff_ne]; omega
      have h0c : (n != 0) = true := by simpa using h0
      go_wp2_with fail
      refine (HC.out _ K1).mono ?_
      rintro e w2 ⟨rfl, rfl⟩
      cases ct
      · go_wp2_with fail
        refine (HX.out _ K1).mono ?_
        rintro e w2 ⟨rfl, K2⟩
        cases cr
        · go_wp2_with fail
          go_ret
          exact ⟨by simp, K1.trans K2⟩
        · go_wp2_with fail
          refine (HM.out _ (K1.trans K2)).mono ?_
          rintro e w3 ⟨v3, rfl, hO⟩
          obtain ⟨a3, c3, rfl, hR⟩ := hO.rd
          have K3 := (K1.trans K2).trans hO.2
          by_cases he : er = 0
          · subst he
            go_wp2_with fail
            go_ret
            have hl : ((d.length : Int) == (n : Int)) = (d.length == n) := by rw [Bool.eq_iff_iff, beq_iff_eq, beq_iff_eq]; omega
            exact ⟨ret_eq (by simp [h0c]; exact hl), K3⟩
          · have hb : (er == 0) = false := by simpa using he
            go_wp2_with fail
            go_ret
            exact ⟨by simp [he], K3⟩
      · go_wp2_with fail
        go_ret
        exact ⟨by simp, K1⟩
  · have hb : (vl == 0) = false := by simpa using hz
    have hb2 : (vl != 0) = true := by simpa using hz
    go_wp2_with fail
    go_ret
    exact ⟨by simp [hz], K1⟩

/-- the error of a list that should be a coterie -/
def cotErr (l : List S) : Int := if validS l = 0 then (if cotS l = true then 0 else 1) else validS l
theorem coterieErr_any (a : Option Addr) (n c : Nat) (l : List S) (w : World) (h : Rd w a n c 1 (sl l)) (hn : n ≤ 1000000) :
    Calls Tryd.prog 46 #[.slice a n c] w fun e w' => e = .returned (.int .i64 (cotErr l)) ∧ Keeps w w' := by
  have hv := valid_any a n c l w h
  have hc := fun W (k : Keeps w W) => coterie_any a n c l W (h.keep k) hn
  unfold cotErr
  generalize validS l = vl at *
  generalize cotS l = ct at *
  have HV := Lib.hid hv; have HC := Lib.hid hc
  clear hv hc h hn
  go_enter Tryd.func46, Tryd.ntmps46
  go_wp2_with fail
  refine HV.out.mono ?_
  rintro e w1 ⟨rfl, K1⟩
  by_cases hz : vl = 0
  · subst hz
    go_wp2_with fail
    refine (HC.out _ K1).mono ?_
    rintro e w2 ⟨rfl, K2⟩
    cases ct
    · go_wp2_with fail
      go_ret
      exact ⟨by simp, K1.trans K2⟩
    · go_wp2_with fail
      go_ret
      exact ⟨by simp, K1.trans K2⟩
  · have hb2 : (vl != 0) = true := by simpa using hz
    go_wp2_with fail
    go_ret
    exact ⟨by simp, K1⟩

/-- whether a coterie is dominated, and the error -/
def domErr (l : List S) : Bool × Int := if cotErr l = 0 then (if (dualErr l).2 = 0 then (!eqS (dualErr l).1 l, 0) else (false, (dualErr l).2)) else (false, cotErr l)
theorem dominated_any (a : Option Addr) (n c : Nat) (l : List S) (w : World) (hT : Tab w) (h : Rd w a n c 1 (sl l)) (hn : n ≤ 1000000) (hsm : validS l = 0 → small (supS l)) :
    Calls Tryd.prog 22 #[.slice a n c] w fun e w' => e = .returned (.tuple #[.bool (domErr l).1, .int .i64 (domErr l).2]) ∧ Keeps w w' := by
  have hv := coterieErr_any a n c l w h hn
  have hd := fun W (k : Keeps w W) => dual_any a n c l W (hT.keep k) (h.keep k) hsm
  unfold domErr
  generalize cotErr l = vl at *
  generalize dualErr l = r at hd ⊢
  obtain ⟨d, er⟩ := r
  simp only at hd ⊢
  have he := fun W (k : Keeps w W) a3 c3 (hr : Rd W a3 d.length c3 1 (sl d)) => equal_any a3 d.length c3 d a n c l W hr (h.keep k)
  have HV := Lib.hid hv; have HD := Lib.hid hd; have HE := Lib.hid he
  clear hv hd he h hn hsm hT
  go_enter Tryd.func22, Tryd.ntmps22
  go_wp2_with fail
  refine HV.out.mono ?_
  rintro e w1 ⟨rfl, K1⟩
  by_cases hz : vl = 0
  · subst hz
    go_wp2_with fail
    refine (HD.out _ K1).mono ?_
    rintro e w2 ⟨v2, rfl, hO⟩
    obtain ⟨a3, c3, rfl, hR⟩ := hO.rd
    have K2 := K1.trans hO.2
    by_cases he : er = 0
    · subst he
      go_wp2_with fail
      refine (HE.out _ K2 a3 c3 hR).mono ?_
      rintro e w3 ⟨rfl, K3⟩
      go_wp2_with fail
      go_ret2
      exact ⟨by simp, K2.trans K3⟩
    · have hb2 : (er != 0) = true := by simpa using he
      go_wp2_with fail
      go_ret2
      exact ⟨by simp, K2⟩
  · have hb2 : (vl != 0) = true := by simpa using hz
    go_wp2_with fail
    go_ret2
    exact ⟨by simp, K1⟩

/-- the first disjoint pair -/
def disIn (x : S) : List S → Option S
  | [] => none
  | y :: ys => if x &&& y == 0#16 then some y else disIn x ys
def disR : List S → List S → S × S × Int
  | [], _ => (0#16, 0#16, 13)
  | x :: xs, g => match disIn x g with
    | some y => (x, y, 0)
    | none => disR xs g
end Go.Proofs.YteaehcaokcbehaaDoor
