/- Texts joined into one, what is needed of them (a program of ours). -/
import Derived.Test.YtijknodekomdfaaGreatDoorCKB
import Derived.Deep.RegionHeld3
import Derived.Lib.QuietBelow
import Derived.Lib.Strings
namespace Go.Proofs.YtijknodekomdfaaGreatDoor
open Go.RowKit Go.Lib Go.Shelf

theorem Rd.takeS {w : World} {a : Option Addr} {n c : Nat} {l : List S} (h : Rd w a n c 1 (sl l)) {i : Nat} (hi : i ≤ n) : Rd w a i c 1 (sl (l.take i)) := by
  have hl := h.lenS
  refine ⟨by simp; omega, by have := h.nc; omega, h.cm, fun h0 => h.isSome (by omega), fun j u hu => ?_⟩
  rw [sl_take, List.getElem?_take] at hu
  split at hu
  · exact h.cell j u hu
  · cases hu
/-- the union -/
def supR : S → List S → S
  | acc, [] => acc
  | acc, s :: rest => supR (acc ||| s) rest
def supS (l : List S) : S := supR 0#16 l

theorem support_any (a : Option Addr) (n c : Nat) (l : List S) (w : World) (h : Rd w a n c 1 (sl l)) :
    Calls Tryz.prog 121 #[.slice a n c] w fun e w' => e = .returned (.int .u16 (sv (supS l))) ∧ w = w' := by
  have L := Lib.hid h.lenS
  have s1 := h.small
  go_enter Tryz.func121, Tryz.ntmps121
  go_wp2
  go_loopw [3, 8] (fun u v wr => ∃ (k : Nat) (acc : S), k ≤ n ∧ v = .int .i64 k ∧ u = .int .u16 (sv acc) ∧ w = wr ∧ Hid (supS l = supR acc (l.drop k))) (fun _ v _ => n - (RowKit.intOf v).toNat)
  case atStart => exact ⟨0, 0#16, Nat.zero_le _, rfl, rfl, rfl, rfl⟩
  case round =>
    obtain ⟨k, acc, hk, rfl, rfl, rfl, HI⟩ := hrel
    by_cases hlt : k < n
    · have hc := h.at hlt
      have hs := h.isSome (by omega)
      have HJ : Hid (supS l = supR (acc ||| at_ l k) (l.drop (k + 1))) := by have := HI.out; rw [dropH L hlt] at this; exact this
      clear HI
      go_wp2
      go_roundw
      case rel => exact ⟨k + 1, _, by omega, rfl, rfl, trivial, HJ⟩
      case measure => simp [RowKit.intOf]; omega
    · have HJ : Hid (supS l = acc) := by have := HI.out; rw [dropN L hlt] at this; exact this
      clear HI
      go_wp2
      go_ret
      rw [HJ.out]
      exact ⟨rfl, rfl⟩

/-- the first pass: the error of range or of order -/
def val1 : Option S → List S → Int
  | _, [] => 0
  | p, s :: rest => if s &&& 61440#16 != 0#16 then 7 else if (match p with | none => false | some q => decide (0 ≤ cmpS q s)) then 1 else val1 (some s) rest
/-- the second pass: a set that contains an earlier one -/
def val2 : List S → List S → Int
  | _, [] => 0
  | pre, s :: rest => if accS pre s then 1 else val2 (pre ++ [s]) rest
def validS (l : List S) : Int := if l.length > 400 then 3 else if val1 none l = 0 then val2 [] l else val1 none l
def prevS (l : List S) (k : Nat) : Option S := if k = 0 then none else some (at_ l (k - 1))

set_option maxHeartbeats 1000000 in
theorem valid_any (a : Option Addr) (n c : Nat) (l : List S) (w : World) (h : Rd w a n c 1 (sl l)) :
    Calls Tryz.prog 120 #[.slice a n c] w fun e w' => e = .returned (.int .i64 (validS l)) ∧ Keeps w w' := by
  have L := Lib.hid h.lenS
  have s1 := h.small
  have hcmp := fun x y W => compare_any x y W
  have HC := Lib.hid hcmp; clear hcmp
  by_cases h400 : n > 400
  · have hv : validS l = 3 := by unfold validS; rw [if_pos (by have := L.out; omega)]
    rw [hv]
    have h1 : (400 : Int) < n := by omega
    clear hv h400
    go_enter Tryz.func120, Tryz.ntmps120
    go_wp2
    go_ret
    exact ⟨rfl, Keeps.refl _⟩
  · have hv : Hid (validS l = if val1 none l = 0 then val2 [] l else val1 none l) := by show validS l = _; unfold validS; rw [if_neg (by have := L.out; omega)]
    have h1 : ¬ (400 : Int) < n := by omega
    go_enter Tryz.func120, Tryz.ntmps120
    go_wp2
    go_loopw [12] (fun v wr => ∃ (k : Nat), k ≤ n ∧ v = .int .i64 k ∧ Keeps w wr ∧ Hid (val1 none l = val1 (prevS l k) (l.drop k))) (fun v _ => n - (RowKit.intOf v).toNat)
    case atStart => exact ⟨0, Nat.zero_le _, rfl, Keeps.refl _, rfl⟩
    case round =>
      obtain ⟨k, hk, rfl, K1, HI⟩ := hrel
      by_cases hlt : k < n
      · have hc := (h.keep K1).at hlt
        have hs := (h.keep K1).isSome (by omega)
        have hst := HI.out
        rw [dropH L hlt] at hst
        by_cases hout : (at_ l k &&& 61440#16 != 0#16) = true
        · have HV : Hid (validS l = 7) := by
            have e : val1 none l = 7 := by rw [hst]; unfold val1; rw [if_pos hout]
            show validS l = 7; rw [hv.out, e]; rfl
          clear hst HI
          go_wp2
          go_ret
          rw [HV.out]
          exact ⟨rfl, K1⟩
        · have hout' : (at_ l k &&& 61440#16 != 0#16) = false := by simpa using hout
          rcases Nat.eq_zero_or_pos k with rfl | hp
          · have HJ : Hid (val1 none l = val1 (prevS l 1) (l.drop 1)) := by
              show _ = _
              rw [hst]; conv => lhs; unfold val1
              rw [if_neg hout]; rfl
            clear hst HI hout
            go_wp2
            go_roundw
            case rel => exact ⟨1, by omega, rfl, K1, HJ⟩
            case measure => simp [RowKit.intOf]; omega
          · have hcp := (h.keep K1).at (show k - 1 < n by omega)
            have hk0 : (0 : Int) < k := by omega
            have hprev : prevS l k = some (at_ l (k - 1)) := by unfold prevS; rw [if_neg (by omega)]
            rw [hprev] at hst
            by_cases hge : 0 ≤ cmpS (at_ l (k - 1)) (at_ l k)
            · have HV : Hid (validS l = 1) := by
                have e : val1 none l = 1 := by rw [hst]; unfold val1; rw [if_neg hout, if_pos (by simpa using hge)]
                show validS l = 1; rw [hv.out, e]; rfl
              clear hst HI hprev
              go_wp2_with (go_at_call 44; refine (HC.out _ _ _).mono ?_; rintro e w2 ⟨rfl, K2⟩)
              go_ret
              rw [HV.out]
              exact ⟨rfl, K1.trans K2⟩
            · have HJ : Hid (val1 none l = val1 (prevS l (k + 1)) (l.drop (k + 1))) := by
                show _ = _
                rw [hst]; conv => lhs; unfold val1
                rw [if_neg hout, if_neg (by simpa using hge)]
                unfold prevS; rw [if_neg (by omega)]; rfl
              clear hst HI hprev
              go_wp2_with (go_at_call 44; refine (HC.out _ _ _).mono ?_; rintro e w2 ⟨rfl, K2⟩)
              go_roundw
              case rel => exact ⟨k + 1, by omega, rfl, K1.trans K2, HJ⟩
              case measure => simp [RowKit.intOf]; omega
      · have HV1 : Hid (validS l = val2 [] l) := by
          have e : val1 none l = 0 := by have := HI.out; rw [dropN L hlt] at this; simpa [val1] using this
          show validS l = _; rw [hv.out, if_pos e]
        have hkn : n = k := by omega
        subst hkn
        clear HI
        go_wp2
        go_loopw [37] (fun v wx => ∃ (i : Nat), i ≤ n ∧ v = .int .i64 i ∧ Keeps w wx ∧ Hid (val2 [] l = val2 (l.take i) (l.drop i))) (fun v _ => n - (RowKit.intOf v).toNat)
        case atStart => exact ⟨0, Nat.zero_le _, rfl, K1, rfl⟩
        case round =>
          obtain ⟨i, hi, rfl, K2, HI⟩ := hrel
          by_cases hlt2 : i < n
          · have hc := (h.keep K2).at hlt2
            have hs := (h.keep K2).isSome (by omega)
            have hacc := accepts_any a i c (l.take i) (at_ l i) wr ((h.keep K2).takeS (by omega))
            have hst := HI.out
            rw [dropH L hlt2] at hst
            have HA := Lib.hid hacc
            have hnc := h.nc
            have hcm := h.cm
            by_cases hac : accS (l.take i) (at_ l i) = true
            · have HV : Hid (validS l = 1) := by
                have e : val2 [] l = 1 := by rw [hst]; unfold val2; rw [if_pos hac]
                show validS l = 1; rw [HV1.out, e]
              clear hst HI hacc
              go_wp2_with (go_at_call 101; refine HA.out.mono ?_; rintro e w2 ⟨rfl, K3⟩)
              go_ret
              rw [HV.out]
              exact ⟨rfl, K2.trans K3⟩
            · have HJ : Hid (val2 [] l = val2 (l.take (i + 1)) (l.drop (i + 1))) := by
                show _ = _
                rw [hst]; conv => lhs; unfold val2
                rw [if_neg hac, takeH L hlt2]
              have hac' : accS (l.take i) (at_ l i) = false := by simpa using hac
              clear hst HI hacc hac
              go_wp2_with (go_at_call 101; refine HA.out.mono ?_; rintro e w2 ⟨rfl, K3⟩)
              go_roundw
              case rel => exact ⟨i + 1, by omega, rfl, K2.trans K3, HJ⟩
              case measure => simp [RowKit.intOf]; omega
          · have HV : Hid (validS l = 0) := by
              have e : val2 [] l = 0 := by have := HI.out; rw [dropN L hlt2] at this; simpa [val2] using this
              show validS l = 0; rw [HV1.out, e]
            clear HI
            go_wp2
            go_ret
            rw [HV.out]
            exact ⟨rfl, K2⟩
end Go.Proofs.YtijknodekomdfaaGreatDoor
namespace Go.Proofs.YtijknodekomdfaaGreatDoor
open Go.RowKit Go.Lib Go.Shelf

abbrev F2 := S × S
def fl (l : List F2) : List Value := l.flatMap fun x => [.int .u16 (sv x.1), .int .u16 (sv x.2)]
def fa (l : List F2) (i : Nat) : F2 := l.getD i (0#16, 0#16)
@[simp] theorem length_fl (l : List F2) : (fl l).length = l.length * 2 := by
  induction l with
  | nil => rfl
  | cons x xs ih => unfold fl at *; rw [List.flatMap_cons, List.length_append, ih]; simp; omega
theorem fl_cons (x : F2) (l : List F2) : fl (x :: l) = .int .u16 (sv x.1) :: .int .u16 (sv x.2) :: fl l := rfl
theorem fl_append (l m : List F2) : fl (l ++ m) = fl l ++ fl m := by unfold fl; rw [List.flatMap_append]
theorem fa_cons_succ (x : F2) (l : List F2) (i : Nat) : fa (x :: l) (i + 1) = fa l i := by simp [fa, List.getD]
theorem fa_cons_zero (x : F2) (l : List F2) : fa (x :: l) 0 = x := rfl
theorem fl_at (l : List F2) : ∀ (i : Nat), i < l.length → (fl l)[i * 2]? = some (.int .u16 (sv (fa l i).1)) ∧ (fl l)[i * 2 + 1]? = some (.int .u16 (sv (fa l i).2)) := by
  induction l with
  | nil => intro i h; exact absurd h (Nat.not_lt_zero _)
  | cons x xs ih =>
    intro i h
    cases i with
    | zero => exact ⟨rfl, rfl⟩
    | succ i =>
      have := ih i (by simpa using h)
      rw [fl_cons, fa_cons_succ, show (i + 1) * 2 = i * 2 + 1 + 1 by omega]
      exact this
theorem drop_fa (l : List F2) (i : Nat) (h : i < l.length) : l.drop i = fa l i :: l.drop (i + 1) := by
  rw [List.drop_eq_getElem_cons h]; simp [fa, List.getD, h]
theorem take_fa (l : List F2) (i : Nat) (h : i < l.length) : l.take (i + 1) = l.take i ++ [fa l i] := by
  rw [List.take_succ_eq_append_getElem h]; simp [fa, List.getD, h]
theorem takeDrop_fa (l : List F2) {k i : Nat} (hk : k < i) (hi : i ≤ l.length) : (l.take i).drop k = fa l k :: (l.take i).drop (k + 1) := by
  have h : k < (l.take i).length := by rw [List.length_take]; omega
  rw [List.drop_eq_getElem_cons h]
  congr 1
  rw [List.getElem_take]
  simp [fa, List.getD, show k < l.length by omega]
theorem fa_mem {l : List F2} {i : Nat} (h : i < l.length) : fa l i ∈ l := by simp [fa, List.getD, h]
theorem Rd.lenF {w : World} {a : Option Addr} {n c : Nat} {l : List F2} (h : Rd w a n c 2 (fl l)) : l.length = n := by have := h.len; rw [length_fl] at this; omega
theorem Rd.f0 {w : World} {a : Option Addr} {n c : Nat} {l : List F2} (h : Rd w a n c 2 (fl l)) {i : Nat} (hi : i < n) : w.cell? (adr a (i * 2)) = some (.int .u16 (sv (fa l i).1)) :=
  h.cell _ _ (fl_at l i (by rw [h.lenF]; exact hi)).1
theorem Rd.f1 {w : World} {a : Option Addr} {n c : Nat} {l : List F2} (h : Rd w a n c 2 (fl l)) {i : Nat} (hi : i < n) : w.cell? (adr a (i * 2 + 1)) = some (.int .u16 (sv (fa l i).2)) :=
  h.cell _ _ (fl_at l i (by rw [h.lenF]; exact hi)).2
/-- the second cell, as the walk asks for it -/
theorem Rd.f1' {w : World} {a : Option Addr} {n c : Nat} {l : List F2} (h : Rd w a n c 2 (fl l)) {i : Nat} (hi : i < n) : w.cell? ⟨(adr a (i * 2)).block, (adr a (i * 2)).off + 1, none⟩ = some (.int .u16 (sv (fa l i).2)) := by
  have h1 := h.f1 hi
  rw [← adr_add a (i * 2) 1] at h1
  exact h1
theorem infoF : (Tryz.prog.info? 34).map (fun i => (i.zero, i.size, i.bytes)) = some (some (.agg #[.int .u16 0, .int .u16 0]), 2, 4) := by kernel_rfl
theorem tyF : STy Tryz.prog 22 34 2 4 := STy.of Tryz.underlying22 infoF rfl (by decide) (by decide)
theorem fl_oneCell (l : List F2) : ∀ v ∈ fl l, v.oneCell' = true := fun v hv => by
  unfold fl at hv
  rw [List.mem_flatMap] at hv
  obtain ⟨x, _, hx⟩ := hv
  simp at hx
  rcases hx with rfl | rfl <;> rfl

@[go_sem] theorem sv_andNot4095 (x : S) : bits .andNot .u16 (sv x) 4095 = sv (x &&& ~~~4095#16) := sv_andNot x 4095#16
def facF (x : F2) : S := x.1 ||| x.2
def chkF (a : F2) : Int := if (facF a &&& 61440#16 != 0#16) = true then 7 else if (a.1 &&& a.2 != 0#16) = true then 1 else 0
def covF (b a : F2) : Bool := (a.1 &&& ~~~b.1 == 0#16) && (facF a &&& ~~~facF b == 0#16)
def orF (x y : Int) : Int := if x ≠ 0 then x else y
def cmpF (a b : F2) : Int := orF (cmpS a.1 b.1) (cmpS a.2 b.2)

theorem faulty_any (x : F2) (w : World) : Calls Tryz.prog 185 #[.agg #[.int .u16 (sv x.1), .int .u16 (sv x.2)]] w fun e w' => e = .returned (.int .u16 (sv (facF x))) ∧ Keeps w w' := by
  have K := (Keeps.refl w).alloc (.cells #[.int .u16 (sv x.1), .int .u16 (sv x.2)] 34)
  unfold facF
  go_enter Tryz.func185, Tryz.ntmps185
  go_wp2
  go_ret
  exact ⟨rfl, K⟩
theorem check_any (x : F2) (w : World) : Calls Tryz.prog 122 #[.agg #[.int .u16 (sv x.1), .int .u16 (sv x.2)]] w fun e w' => e = .returned (.int .i64 (chkF x)) ∧ Keeps w w' := by
  have K := (Keeps.refl w).alloc (.cells #[.int .u16 (sv x.1), .int .u16 (sv x.2)] 34)
  have hf := fun W => faulty_any x W
  unfold chkF
  generalize facF x = q at *
  have HF := Lib.hid hf; clear hf
  have c0 : (w.alloc (.cells #[.int .u16 (sv x.1), .int .u16 (sv x.2)] 34)).cell? ⟨w.heap.size, 0, none⟩ = some (.int .u16 (sv x.1)) := by rw [World.cell?_alloc_at _ _ _ _ rfl]; rfl
  have c1 : (w.alloc (.cells #[.int .u16 (sv x.1), .int .u16 (sv x.2)] 34)).cell? ⟨w.heap.size, 1, none⟩ = some (.int .u16 (sv x.2)) := by rw [World.cell?_alloc_at _ _ _ _ rfl]; rfl
  cases h1 : (q &&& 61440#16 != 0#16) <;> cases h2 : (x.1 &&& x.2 != 0#16)
  all_goals
    go_enter Tryz.func122, Tryz.ntmps122
    go_wp2_with fail
    refine (HF.out _).mono ?_
    rintro e w2 ⟨rfl, K2⟩
    have d0 := K2.cell c0
    have d1 := K2.cell c1
    go_wp2_with fail
    go_ret
    exact ⟨rfl, K.trans K2⟩

/-- the cells of a boxed fault -/
theorem newF (x : F2) (w : World) (T : TypeId) : (w.alloc (.cells #[.int .u16 (sv x.1), .int .u16 (sv x.2)] T)).cell? ⟨w.heap.size, 0, none⟩ = some (.int .u16 (sv x.1)) ∧ (w.alloc (.cells #[.int .u16 (sv x.1), .int .u16 (sv x.2)] T)).cell? ⟨w.heap.size, 1, none⟩ = some (.int .u16 (sv x.2)) :=
  ⟨by rw [World.cell?_alloc_at _ _ _ _ rfl]; rfl, by rw [World.cell?_alloc_at _ _ _ _ rfl]; rfl⟩
set_option maxRecDepth 20000 in
theorem covers_any (b a : F2) (w : World) : Calls Tryz.prog 123 #[.agg #[.int .u16 (sv b.1), .int .u16 (sv b.2)], .agg #[.int .u16 (sv a.1), .int .u16 (sv a.2)]] w fun e w' => e = .returned (.bool (covF b a)) ∧ Keeps w w' := by
  have K1 := (Keeps.refl w).alloc (.cells #[.int .u16 (sv b.1), .int .u16 (sv b.2)] 34)
  have K := K1.alloc (.cells #[.int .u16 (sv a.1), .int .u16 (sv a.2)] 34)
  have k2 := (Keeps.refl (w.alloc (.cells #[.int .u16 (sv b.1), .int .u16 (sv b.2)] 34))).alloc (.cells #[.int .u16 (sv a.1), .int .u16 (sv a.2)] 34)
  obtain ⟨b0, b1⟩ := newF b w 34
  replace b0 := k2.cell b0
  replace b1 := k2.cell b1
  obtain ⟨a0, a1⟩ := newF a (w.alloc (.cells #[.int .u16 (sv b.1), .int .u16 (sv b.2)] 34)) 34
  rw [World.size_alloc] at a0 a1
  have hfa := fun W => faulty_any a W
  have hfb := fun W => faulty_any b W
  unfold covF
  generalize facF a = qa at *
  generalize facF b = qb at *
  have HA := Lib.hid hfa; have HB := Lib.hid hfb
  clear hfa hfb k2 K1
  have k9 := (Keeps.refl ((w.alloc (.cells #[.int .u16 (sv b.1), .int .u16 (sv b.2)] 34)).alloc (.cells #[.int .u16 (sv a.1), .int .u16 (sv a.2)] 34))).drew
  cases h1 : (a.1 &&& ~~~b.1 == 0#16)
  · go_enter Tryz.func123, Tryz.ntmps123
    go_wp2_with (go_quiet (fail))
    go_ret
    exact ⟨rfl, by first | exact K | exact K.drew | exact K.drewN _⟩
  · go_enter Tryz.func123, Tryz.ntmps123
    go_wp2_with fail
    go_region_held3 (fun w' => w'.cell? ⟨w.heap.size, 0, none⟩ = some (.int .u16 (sv b.1)) ∧ w'.cell? ⟨w.heap.size, 1, none⟩ = some (.int .u16 (sv b.2)) ∧ w'.cell? ⟨w.heap.size + 1, 0, none⟩ = some (.int .u16 (sv a.1)) ∧ w'.cell? ⟨w.heap.size + 1, 1, none⟩ = some (.int .u16 (sv a.2))) (first | with_reducible exact ⟨(k9.cell b0), (k9.cell b1), (k9.cell a0), (k9.cell a1)⟩ | with_reducible exact hF | go_keep) ((first | (go_at_call 185; refine (HA.out _).mono ?_; rintro e W6 ⟨rfl, K6⟩; have hF := And.intro (K6.cell (k9.cell b0)) (And.intro (K6.cell (k9.cell b1)) (And.intro (K6.cell (k9.cell a0)) (K6.cell (k9.cell a1))))) | (go_at_call 185; refine (HB.out _).mono ?_; rintro e W7 ⟨rfl, K7⟩; have hF := And.intro (K7.cell (K6.cell (k9.cell b0))) (And.intro (K7.cell (K6.cell (k9.cell b1))) (And.intro (K7.cell (K6.cell (k9.cell a0))) (K7.cell (K6.cell (k9.cell a1))))))))
    all_goals go_wp2_with fail
    all_goals go_ret
    all_goals exact ⟨rfl, (K.drew.trans K6).trans K7⟩

theorem cmpOr_any (a : Option Addr) (c : Nat) (x y : Int) (w : World) (h : Rd w a 2 c 1 [.int .i64 x, .int .i64 y]) :
    Calls Tryz.prog 106 #[.slice a 2 c] w fun e w' => e = .returned (.int .i64 (orF x y)) ∧ w = w' := by
  have c0 := h.cell 0 _ rfl
  have c1 := h.cell 1 _ rfl
  have s1 := h.isSome (by omega)
  unfold orF
  go_enter Tryz.func106, Tryz.ntmps106
  by_cases hx : x = 0
  · subst hx
    rw [if_neg (by simp)]
    by_cases hy : y = 0
    · subst hy
      go_wp2
      go_loopw [8] (fun v wr => ∃ k : Nat, k ≤ 2 ∧ v = .int .i64 k ∧ w = wr) (fun v _ => 2 - (intOf v).toNat)
      case atStart => exact ⟨0, by omega, rfl, rfl⟩
      case round =>
        obtain ⟨k, hk, rfl, rfl⟩ := hrel
        have hk2 : k = 0 ∨ k = 1 ∨ k = 2 := by omega
        rcases hk2 with rfl | rfl | rfl
        · go_wp2
          go_roundw
          case rel => exact ⟨1, by omega, by go_num, trivial⟩
          case measure => simp [intOf]
        · go_wp2
          go_roundw
          case rel => exact ⟨2, by omega, by go_num, trivial⟩
          case measure => simp [intOf]
        · go_wp2
          go_ret
          exact ⟨rfl, rfl⟩
    · have hyb : (y != 0) = true := by simpa using hy
      go_wp2
      go_loopw [8] (fun v wr => ∃ k : Nat, k ≤ 1 ∧ v = .int .i64 k ∧ w = wr) (fun v _ => 2 - (intOf v).toNat)
      case atStart => exact ⟨0, by omega, rfl, rfl⟩
      case round =>
        obtain ⟨k, hk, rfl, rfl⟩ := hrel
        have hk2 : k = 0 ∨ k = 1 := by omega
        rcases hk2 with rfl | rfl
        · go_wp2
          go_roundw
          case rel => exact ⟨1, by omega, by go_num, trivial⟩
          case measure => simp [intOf]
        · go_wp2
          go_ret
          exact ⟨rfl, rfl⟩
  · rw [if_pos hx]
    have hxb : (x != 0) = true := by simpa using hx
    go_wp2
    go_loopw [8] (fun v wr => v = .int .i64 0 ∧ w = wr) (fun v _ => 2 - (intOf v).toNat)
    case atStart => exact ⟨rfl, rfl⟩
    case round =>
      obtain ⟨rfl, rfl⟩ := hrel
      go_wp2
      go_ret
      exact ⟨rfl, rfl⟩
set_option maxHeartbeats 2000000 in
set_option maxRecDepth 20000 in
theorem compareF_any (b a : F2) (w : World) : Calls Tryz.prog 124 #[.agg #[.int .u16 (sv b.1), .int .u16 (sv b.2)], .agg #[.int .u16 (sv a.1), .int .u16 (sv a.2)]] w fun e w' => e = .returned (.int .i64 (cmpF b a)) ∧ Keeps w w' := by
  have K1 := (Keeps.refl w).alloc (.cells #[.int .u16 (sv b.1), .int .u16 (sv b.2)] 34)
  have K := K1.alloc (.cells #[.int .u16 (sv a.1), .int .u16 (sv a.2)] 34)
  have k2 := (Keeps.refl (w.alloc (.cells #[.int .u16 (sv b.1), .int .u16 (sv b.2)] 34))).alloc (.cells #[.int .u16 (sv a.1), .int .u16 (sv a.2)] 34)
  obtain ⟨b0, b1⟩ := newF b w 34
  replace b0 := k2.cell b0
  replace b1 := k2.cell b1
  obtain ⟨a0, a1⟩ := newF a (w.alloc (.cells #[.int .u16 (sv b.1), .int .u16 (sv b.2)] 34)) 34
  rw [World.size_alloc] at a0 a1
  unfold cmpF
  clear k2 K1
  obtain ⟨W0, hW0⟩ : ∃ W0, W0 = ((w.alloc (.cells #[.int .u16 (sv b.1), .int .u16 (sv b.2)] 34)).alloc (.cells #[.int .u16 (sv a.1), .int .u16 (sv a.2)] 34)) := ⟨_, rfl⟩
  go_enter Tryz.func124, Tryz.ntmps124
  go_wp2_with fail
  rw [← hW0] at b0 b1 a0 a1 K ⊢
  clear hW0
  have k9 := (Keeps.refl W0).drew
  go_region_held3 (fun w' => w'.cell? ⟨w.heap.size, 0, none⟩ = some (.int .u16 (sv b.1)) ∧ w'.cell? ⟨w.heap.size, 1, none⟩ = some (.int .u16 (sv b.2)) ∧ w'.cell? ⟨w.heap.size + 1, 0, none⟩ = some (.int .u16 (sv a.1)) ∧ w'.cell? ⟨w.heap.size + 1, 1, none⟩ = some (.int .u16 (sv a.2))) (first | with_reducible exact ⟨(k9.cell b0), (k9.cell b1), (k9.cell a0), (k9.cell a1)⟩ | with_reducible exact hF | with_reducible exact hG | go_keep) ((first | (go_at_call 44; refine (compare_any _ _ _).mono ?_; rintro e W6 ⟨rfl, K6⟩; first | (have hG := And.intro (K6.cell hF.1) (And.intro (K6.cell hF.2.1) (And.intro (K6.cell hF.2.2.1) (K6.cell hF.2.2.2))); have K8 := (Keeps.refl W6).alloc (.cells #[.int .i64 (cmpS b.1 a.1), .int .i64 (cmpS b.2 a.2)] 3); have hF := And.intro (K8.cell hG.1) (And.intro (K8.cell hG.2.1) (And.intro (K8.cell hG.2.2.1) (K8.cell hG.2.2.2)))) | (have K5 := K.drew.trans K6; have hF := And.intro (K6.cell (k9.cell b0)) (And.intro (K6.cell (k9.cell b1)) (And.intro (K6.cell (k9.cell a0)) (K6.cell (k9.cell a1)))))) | (go_at_call 106; refine (cmpOr_any _ _ _ _ _ (rd_new _ 1 _ [.int .i64 (cmpS b.1 a.1), .int .i64 (cmpS b.2 a.2)] 2 (by decide) rfl)).mono ?_; rintro e W9 ⟨rfl, rfl⟩)))
  all_goals go_wp2_with fail
  all_goals go_ret
  all_goals exact ⟨rfl, (K5.trans K6).alloc _⟩
end Go.Proofs.YtijknodekomdfaaGreatDoor
namespace Go.Proofs.YtijknodekomdfaaGreatDoor
open Go.RowKit Go.Lib Go.Shelf

theorem grow_keeps {w : World} (d : Nat) (os : Array Obj) : Keeps w (Sort.grow (redrawn w d) os) := below_regrown w d os
/-- is a fault covered by, or does it cover, one of a list? -/
def exF (x : F2) : List F2 → Bool
  | [] => false
  | y :: ys => if covF x y = true then true else if covF y x = true then true else exF x ys
def fvI (m : List F2) : Nat → Nat → Int
  | 0, _ => 0
  | c + 1, i => if chkF (fa m i) ≠ 0 then chkF (fa m i) else if exF (fa m i) (m.take i) = true then 5 else if 0 < i ∧ 0 ≤ cmpF (fa m (i - 1)) (fa m i) then 1 else fvI m c (i + 1)
/-- the error of a model -/
def fvS (m : List F2) : Int := if m.length = 0 then 9 else if 100 < m.length then 3 else fvI m m.length 0

set_option maxRecDepth 20000 in
set_option maxHeartbeats 3000000 in
theorem fvalid_any (a : Option Addr) (n c : Nat) (m : List F2) (w : World) (h : Rd w a n c 2 (fl m)) :
    Calls Tryz.prog 56 #[.slice a n c] w fun e w' => e = .returned (.int .i64 (fvS m)) ∧ Keeps w w' := by
  have L := Lib.hid h.lenF
  have sn := h.small
  have hnc := h.nc
  have hcm := h.cm
  have hlen : m.length = n := h.lenF
  subst hlen
  unfold fvS
  by_cases h0 : m.length = 0
  · rw [if_pos h0]
    have hb : ((m.length : Int) == 0) = true := by rw [beq_iff_eq]; omega
    go_enter Tryz.func56, Tryz.ntmps56
    go_wp2
    go_ret
    exact ⟨rfl, Keeps.refl _⟩
  rw [if_neg h0]
  have hb : ((m.length : Int) == 0) = false := by rw [beq_eq_false_iff_ne]; omega
  by_cases h1 : 100 < m.length
  · rw [if_pos h1]
    go_enter Tryz.func56, Tryz.ntmps56
    go_wp2
    go_ret
    exact ⟨rfl, Keeps.refl _⟩
  rw [if_neg h1]
  have hb1 : m.length ≤ 100 := by omega
  clear h1 h0
  go_enter Tryz.func56, Tryz.ntmps56
  go_wp2
  go_loopw [16] (fun v wr => ∃ i : Nat, i ≤ m.length ∧ v = .int .i64 i ∧ Keeps w wr ∧ Hid (fvI m m.length 0 = fvI m (m.length - i) i)) (fun v _ => m.length - (intOf v).toNat)
  case atStart => exact ⟨0, Nat.zero_le _, rfl, Keeps.refl _, rfl⟩
  case round =>
    obtain ⟨i, hi, rfl, K, HI⟩ := hrel
    by_cases hlt : i < m.length
    · have hst := HI.out
      rw [show m.length - i = (m.length - (i + 1)) + 1 by omega, fvI] at hst
      have hR := h.keep K
      have c0 := hR.f0 hlt
      have c1 := hR.f1' hlt
      have ha := hR.isSome (by omega)
      obtain ⟨e0, e1⟩ := newF (fa m i) wr 34
      have KA := (Keeps.refl wr).alloc (.cells #[.int .u16 (sv (fa m i).1), .int .u16 (sv (fa m i).2)] 34)
      have HST := Lib.hid hst
      have HE := Lib.hid (And.intro e0 e1)
      clear hst HI e0 e1
      go_wp2_with fail
      refine (check_any (fa m i) _).mono ?_
      rintro e w2 ⟨rfl, K2⟩
      have d0 := K2.cell HE.out.1
      have d1 := K2.cell HE.out.2
      have K3 := KA.trans K2
      have R2 := hR.keep K3
      clear c0 c1
      have hst := HST.out
      by_cases hk : chkF (fa m i) = 0
      · rw [if_neg (by simp [hk])] at hst
        rw [hk]
        have HS2 := Lib.hid hst
        clear hst HST hk
        go_wp2_with fail
        go_loopw [30] (fun v wx => ∃ k : Nat, k ≤ i ∧ v = .int .i64 k ∧ Keeps w2 wx ∧ Hid (exF (fa m i) (m.take i) = exF (fa m i) ((m.take i).drop k))) (fun v _ => i - (intOf v).toNat)
        case atStart => exact ⟨0, Nat.zero_le _, rfl, Keeps.refl _, rfl⟩
        case round =>
          obtain ⟨k, hk, rfl, K4, HJ⟩ := hrel
          by_cases hki : k < i
          · have hR4 := R2.keep K4
            have g0 := hR4.f0 (i := k) (by omega)
            have g1 := hR4.f1' (i := k) (by omega)
            have hj := HJ.out
            rw [takeDrop_fa m hki (by omega), exF] at hj
            have D0 := K4.cell d0; have D1 := K4.cell d1
            obtain ⟨e0, e1⟩ := newF (fa m k) wr 34
            have KB := (Keeps.refl wr).alloc (.cells #[.int .u16 (sv (fa m k).1), .int .u16 (sv (fa m k).2)] 34)
            have d0' := KB.cell D0; have d1' := KB.cell D1
            have HJ2 := Lib.hid hj
            clear hj HJ D0 D1
            go_wp2_with fail
            refine (covers_any (fa m i) (fa m k) _).mono ?_
            rintro e w5 ⟨rfl, K5⟩
            have KC := KB.trans K5
            have f0 := K5.cell d0'; have f1 := K5.cell d1'
            have G0 := K5.cell (newF (fa m k) wr 34).1; have G1 := K5.cell (newF (fa m k) wr 34).2
            clear d0' d1' g0 g1 e0 e1
            cases q1 : covF (fa m i) (fa m k)
            · go_wp2_with fail
              refine (covers_any (fa m k) (fa m i) _).mono ?_
              rintro e w6 ⟨rfl, K6⟩
              have KD := KC.trans K6
              cases q2 : covF (fa m k) (fa m i)
              · have hj := HJ2.out
                rw [if_neg (by simp [q1]), if_neg (by simp [q2])] at hj
                have HJ3 := Lib.hid hj
                clear hj HJ2
                go_wp2_with fail
                go_roundw
                case rel => exact ⟨k + 1, by omega, by go_num, K4.trans KD, HJ3⟩
                case measure => simp [intOf]; omega
              · have hj := HJ2.out
                rw [if_neg (by simp [q1]), if_pos q2] at hj
                have hf := HS2.out
                rw [if_pos hj] at hf
                have HF := Lib.hid hf
                clear hj HJ2 hf
                go_wp2_with fail
                go_ret
                rw [HF.out]
                exact ⟨rfl, ((K.trans K3).trans K4).trans KD⟩
            · have hj := HJ2.out
              rw [if_pos q1] at hj
              have hf := HS2.out
              rw [if_pos hj] at hf
              have HF := Lib.hid hf
              clear hj HJ2 hf
              go_wp2_with fail
              go_ret
              rw [HF.out]
              exact ⟨rfl, ((K.trans K3).trans K4).trans KC⟩
          · have hj := HJ.out
            rw [List.drop_eq_nil_of_le (by rw [List.length_take]; omega)] at hj
            have hf := HS2.out
            rw [hj, exF, if_neg (by simp)] at hf
            have R4 := R2.keep K4
            have D0 := K4.cell d0; have D1 := K4.cell d1
            have KE := (K.trans K3).trans K4
            clear hj HJ HS2 d0 d1
            by_cases hi0 : i = 0
            · subst hi0
              rw [if_neg (by omega)] at hf
              have HF := Lib.hid hf
              clear hf
              go_wp2_with (go_quiet (fail))
              go_roundw
              case rel => exact ⟨1, by omega, by go_num, by first | exact KE | exact KE.drew | exact KE.drewN _, HF⟩
              case measure => simp [intOf]; omega
            · have c2 := cell_regrown (R4.f0 (i := i - 1) (by omega))
              have c3 := cell_regrown (R4.f1' (i := i - 1) (by omega))
              have d2 := cell_regrown D0
              have d3 := cell_regrown D1
              have hcm := fun d os => Calls.regrown_of (compareF_any (fa m (i - 1)) (fa m i) (Sort.grow (redrawn wr d) os))
              have i0 : (0 : Int) < i := by omega
              have i0n : 0 < i := by omega
              have hsub : ((i : Int) - 1).toNat = i - 1 := by omega
              have hif : (if 0 < i ∧ 0 ≤ cmpF (fa m (i - 1)) (fa m i) then 1 else fvI m (m.length - (i + 1)) (i + 1)) = if 0 ≤ cmpF (fa m (i - 1)) (fa m i) then 1 else fvI m (m.length - (i + 1)) (i + 1) := by
                by_cases hq : 0 ≤ cmpF (fa m (i - 1)) (fa m i)
                · rw [if_pos ⟨by omega, hq⟩, if_pos hq]
                · rw [if_neg (fun hh => hq hh.2), if_neg hq]
              rw [hif] at hf
              generalize cmpF (fa m (i - 1)) (fa m i) = cv at *
              have HCM := Lib.hid hcm; have HF := Lib.hid hf
              clear hcm hf hif D0 D1 R4 R2
              go_wp2_with fail
              refine wp_region_quiet_below (by kernel_rfl) (by kernel_rfl) ?_
              repeat (first | go_big_quiet_step (exact HCM.out _ _) | quiet_step (exact HCM.out _ _))
              refine wpQuiet_nil ?_
              intro _ hw'
              obtain ⟨⟨dq, osq⟩, hw''⟩ := hw'
              subst hw''
              have KF := KE.trans (grow_keeps dq osq)
              have HR := Lib.hid (h.keep KF)
              by_cases hq : 0 ≤ cv
              · have hf := HF.out
                rw [if_pos hq] at hf
                have HF2 := Lib.hid hf
                clear hf HF c2 c3 d2 d3
                generalize Sort.grow (redrawn wr dq) osq = wz at *
                go_wp2_with fail
                go_ret
                rw [HF2.out]
                exact ⟨rfl, KF⟩
              · have hf := HF.out
                rw [if_neg hq] at hf
                have HF2 := Lib.hid hf
                clear hf HF c2 c3 d2 d3
                generalize Sort.grow (redrawn wr dq) osq = wz at *
                go_wp2_with fail
                go_roundw
                case rel => exact ⟨i + 1, by omega, by go_num, KF, HF2⟩
                case measure => simp [intOf]; omega
      · rw [if_pos hk] at hst
        have hkb : (chkF (fa m i) != 0) = true := by simpa using hk
        have HS2 := Lib.hid hst
        clear hst HST
        generalize chkF (fa m i) = ck at *
        go_wp2_with fail
        go_ret
        rw [HS2.out]
        exact ⟨rfl, K.trans K3⟩
    · have hf := HI.out
      rw [show m.length - i = 0 by omega, fvI] at hf
      have HF := Lib.hid hf
      clear hf HI
      go_wp2_with fail
      go_ret
      rw [HF.out]
      exact ⟨rfl, K⟩
end Go.Proofs.YtijknodekomdfaaGreatDoor
namespace Go.Proofs.YtijknodekomdfaaGreatDoor
open Go.RowKit Go.Lib Go.Shelf

def begB (c : Int) : Bool := c == 95 || (decide (65 ≤ c) && decide (c ≤ 90)) || (decide (97 ≤ c) && decide (c ≤ 122))
def digB (c : Int) : Bool := decide (48 ≤ c) && decide (c ≤ 57)
def cntB (c : Int) : Bool := begB c || digB c
theorem begins_any (c : Int) (w : World) : Calls Tryz.prog 117 #[.int .u8 c] w fun e w' => e = .returned (.bool (begB c)) ∧ w = w' := by
  unfold begB
  cases h1 : (c == 95) <;> by_cases h2 : 65 ≤ c <;> by_cases h3 : c ≤ 90 <;> by_cases h4 : 97 ≤ c <;> by_cases h5 : c ≤ 122
  all_goals simp [h2, h3, h4, h5]
  all_goals
    go_enter Tryz.func117, Tryz.ntmps117
    go_wp2
    go_ret
    exact ⟨rfl, rfl⟩
theorem decimal_any (c : Int) (w : World) : Calls Tryz.prog 184 #[.int .u8 c] w fun e w' => e = .returned (.bool (digB c)) ∧ w = w' := by
  unfold digB
  by_cases h2 : 48 ≤ c <;> by_cases h3 : c ≤ 57
  all_goals simp [h2, h3]
  all_goals
    go_enter Tryz.func184, Tryz.ntmps184
    go_wp2
    go_ret
    exact ⟨rfl, rfl⟩
theorem continues_any (c : Int) (w : World) : Calls Tryz.prog 119 #[.int .u8 c] w fun e w' => e = .returned (.bool (cntB c)) ∧ w = w' := by
  have h1 := fun W => begins_any c W
  have h2 := fun W => decimal_any c W
  unfold cntB
  generalize begB c = x at *
  generalize digB c = y at *
  have H1 := Lib.hid h1; have H2 := Lib.hid h2; clear h1 h2
  cases x
  · go_enter Tryz.func119, Tryz.ntmps119
    go_wp2_with fail
    refine (H1.out _).mono ?_
    rintro e w2 ⟨rfl, rfl⟩
    go_wp2_with fail
    refine (H2.out _).mono ?_
    rintro e w2 ⟨rfl, rfl⟩
    go_wp2_with fail
    go_ret
    exact ⟨rfl, rfl⟩
  · go_enter Tryz.func119, Tryz.ntmps119
    go_wp2_with fail
    refine (H1.out _).mono ?_
    rintro e w2 ⟨rfl, rfl⟩
    go_wp2_with fail
    go_ret
    exact ⟨rfl, rfl⟩
theorem drop_str (s : ByteArray) (k : Nat) (h : k < s.size) : s.data.toList.drop k = s[k] :: s.data.toList.drop (k + 1) := by
  rw [List.drop_eq_getElem_cons (by simpa using h)]; rfl
theorem drop_strN (s : ByteArray) (k : Nat) (h : ¬ k < s.size) : s.data.toList.drop k = [] := List.drop_eq_nil_iff.2 (by simp; omega)
def prefN : List UInt8 → Nat
  | [] => 0
  | c :: l => if cntB (c.toNat : Int) = true then prefN l + 1 else 0
theorem prefN_le : ∀ l : List UInt8, prefN l ≤ l.length
  | [] => Nat.le_refl _
  | c :: l => by
    have := prefN_le l
    unfold prefN; split <;> simp <;> omega
def cntA (l : List UInt8) : Bool := l.all fun c => cntB (c.toNat : Int)
theorem prefN_all : ∀ l : List UInt8, (prefN l = l.length) ↔ cntA l = true
  | [] => by simp [prefN, cntA]
  | c :: l => by
    have h1 := prefN_le l
    have h2 := prefN_all l
    rw [prefN, cntA, List.all_cons]
    rw [cntA] at h2
    cases h : cntB (c.toNat : Int)
    · simp
    · simp only [if_true, List.length_cons, Bool.true_and]
      rw [← h2]; omega
set_option maxHeartbeats 400000 in
theorem prefixN_any (s : ByteArray) (hs : s.size ≤ 100) (w : World) : Calls Tryz.prog 118 #[.string s, .func (.func 119) #[] #[]] w fun e w' => e = .returned (.int .i64 (prefN s.data.toList)) ∧ w = w' := by
  have eg : ∀ args w, (callFunc 119 args).run Tryz.prog w = .ok (.enter 119 args) w := enters_of Tryz.func119 (by kernel_rfl) rfl
  obtain ⟨r, hr⟩ : ∃ r, r = prefN s.data.toList := ⟨_, rfl⟩
  rw [← hr]
  have HR := Lib.hid hr
  clear hr
  go_enter Tryz.func118, Tryz.ntmps118
  go_wp2
  go_loopw [5] (fun v wr => ∃ k : Nat, k ≤ s.size ∧ v = .int .i64 k ∧ w = wr ∧ Hid (r = k + prefN (s.data.toList.drop k))) (fun v _ => s.size - (intOf v).toNat)
  case atStart => exact ⟨0, by omega, rfl, rfl, by show _ = _; rw [HR.out]; simp⟩
  case round =>
    obtain ⟨k, hk, rfl, rfl, HI⟩ := hrel
    by_cases hlt : k < s.size
    · have hst := HI.out
      rw [drop_str s k hlt, prefN] at hst
      have hcx := fun W => continues_any (s[k].toNat : Int) W
      cases hc : cntB (s[k].toNat : Int)
      · rw [hc] at hcx hst
        rw [if_neg (by simp)] at hst
        have HC := Lib.hid hcx; have HS := Lib.hid hst
        clear hcx hst HI hc
        go_wp2_with fail
        refine (HC.out _).mono ?_
        rintro e w2 ⟨rfl, rfl⟩
        go_wp2_with fail
        go_ret
        rw [HS.out]
        exact ⟨rfl, rfl⟩
      · rw [hc] at hcx hst
        rw [if_pos rfl] at hst
        have HC := Lib.hid hcx; have HS := Lib.hid hst
        clear hcx hst HI hc
        go_wp2_with fail
        refine (HC.out _).mono ?_
        rintro e w2 ⟨rfl, rfl⟩
        go_wp2_with fail
        go_roundw
        case rel => exact ⟨k + 1, by omega, by go_num, trivial, by show _ = _; rw [HS.out]; omega⟩
        case measure => simp [intOf]; omega
    · have hst := HI.out
      rw [drop_strN s k hlt, prefN, Nat.add_zero] at hst
      have HS := Lib.hid hst
      clear hst HI
      go_wp2_with fail
      go_ret
      rw [HS.out]
      exact ⟨rfl, rfl⟩
/-- is the string a name? -/
def nmB (s : ByteArray) : Bool := decide (s.size ≠ 0) && (decide (s.size ≤ 24) && (begB ((s.data.toList.headD 0).toNat : Int) && cntA s.data.toList))
theorem head_str (s : ByteArray) (h : 0 < s.size) : (s.data.toList.headD 0) = s[0] := by
  have := drop_str s 0 h
  rw [List.drop_zero] at this
  rw [this]; rfl
theorem str_nil {s : ByteArray} (h : s.size = 0) : s = ⟨#[]⟩ := by
  obtain ⟨⟨l⟩⟩ := s
  have : l.length = 0 := h
  rw [List.eq_nil_of_length_eq_zero this]
set_option maxHeartbeats 800000 in
theorem isNameN_any (s : ByteArray) (w : World) : Calls Tryz.prog 54 #[.string s] w fun e w' => e = .returned (.bool (nmB s)) ∧ w = w' := by
  by_cases h0 : s.size = 0
  · have := str_nil h0
    subst this
    have hres : nmB ⟨#[]⟩ = false := rfl
    rw [hres]
    go_enter Tryz.func54, Tryz.ntmps54
    go_wp2_with fail
    go_ret
    exact ⟨rfl, rfl⟩
  have hpos : 0 < s.size := by omega
  have hem : s.toList.isEmpty = false := by
    rw [ByteArray.toList_eq]
    cases hl : s.data.toList with
    | nil => exact absurd (by have := congrArg List.length hl; simpa using this) h0
    | cons _ _ => rfl
  by_cases h24 : s.size ≤ 24
  rotate_left
  · have hres : nmB s = false := by unfold nmB; simp [h24]
    rw [hres]
    have h24' : ¬ (s.size : Int) ≤ 24 := by omega
    clear h0 hres
    go_enter Tryz.func54, Tryz.ntmps54
    go_wp2_with fail
    go_ret
    exact ⟨rfl, rfl⟩
  have h24' : (s.size : Int) ≤ 24 := by omega
  have hcx := fun W => begins_any (s[0].toNat : Int) W
  have hn : nmB s = (begB (s[0].toNat : Int) && cntA s.data.toList) := by unfold nmB; rw [head_str s hpos]; simp [h0, h24]
  cases hb : begB (s[0].toNat : Int)
  · rw [hb] at hcx hn
    have HC := Lib.hid hcx; have HN := Lib.hid hn
    clear hcx hn hb h0
    go_enter Tryz.func54, Tryz.ntmps54
    go_wp2_with fail
    refine (HC.out _).mono ?_
    rintro e w2 ⟨rfl, rfl⟩
    go_wp2_with fail
    go_ret
    rw [HN.out]
    exact ⟨rfl, rfl⟩
  · rw [hb, Bool.true_and] at hn
    rw [hb] at hcx
    have hp := fun W => prefixN_any s (by omega) W
    have hle := prefN_le s.data.toList
    have hal := prefN_all s.data.toList
    rw [show s.data.toList.length = s.size by simp] at hle hal
    generalize prefN s.data.toList = k at *
    have HC := Lib.hid hcx; have HN := Lib.hid hn; have HP := Lib.hid hp
    clear hcx hn hb h0 hp
    by_cases hk : k = s.size
    · have ht : cntA s.data.toList = true := hal.1 hk
      have hkb : ((k : Int) == (s.size : Int)) = true := by simp [hk]
      have HT := Lib.hid ht
      clear hal hle hk ht
      go_enter Tryz.func54, Tryz.ntmps54
      go_wp2_with fail
      refine (HC.out _).mono ?_
      rintro e w2 ⟨rfl, rfl⟩
      go_wp2_with fail
      refine (HP.out _).mono ?_
      rintro e w2 ⟨rfl, rfl⟩
      go_wp2_with fail
      go_ret
      rw [HN.out, HT.out]
      exact ⟨rfl, rfl⟩
    · have ht : cntA s.data.toList = false := by
        cases h : cntA s.data.toList
        · rfl
        · exact absurd (hal.2 h) hk
      have hkb : ((k : Int) == (s.size : Int)) = false := by simp; omega
      have HT := Lib.hid ht
      clear hal hle hk ht
      go_enter Tryz.func54, Tryz.ntmps54
      go_wp2_with fail
      refine (HC.out _).mono ?_
      rintro e w2 ⟨rfl, rfl⟩
      go_wp2_with fail
      refine (HP.out _).mono ?_
      rintro e w2 ⟨rfl, rfl⟩
      go_wp2_with fail
      go_ret
      rw [HN.out, HT.out]
      exact ⟨rfl, rfl⟩
class NmOk (nm : ByteArray) : Prop where
  ok : nmB nm = true
instance nmC : NmOk ⟨#[99]⟩ := ⟨by decide⟩
theorem isNameOk (nm : ByteArray) [h : NmOk nm] (w : World) : Calls Tryz.prog 54 #[.string nm] w fun e w' => e = .returned (.bool true) ∧ w = w' := by
  have := isNameN_any nm w
  rw [h.ok] at this; exact this
end Go.Proofs.YtijknodekomdfaaGreatDoor
namespace Go.Proofs.YtijknodekomdfaaGreatDoor
open Go.RowKit Go.Lib Go.Shelf

/-- the error of a family of a configuration -/
def cfS (l : List S) (M : S) : Int := if validS l ≠ 0 then validS l else if l.length = 0 ∨ at_ l 0 = 0#16 then 9 else if (supS l &&& ~~~M != 0#16) = true then 7 else 0
set_option maxRecDepth 20000 in
theorem checkFamily_any (a : Option Addr) (n c : Nat) (l : List S) (M : S) (w : World) (h : Rd w a n c 1 (sl l)) :
    Calls Tryz.prog 55 #[.slice a n c, .int .u16 (sv M)] w fun e w' => e = .returned (.int .i64 (cfS l M)) ∧ Keeps w w' := by
  have hv := valid_any a n c l w h
  have hs := fun W (k : Keeps w W) => support_any a n c l W (h.keep k)
  have hlen := h.lenS
  unfold cfS
  generalize validS l = v at *
  generalize supS l = q at *
  have HV := Lib.hid hv; have HS := Lib.hid hs; clear hv hs
  by_cases hz : v = 0
  · subst hz
    rw [if_neg (by simp)]
    by_cases h0 : n = 0
    · rw [if_pos (by omega)]
      have hb : ((n : Int) == 0) = true := by rw [beq_iff_eq]; omega
      have HB := Lib.hid hb
      clear hb h0 hlen
      go_enter Tryz.func55, Tryz.ntmps55
      go_wp2_with fail
      refine HV.out.mono ?_
      rintro e w2 ⟨rfl, K⟩
      have hb := HB.out
      go_wp2_with fail
      go_ret
      exact ⟨rfl, K⟩
    · have hb : ((n : Int) == 0) = false := by rw [beq_eq_false_iff_ne]; omega
      have hsm := h.isSome (by omega)
      by_cases h1 : at_ l 0 = 0#16
      · rw [if_pos (.inr h1)]
        have h1b : (at_ l 0 == 0#16) = true := by simpa using h1
        have HH := Lib.hid (And.intro h1b (And.intro hb (show 0 < n by omega)))
        clear h1 h1b hb h0 hlen hsm
        go_enter Tryz.func55, Tryz.ntmps55
        go_wp2_with fail
        refine HV.out.mono ?_
        rintro e w2 ⟨rfl, K⟩
        obtain ⟨h1b, hb, h0⟩ := HH.out
        have hsm := h.isSome h0
        have hc := (h.keep K).at (i := 0) h0
        go_wp2_with fail
        go_ret
        exact ⟨rfl, K⟩
      · rw [if_neg (by rintro (h2 | h2); omega; exact h1 h2)]
        have h1b : (at_ l 0 == 0#16) = false := by simpa using h1
        have HH := Lib.hid (And.intro h1b (And.intro hb (show 0 < n by omega)))
        clear h1 h1b hb h0 hlen hsm
        cases hq : (q &&& ~~~M != 0#16)
        all_goals
          go_enter Tryz.func55, Tryz.ntmps55
          go_wp2_with fail
          refine HV.out.mono ?_
          rintro e w2 ⟨rfl, K⟩
          obtain ⟨h1b, hb, h0⟩ := HH.out
          have hsm := h.isSome h0
          have hc := (h.keep K).at (i := 0) h0
          go_wp2_with fail
          refine (HS.out _ K).mono ?_
          rintro e w3 ⟨rfl, rfl⟩
          go_wp2_with fail
          go_ret
          exact ⟨rfl, K⟩
  · rw [if_pos hz]
    have hb : (v != 0) = true := by simpa using hz
    clear hz hlen
    go_enter Tryz.func55, Tryz.ntmps55
    go_wp2_with fail
    refine HV.out.mono ?_
    rintro e w2 ⟨rfl, K⟩
    go_wp2_with fail
    go_ret
    exact ⟨rfl, K⟩
/-- the rows of a configuration, how they read -/
structure RdC (w : World) (ar : Option Addr) (cr : Nat) (R : List S) (aw : Option Addr) (cw : Nat) (Q : List S) (af : Option Addr) (cf : Nat) (F : List F2) : Prop where
  r : Rd w ar R.length cr 1 (sl R)
  q : Rd w aw Q.length cw 1 (sl Q)
  f : Rd w af F.length cf 2 (fl F)
theorem RdC.keep {w w' : World} {ar : Option Addr} {cr : Nat} {R : List S} {aw : Option Addr} {cw : Nat} {Q : List S} {af : Option Addr} {cf : Nat} {F : List F2} (h : RdC w ar cr R aw cw Q af cf F) (k : Keeps w w') : RdC w' ar cr R aw cw Q af cf F :=
  ⟨h.r.keep k, h.q.keep k, h.f.keep k⟩
/-- the cells of a boxed configuration -/
structure BoxC (w : World) (B : Nat) (nm : ByteArray) (kd : Int) (M : S) (ar : Option Addr) (nr cr : Nat) (aw : Option Addr) (nw cw : Nat) (af : Option Addr) (nf cf : Nat) : Prop where
  c0 : w.cell? ⟨B, 0, none⟩ = some (.string nm)
  c1 : w.cell? ⟨B, 1, none⟩ = some (.int .i64 kd)
  c2 : w.cell? ⟨B, 2, none⟩ = some (.int .u16 (sv M))
  c3 : w.cell? ⟨B, 3, none⟩ = some (.slice ar nr cr)
  c4 : w.cell? ⟨B, 4, none⟩ = some (.slice aw nw cw)
  c5 : w.cell? ⟨B, 5, none⟩ = some (.slice af nf cf)
theorem BoxC.keep {w w' : World} {B : Nat} {nm : ByteArray} {kd : Int} {M : S} {ar : Option Addr} {nr cr : Nat} {aw : Option Addr} {nw cw : Nat} {af : Option Addr} {nf cf : Nat} (h : BoxC w B nm kd M ar nr cr aw nw cw af nf cf) (k : Keeps w w') : BoxC w' B nm kd M ar nr cr aw nw cw af nf cf :=
  ⟨k.cell h.c0, k.cell h.c1, k.cell h.c2, k.cell h.c3, k.cell h.c4, k.cell h.c5⟩
theorem BoxC.new (w : World) (T : TypeId) (nm : ByteArray) (kd : Int) (M : S) (ar : Option Addr) (nr cr : Nat) (aw : Option Addr) (nw cw : Nat) (af : Option Addr) (nf cf : Nat) :
    BoxC (w.alloc (.cells #[.string nm, .int .i64 kd, .int .u16 (sv M), .slice ar nr cr, .slice aw nw cw, .slice af nf cf] T)) w.heap.size nm kd M ar nr cr aw nw cw af nf cf := by
  constructor <;> (rw [World.cell?_alloc_at _ _ _ _ rfl]; rfl)
/-- the error of a configuration with the name c -/
def cvS (kd : Int) (M : S) (R Q : List S) (F : List F2) : Int :=
  if (kd != 1 && kd != 2) = true then 1 else if (sv M / 4096 != 0) = true then 7 else if (M == 0#16) = true then 9 else if cfS R M ≠ 0 then cfS R M else if cfS Q M ≠ 0 then cfS Q M else fvS F

set_option maxRecDepth 20000 in
set_option maxHeartbeats 2000000 in
theorem configValid_any {nm : ByteArray} [NmOk nm] (kd : Int) (M : S) {ar : Option Addr} {cr : Nat} {R : List S} {aw : Option Addr} {cw : Nat} {Q : List S} {af : Option Addr} {cf : Nat} {F : List F2} (w : World) (h : RdC w ar cr R aw cw Q af cf F) :
    Calls Tryz.prog 13 #[.agg #[.string nm, .int .i64 kd, .int .u16 (sv M), .slice ar R.length cr, .slice aw Q.length cw, .slice af F.length cf]] w fun e w' => e = .returned (.int .i64 (cvS kd M R Q F)) ∧ Keeps w w' := by
  have hb := BoxC.new w 36 nm kd M ar R.length cr aw Q.length cw af F.length cf
  have K0 := (Keeps.refl w).alloc (.cells #[.string nm, .int .i64 kd, .int .u16 (sv M), .slice ar R.length cr, .slice aw Q.length cw, .slice af F.length cf] 36)
  have h1 := fun W k => checkFamily_any ar R.length cr R M W (h.r.keep k)
  have h2 := fun W k => checkFamily_any aw Q.length cw Q M W (h.q.keep k)
  have h3 := fun W k => fvalid_any af F.length cf F W (h.f.keep k)
  unfold cvS
  generalize cfS R M = x at *
  generalize cfS Q M = y at *
  generalize fvS F = z at *
  generalize R.length = nr at *
  generalize Q.length = nq at *
  generalize F.length = nf at *
  obtain ⟨W0, hW0⟩ : ∃ W0, W0 = w.alloc (.cells #[.string nm, .int .i64 kd, .int .u16 (sv M), .slice ar nr cr, .slice aw nq cw, .slice af nf cf] 36) := ⟨_, rfl⟩
  rw [← hW0] at hb K0
  obtain ⟨c0, c1, c2, c3, c4, c5⟩ := hb
  have H1 := Lib.hid h1; have H2 := Lib.hid h2; have H3 := Lib.hid h3
  clear h1 h2 h3 h
  have hcs : (x ≠ 0 ∧ (x != 0) = true) ∨ (x = 0 ∧ y ≠ 0 ∧ (y != 0) = true) ∨ (x = 0 ∧ y = 0) := by
    by_cases hx : x = 0
    · by_cases hy : y = 0
      · exact .inr (.inr ⟨hx, hy⟩)
      · exact .inr (.inl ⟨hx, hy, by simpa using hy⟩)
    · exact .inl ⟨hx, by simpa using hx⟩
  rcases hcs with ⟨hx, hb⟩ | ⟨rfl, hy, hb⟩ | ⟨rfl, rfl⟩
  · rw [if_pos hx]
    clear hx
    cases k1 : (kd != 1) <;> cases k2 : (kd != 2) <;> cases k3 : (sv M / 4096 != 0) <;> cases k4 : (M == 0#16)
    all_goals simp only [Bool.and_self, Bool.and_false, Bool.false_and, if_true, Bool.false_eq_true, if_false]
    all_goals
        go_enter Tryz.func13, Tryz.ntmps13
        go_wp2_with fail
        rw [← hW0]
        clear hW0
        refine (isNameOk nm _).mono ?_
        rintro e w2 ⟨rfl, rfl⟩
        go_wp2_with fail
    all_goals first
        | (go_ret; exact ⟨rfl, K0⟩)
        | (refine (H1.out _ K0).mono ?_
           rintro e w2 ⟨rfl, K1⟩
           replace c3 := K1.cell c3; replace c4 := K1.cell c4; replace c5 := K1.cell c5; replace c2 := K1.cell c2
           clear c0 c1
           replace K1 := K0.trans K1
           go_wp2_with fail
           go_ret
           exact ⟨rfl, K1⟩)
  · rw [if_neg (show ¬ (0 : Int) ≠ 0 by simp), if_pos hy]
    clear hy
    cases k1 : (kd != 1) <;> cases k2 : (kd != 2) <;> cases k3 : (sv M / 4096 != 0) <;> cases k4 : (M == 0#16)
    all_goals simp only [Bool.and_self, Bool.and_false, Bool.false_and, if_true, Bool.false_eq_true, if_false]
    all_goals
        go_enter Tryz.func13, Tryz.ntmps13
        go_wp2_with fail
        rw [← hW0]
        clear hW0
        refine (isNameOk nm _).mono ?_
        rintro e w2 ⟨rfl, rfl⟩
        go_wp2_with fail
    all_goals first
        | (go_ret; exact ⟨rfl, K0⟩)
        | (refine (H1.out _ K0).mono ?_
           rintro e w2 ⟨rfl, K1⟩
           replace c3 := K1.cell c3; replace c4 := K1.cell c4; replace c5 := K1.cell c5; replace c2 := K1.cell c2
           clear c0 c1
           replace K1 := K0.trans K1
           go_wp2_with fail
           refine (H2.out _ K1).mono ?_
           rintro e w3 ⟨rfl, K2⟩
           replace c5 := K2.cell c5
           clear c2 c3 c4
           replace K2 := K1.trans K2
           go_wp2_with fail
           go_ret
           exact ⟨rfl, K2⟩)
  · rw [if_neg (show ¬ (0 : Int) ≠ 0 by simp), if_neg (show ¬ (0 : Int) ≠ 0 by simp)]
    cases k1 : (kd != 1) <;> cases k2 : (kd != 2) <;> cases k3 : (sv M / 4096 != 0) <;> cases k4 : (M == 0#16)
    all_goals simp only [Bool.and_self, Bool.and_false, Bool.false_and, if_true, Bool.false_eq_true, if_false]
    all_goals
        go_enter Tryz.func13, Tryz.ntmps13
        go_wp2_with fail
        rw [← hW0]
        clear hW0
        refine (isNameOk nm _).mono ?_
        rintro e w2 ⟨rfl, rfl⟩
        go_wp2_with fail
    all_goals first
        | (go_ret; exact ⟨rfl, K0⟩)
        | (refine (H1.out _ K0).mono ?_
           rintro e w2 ⟨rfl, K1⟩
           replace c3 := K1.cell c3; replace c4 := K1.cell c4; replace c5 := K1.cell c5; replace c2 := K1.cell c2
           clear c0 c1
           replace K1 := K0.trans K1
           go_wp2_with fail
           refine (H2.out _ K1).mono ?_
           rintro e w3 ⟨rfl, K2⟩
           replace c5 := K2.cell c5
           clear c2 c3 c4
           replace K2 := K1.trans K2
           go_wp2_with fail
           refine (H3.out _ K2).mono ?_
           rintro e w4 ⟨rfl, K3⟩
           go_wp2_with fail
           go_ret
           exact ⟨rfl, K2.trans K3⟩)
end Go.Proofs.YtijknodekomdfaaGreatDoor
