/- cmp.Compare, cmp.Or, set.Compare: the order of sets. -/
import Derived.Test.YtbiggfbbccpcmaaDoorCount
import Derived.Sort.Grow
namespace Go.Proofs.YtbiggfbbccpcmaaDoor
open Go.RowKit Go.Lib

def cmpI (x y : Int) : Int := if x < y then -1 else if y < x then 1 else 0
/-- by size, then by number -/
def cmpS (x y : S) : Int := if cnt x = cnt y then cmpI (sv x) (sv y) else cmpI (cnt x) (cnt y)

theorem cmpInt_any (x y : Int) (w : World) : Calls Tryd.prog 76 #[.int .i64 x, .int .i64 y] w fun e w' => e = .returned (.int .i64 (cmpI x y)) ∧ w = w' := by
  have hx : (x != x) = false := by simp
  have hy : (y != y) = false := by simp
  by_cases h1 : x < y
  · have e : cmpI x y = -1 := if_pos h1
    rw [e]; clear e
    go_enter Tryd.func76, Tryd.ntmps76
    go_wp2
    go_ret
    exact ⟨rfl, rfl⟩
  · by_cases h2 : y < x
    · have e : cmpI x y = 1 := by unfold cmpI; rw [if_neg h1, if_pos h2]
      rw [e]; clear e
      go_enter Tryd.func76, Tryd.ntmps76
      go_wp2
      go_ret
      exact ⟨rfl, rfl⟩
    · have e : cmpI x y = 0 := by unfold cmpI; rw [if_neg h1, if_neg h2]
      rw [e]; clear e
      go_enter Tryd.func76, Tryd.ntmps76
      go_wp2
      go_ret
      exact ⟨rfl, rfl⟩

theorem cmpSet_any (x y : Int) (w : World) : Calls Tryd.prog 77 #[.int .u16 x, .int .u16 y] w fun e w' => e = .returned (.int .i64 (cmpI x y)) ∧ w = w' := by
  have hx : (x != x) = false := by simp
  have hy : (y != y) = false := by simp
  by_cases h1 : x < y
  · have e : cmpI x y = -1 := if_pos h1
    rw [e]; clear e
    go_enter Tryd.func77, Tryd.ntmps77
    go_wp2
    go_ret
    exact ⟨rfl, rfl⟩
  · by_cases h2 : y < x
    · have e : cmpI x y = 1 := by unfold cmpI; rw [if_neg h1, if_pos h2]
      rw [e]; clear e
      go_enter Tryd.func77, Tryd.ntmps77
      go_wp2
      go_ret
      exact ⟨rfl, rfl⟩
    · have e : cmpI x y = 0 := by unfold cmpI; rw [if_neg h1, if_neg h2]
      rw [e]; clear e
      go_enter Tryd.func77, Tryd.ntmps77
      go_wp2
      go_ret
      exact ⟨rfl, rfl⟩

/-- the first number that is not 0 -/
def orL : List Int → Int
  | [] => 0
  | x :: xs => if x != 0 then x else orL xs
def ints (l : List Int) : List Value := l.map (Value.int .i64)
theorem Rd.atI {w : World} {a : Option Addr} {n c : Nat} {l : List Int} (h : Rd w a n c 1 (ints l)) {i : Nat} (hi : i < n) : w.cell? (adr a i) = some (.int .i64 (l.getD i 0)) := by
  have hl := h.len
  simp [ints] at hl
  exact h.cell i _ (by simp [ints, List.getD, show i < l.length by omega])

set_option maxHeartbeats 400000 in
theorem or_any (a : Option Addr) (n c : Nat) (l : List Int) (w : World) (h : Rd w a n c 1 (ints l)) :
    Calls Tryd.prog 75 #[.slice a n c] w fun e w' => e = .returned (.int .i64 (orL l)) ∧ w = w' := by
  have s1 := h.small
  have hl := h.len
  simp only [ints, List.length_map, Nat.mul_one] at hl
  have hstep : ∀ k, k < n → l.drop k = l.getD k 0 :: l.drop (k + 1) := fun k hk => by
    rw [List.drop_eq_getElem_cons (by omega : k < l.length)]; simp [List.getD, show k < l.length by omega]
  have HS := Lib.hid hstep; have HL := Lib.hid hl; clear hstep hl
  go_enter Tryd.func75, Tryd.ntmps75
  go_wp2
  go_loop [8] (fun v => ∃ k : Nat, k ≤ n ∧ v = .int .i64 k ∧ Hid (orL l = orL (l.drop k))) (fun v => n - (intOf v).toNat)
  case atStart => exact ⟨0, Nat.zero_le _, rfl, rfl⟩
  case round =>
    obtain ⟨k, hk, rfl, HI⟩ := hrel
    by_cases hlt : k < n
    · have hc := h.atI hlt
      have ha := h.isSome (by omega)
      have hd := HS.out k hlt
      generalize l.getD k 0 = x at hc hd
      have HD := Lib.hid hd; clear hd
      cases hq : (x != 0) with
      | true =>
        have HQ : Hid ((x != 0) = true) := hq
        go_wp2
        go_ret
        exact ⟨ret_eq (by rw [HI.out, HD.out, orL, HQ.out]; rfl), rfl⟩
      | false =>
        have HQ : Hid ((x != 0) = false) := hq
        go_wp2
        go_round
        case rel => exact ⟨k + 1, by omega, by go_num, hrfl <| by rw [HI.out, HD.out, orL, HQ.out]; rfl⟩
        case measure => simp [intOf]; omega
    · go_wp2
      go_ret
      exact ⟨ret_eq (by rw [HI.out, List.drop_eq_nil_iff.2 (by have := HL.out; omega)]; rfl), rfl⟩

theorem cmpI_zero (x y : Int) : cmpI x y = 0 ↔ x = y := by unfold cmpI; split <;> (try split) <;> omega
theorem cmpS_eq (x y : S) : cmpS x y = orL [cmpI (cnt x) (cnt y), cmpI (sv x) (sv y)] := by
  have orl : ∀ p q : Int, orL [p, q] = if p = 0 then q else p := fun p q => by
    unfold orL orL orL
    by_cases hp : p = 0
    · subst hp
      by_cases hq : q = 0
      · subst hq; rfl
      · simp [hq]
    · simp [hp]
  rw [orl]
  unfold cmpS
  by_cases h : cnt x = cnt y
  · rw [if_pos h, if_pos ((cmpI_zero _ _).2 (by rw [h]))]
  · rw [if_neg h, if_neg (fun e => h (by have := (cmpI_zero _ _).1 e; omega))]

set_option maxHeartbeats 400000 in
theorem compare_grown (x y : S) (w : World) : Calls Tryd.prog 59 #[.int .u16 (sv x), .int .u16 (sv y)] w fun e w' => e = .returned (.int .i64 (cmpS x y)) ∧ ∃ q os, w' = Sort.grow (w.drewN q) os := by
  rw [cmpS_eq]
  have c1 := fun W => count_any x W
  have c2 := fun W => count_any y W
  have d1 := fun W => cmpInt_any (cnt x) (cnt y) W
  have d2 := fun W => cmpSet_any (sv x) (sv y) W
  generalize cmpI (cnt x) (cnt y) = p at d1 ⊢
  generalize cmpI (sv x) (sv y) = q at d2 ⊢
  have C1 := Lib.hid c1; have C2 := Lib.hid c2; have D1 := Lib.hid d1; have D2 := Lib.hid d2
  clear c1 c2 d1 d2
  go_enter Tryd.func59, Tryd.ntmps59
  go_wp2_with fail
  refine (C1.out _).mono ?_
  rintro e w' ⟨rfl, n1, rfl⟩
  go_wp2_with fail
  refine (C2.out _).mono ?_
  rintro e w' ⟨rfl, n2, rfl⟩
  go_wp2_with fail
  refine (D1.out _).mono ?_
  rintro e w' ⟨rfl, rfl⟩
  go_wp2_with fail
  refine (D2.out _).mono ?_
  rintro e w' ⟨rfl, rfl⟩
  go_wp2_with fail
  refine (or_any _ 2 2 [p, q] _ (rd_new _ 1 _ [.int .i64 p, .int .i64 q] 2 (by decide) rfl)).mono ?_
  rintro e w' ⟨rfl, rfl⟩
  go_wp2_with fail
  go_ret
  exact ⟨rfl, _, _, Sort.alloc_eq_grow _ _⟩
theorem Keeps.grow {a b : World} (h : Keeps a b) (os : Array Obj) : Keeps a (Sort.grow b os) := by
  refine ⟨h.below.os, h.below.tape, h.below.output, ?_, fun i hi => ?_⟩
  · have := h.size; simp; omega
  · have hs := h.size
    show (b.heap ++ os)[i]? = _
    rw [Array.getElem?_append_left (by omega)]
    exact h.below.block i hi
theorem compare_any (x y : S) (w : World) : Calls Tryd.prog 59 #[.int .u16 (sv x), .int .u16 (sv y)] w fun e w' => e = .returned (.int .i64 (cmpS x y)) ∧ Keeps w w' :=
  (compare_grown x y w).mono fun _ _ ⟨he, q, os, hw⟩ => ⟨he, hw ▸ ((Keeps.refl w).drewN q).grow os⟩
end Go.Proofs.YtbiggfbbccpcmaaDoor
