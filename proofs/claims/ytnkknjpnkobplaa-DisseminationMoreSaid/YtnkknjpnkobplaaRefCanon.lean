/- The reference's Canonical. -/
import Derived.Test.YtnkknjpnkobplaaRefSort
import Derived.Test.YtnkknjpnkobplaaFam2
import Derived.Deep.RegionHeld3
import Derived.Deep.AppendLies
namespace Go.Proofs.Ytnkknjpnkobplaa
open Go.RowKit Go.Lib Go.Shelf

def refCanon (n : Int) (b : List S) : List S × Int := if n < 0 ∨ 12 < n then ([], 7) else limS (refLeast (compl n.toNat b))

set_option maxHeartbeats 1600000 in
theorem refCanonical_any (n : Int) (a : Option Addr) (m c : Nat) (b : List S) (w : World) (h : Rd w a m c 1 (sl b)) (hm : m ≤ 1000000) :
    Calls Try.prog 27 #[.int .i64 n, .slice a m c] w fun e w' => RetS w (refCanon n b) e w' := by
  by_cases hbad : n < 0 ∨ 12 < n
  · have e1 : refCanon n b = ([], 7) := if_pos hbad
    rw [e1]; clear e1 h
    have fin : ∀ e w', e = Ending.returned (.tuple #[.slice none 0 0, .int .i64 7]) → w = w' → RetS w ([], 7) e w' := fun e w' he hw => by
      subst he; subst hw; exact ⟨_, rfl, Own.nil _ _ (Keeps.refl w)⟩
    have FIN := Lib.hid fin; clear fin
    by_cases c1 : n < 0
    · go_enter Try.func27, Try.ntmps27
      go_wp2
      go_ret2
      exact FIN.out _ _ rfl rfl
    have c2 : 12 < n := by omega
    go_enter Try.func27, Try.ntmps27
    go_wp2
    go_ret2
    exact FIN.out _ _ rfl rfl
  · have n0 : 0 ≤ n := by omega
    have n1 : n ≤ 12 := by omega
    have e1 : refCanon n b = limS (refLeast (compl n.toNat b)) := if_neg hbad
    rw [e1]; clear e1 hbad
    have s1 := h.small; have l1 := h.lenS
    have hcl : (compl n.toNat b).length = m := by simp [compl, l1]
    have hcon := fun W v (hO : Own 26 1 w W v m (sl (compl n.toNat b))) => show Calls Try.prog 36 #[v] W (fun e w' => ∃ v, e = .returned v ∧ Own 26 1 w w' v (refLeast (compl n.toNat b)).length (sl (refLeast (compl n.toNat b)))) by
      obtain ⟨a', c', rfl, hR⟩ := hO.rd
      exact (refLeast_any a' m c' _ W hR hm).mono fun e w' ⟨v', he, hO'⟩ => ⟨v', he, hO'.since hO.2⟩
    generalize refLeast (compl n.toNat b) = r at hcon ⊢
    have HC := Lib.hid hcon; have L1 := Lib.hid l1; have HL := Lib.hid hcl; clear hcon l1 hcl
    have hfull := Lib.hid fun W => full_any n W n0 (by omega)
    go_enter Try.func27, Try.ntmps27
    go_wp2_with fail
    go_loopw [6, 7] (fun u v wr => ∃ k : Nat, k ≤ m ∧ v = .int .i64 k ∧ Own 26 1 w wr u k (sl (compl n.toNat (b.take k)))) (fun _ v _ => m - (intOf v).toNat)
    case atStart => exact ⟨0, Nat.zero_le _, rfl, Own.nil _ _ (Keeps.refl _)⟩
    case round =>
      obtain ⟨k, hk, rfl, hA⟩ := hrel
      by_cases hlt : k < m
      · have hc := (h.keep hA.2).at hlt
        have ha := h.isSome (by omega)
        obtain ⟨a2, c2, rfl, hRa⟩ := hA.rd
        go_wp2_with fail
        have hcD := ((Keeps.refl wr).drew).cell hc
        go_region_held3 (fun w' => w'.cell? (adr a k) = some (.int .u16 (sv (at_ b k)))) (first | go_keep | exact hF) ((first | (go_at_call 31; refine (hfull.out _).mono ?_; rintro e w' ⟨rfl, rfl⟩) | (refine step_app tyS (by rfl) _ _ (by rfl) ((hA.alloc _).keep ((Keeps.refl _).drew)) (by rfl) (by rfl) ((rd_new _ 1 _ [.int .u16 (sv (fullS n.toNat &&& ~~~at_ b k))] 1 (by decide) rfl).keep ((Keeps.refl _).drew)) (sl_oneCell [fullS n.toNat &&& ~~~at_ b k]) (by omega) ?_; intro v' w3 hO3 _; have hF := (h.keep hO3.2).at hlt)))
        go_wp2
        go_roundw
        case rel => exact ⟨k + 1, by omega, by go_num, by rw [compl_snoc _ _ _ (by have := L1.out; omega), sl_append]; exact hO3⟩
        case measure => simp [intOf]; omega
      · have hkm : k = m := by omega
        subst hkm
        rw [List.take_of_length_le (by have := L1.out; omega)] at hA
        by_cases h4 : 400 < r.length
        · have e1 : limS r = ([], 3) := if_pos h4
          have HE := Lib.hid e1; clear e1
          go_wp2_with (go_at_call 36; refine (HC.out _ _ hA).mono ?_; rintro e w1 ⟨v, rfl, hO⟩; obtain ⟨av, cv, rfl, hRv⟩ := hO.rd)
          go_ret2
          rw [HE.out]
          exact ⟨_, rfl, Own.nil _ _ hO.2⟩
        · have e1 : limS r = (r, 0) := if_neg h4
          have HE := Lib.hid e1; clear e1
          go_wp2_with (go_at_call 36; refine (HC.out _ _ hA).mono ?_; rintro e w1 ⟨v, rfl, hO⟩; obtain ⟨av, cv, rfl, hRv⟩ := hO.rd)
          go_ret2
          rw [HE.out]
          exact ⟨_, rfl, hO⟩
end Go.Proofs.Ytnkknjpnkobplaa
