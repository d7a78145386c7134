/- Available, of the program and of the reference. -/
import Derived.Test.YtnkknjpnkobplaaSliceS
namespace Go.Proofs.Ytnkknjpnkobplaa
open Go.RowKit Go.Lib Go.Shelf

/-- some set of f avoids a set -/
def avoids (f : List S) (bad : S) : Bool := f.any fun q => q &&& bad == 0#16
def availS (f b : List S) : Bool := b.all (avoids f)

theorem avoidPred (bad : S) (B : Nat) (l : List S) (w : World) (hc : w.cell? ⟨B, 0, none⟩ = some (.int .u16 (sv bad))) :
    PredK Try.prog 34 #[.pointer (some ⟨B, 0, none⟩)] vs (fun q => q &&& bad == 0#16) l w := fun W x _ hk => by
  have hc' := hk.cell hc
  show Calls Try.prog 34 #[.int .u16 (sv x), .pointer (some ⟨B, 0, none⟩)] W _
  go_enter Try.func34, Try.ntmps34
  go_wp2
  go_ret
  exact ⟨rfl, Keeps.refl _⟩

theorem availPred (f : List S) (a : Option Addr) (n c : Nat) (B : Nat) (l : List S) (w : World) (h : Rd w a n c 1 (sl f)) (hB : w.cell? ⟨B, 0, none⟩ = some (.slice a n c)) :
    PredK Try.prog 33 #[.pointer (some ⟨B, 0, none⟩)] vs (fun bad => !avoids f bad) l w := fun W x _ hk => by
  have hc' := hk.cell hB
  have hK := (Keeps.refl W).alloc (.cells #[.int .u16 (sv x)] 26)
  have eg : ∀ args w, (callFunc 34 args).run Try.prog w = .ok (.enter 34 args) w := enters_of Try.func34 (by kernel_rfl) rfl
  have hcon := containsFuncS_any a n c f (W.alloc (.cells #[.int .u16 (sv x)] 26)) 34 #[.pointer (some ⟨W.heap.size, 0, none⟩)] (fun q => q &&& x == 0#16) ((h.keep hk).keep hK) eg
    (avoidPred x W.heap.size f _ (by rw [World.cell?_alloc_at _ _ _ _ rfl]; rfl))
  change Calls _ _ _ _ (fun e w' => e = .returned (.bool (avoids f x)) ∧ _) at hcon
  have hc2 := hK.cell hc'
  show Calls Try.prog 33 #[.int .u16 (sv x), .pointer (some ⟨B, 0, none⟩)] W fun e w' => e = .returned (.bool (!avoids f x)) ∧ Keeps W w'
  generalize avoids f x = r at hcon ⊢
  have HC := Lib.hid hcon; clear hcon eg h hc'
  go_enter Try.func33, Try.ntmps33
  go_wp2_with (go_at_call 32; refine HC.out.mono ?_; rintro e w' ⟨rfl, K2⟩)
  go_ret
  exact ⟨rfl, hK.trans K2⟩

theorem avail_any (a1 : Option Addr) (n1 c1 : Nat) (a2 : Option Addr) (n2 c2 : Nat) (f b : List S) (w : World) (h1 : Rd w a1 n1 c1 1 (sl f)) (h2 : Rd w a2 n2 c2 1 (sl b)) :
    Calls Try.prog 24 #[.slice a1 n1 c1, .slice a2 n2 c2] w fun e w' => e = .returned (.bool (availS f b)) ∧ Keeps w w' := by
  have hK := (Keeps.refl w).alloc (.cells #[.slice a1 n1 c1] 22)
  have eg : ∀ args w, (callFunc 33 args).run Try.prog w = .ok (.enter 33 args) w := enters_of Try.func33 (by kernel_rfl) rfl
  have hcon := containsFuncS_any a2 n2 c2 b (w.alloc (.cells #[.slice a1 n1 c1] 22)) 33 #[.pointer (some ⟨w.heap.size, 0, none⟩)] (fun bad => !avoids f bad) (h2.keep hK) eg
    (availPred f a1 n1 c1 w.heap.size b _ (h1.keep hK) (by rw [World.cell?_alloc_at _ _ _ _ rfl]; rfl))
  have e1 : availS f b = !(b.any fun bad => !avoids f bad) := by unfold availS; simp [List.all_eq_not_any_not]
  rw [e1]; clear e1
  generalize (b.any fun bad => !avoids f bad) = r at hcon ⊢
  have HC := Lib.hid hcon; clear hcon eg h1 h2
  go_enter Try.func24, Try.ntmps24
  go_wp2_with (go_at_call 32; refine HC.out.mono ?_; rintro e w' ⟨rfl, K2⟩)
  go_ret
  exact ⟨rfl, hK.trans K2⟩

theorem avoids_snoc (f : List S) (k : Nat) (bad : S) (h : k < f.length) : avoids (f.take (k + 1)) bad = (avoids (f.take k) bad || at_ f k &&& bad == 0#16) := by
  rw [take_at f k h]; simp [avoids]
theorem all_step (p : S → Bool) (b : List S) (k : Nat) (h : k < b.length) : (b.drop k).all p = (p (at_ b k) && (b.drop (k + 1)).all p) := by
  rw [drop_at b k h]; rfl

set_option maxHeartbeats 800000 in
theorem refAvail_any (a1 : Option Addr) (n1 c1 : Nat) (a2 : Option Addr) (n2 c2 : Nat) (f b : List S) (w : World) (h1 : Rd w a1 n1 c1 1 (sl f)) (h2 : Rd w a2 n2 c2 1 (sl b)) :
    Calls Try.prog 25 #[.slice a1 n1 c1, .slice a2 n2 c2] w fun e w' => e = .returned (.bool (availS f b)) ∧ Keeps w w' := by
  have s1 := h1.small; have s2 := h2.small; have l1 := h1.lenS; have l2 := h2.lenS
  have hs1 := fun k (hk : k < n1) bad => avoids_snoc f k bad (by omega)
  have hs2 := fun k (hk : k < n2) => all_step (avoids f) b k (by omega)
  have L1 := Lib.hid l1; have L2 := Lib.hid l2; have S1 := Lib.hid hs1; have S2 := Lib.hid hs2; clear l1 l2 hs1 hs2
  go_enter Try.func25, Try.ntmps25
  go_wp2
  go_loopw [5] (fun v wr => ∃ k : Nat, k ≤ n2 ∧ v = .int .i64 k ∧ Keeps w wr ∧ Hid (availS f b = (b.drop k).all (avoids f))) (fun v _ => n2 - (intOf v).toNat)
  case atStart => exact ⟨0, Nat.zero_le _, rfl, Keeps.refl _, rfl⟩
  case round =>
    obtain ⟨k, hk, rfl, K1, HI⟩ := hrel
    by_cases hlt : k < n2
    · go_wp2
      obtain ⟨wo, rfl⟩ : ∃ wo : World, wo = wr := ⟨_, rfl⟩
      go_loopw [6, 7] (fun u v wr => ∃ (i : Nat) (r : Bool), i ≤ n1 ∧ v = .int .i64 i ∧ u = .bool r ∧ Keeps w wr ∧ Hid (r = avoids (f.take i) (at_ b k))) (fun _ v _ => n1 - (intOf v).toNat)
      case atStart => exact ⟨0, false, Nat.zero_le _, rfl, rfl, K1, rfl⟩
      case round =>
        obtain ⟨i, r, hi, rfl, rfl, K2, HR⟩ := hrel
        by_cases hli : i < n1
        · have hci := (h1.keep K2).at hli
          have hck := (h2.keep K2).at hlt
          have ha := h1.isSome (by omega)
          have hb := h2.isSome (by omega)
          cases r with
          | true =>
            go_wp2
            go_quiet (fail)
            go_wp2
            go_roundw
            case rel => exact ⟨i + 1, true, by omega, by go_num, rfl, K2.drewN _, hrfl <| by rw [S1.out i hli, ← HR.out]; rfl⟩
            case measure => simp [intOf]; omega
          | false =>
            go_wp2
            go_quiet (fail)
            go_wp2
            go_roundw
            case rel => exact ⟨i + 1, (at_ f i &&& at_ b k == 0#16), by omega, by go_num, rfl, K2.drewN _, hrfl <| by rw [S1.out i hli, ← HR.out]; rfl⟩
            case measure => simp [intOf]; omega
        · have hav : Hid (r = avoids f (at_ b k)) := hrfl <| by rw [HR.out, takeN L1 hli]
          cases r with
          | true =>
            go_wp2
            go_roundw
            case rel => exact ⟨k + 1, by omega, by go_num, K2, hrfl <| by rw [HI.out, S2.out k hlt, ← hav.out]; rfl⟩
            case measure => simp [intOf]; omega
          | false =>
            go_wp2
            go_ret
            exact ⟨ret_eq (by rw [HI.out, S2.out k hlt, ← hav.out]; rfl), K2⟩
    · go_wp2
      go_ret
      exact ⟨ret_eq (by rw [HI.out, dropN L2 hlt]; rfl), K1⟩
end Go.Proofs.Ytnkknjpnkobplaa
