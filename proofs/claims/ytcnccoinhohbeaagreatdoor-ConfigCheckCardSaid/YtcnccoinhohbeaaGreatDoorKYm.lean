/- Texts joined into one (wip/bin/pack.py): RSameI. -/
import Derived.Test.YtcnccoinhohbeaaGreatDoorKYe
/- The reference's Same at equal lists of rows. -/
namespace Go.Proofs.YtcnccoinhohbeaaGreatDoor
open Go.RowKit Go.Lib Go.Shelf

set_option maxRecDepth 20000 in
set_option maxHeartbeats 2000000 in
theorem rSameI_any (a : Option Addr) (c : Nat) (l : List It) (a2 : Option Addr) (c2 : Nat) (w : World) (h : Rd w a l.length c 5 (itl l)) (h2 : Rd w a2 l.length c2 5 (itl l)) :
    Calls Tryz.prog 20 #[.slice a l.length c, .slice a2 l.length c2] w fun e w' => e = .returned (.bool true) ∧ Keeps w w' := by
  have s1 := h.small
  have HR := Lib.hid h; have HR2 := Lib.hid h2
  clear h h2
  go_enter Tryz.func20, Tryz.ntmps20
  go_wp2_with fail
  go_loopw [5] (fun v wr => ∃ i : Nat, i ≤ l.length ∧ v = .int .i64 i ∧ Keeps w wr) (fun v _ => l.length - (RowKit.intOf v).toNat)
  case atStart => exact ⟨0, Nat.zero_le _, rfl, Keeps.refl _⟩
  case round =>
    obtain ⟨i, hi, rfl, K1⟩ := hrel
    by_cases hlt : i < l.length
    · have hs := HR.out.isSome (by omega)
      have hs2 := HR2.out.isSome (by omega)
      have hlt' : (i : Int) < (l.length : Int) := by omega
      have hrw := fun W (k : Keeps w W) => And.intro (And.intro ((HR.out.keep k).i hlt) ((HR.out.keep k).i' hlt)) (And.intro ((HR2.out.keep k).i hlt) ((HR2.out.keep k).i' hlt))
      generalize ia l i = x at *
      obtain ⟨x0, x1, x2, x3, x4⟩ := x
      dsimp only at hrw
      have HRW := Lib.hid hrw
      clear hrw
      have J := Keeps.refl wr
      go_wp2_with fail
      refine wp_region_held_drew (S := (fun w' => ((w'.cell? (adr a (i * 5)) = some (.int .i64 x0) ∧ w'.cell? (adr a (i * 5 + 1)) = some (.int .u16 (sv x1)) ∧ w'.cell? (adr a (i * 5 + 2)) = some (.int .u16 (sv x2)) ∧ w'.cell? (adr a (i * 5 + 3)) = some (.int .u16 (sv x3)) ∧ w'.cell? (adr a (i * 5 + 4)) = some (.int .i64 x4)) ∧ (w'.cell? ⟨(adr a (i * 5)).block, (adr a (i * 5)).off + 1, none⟩ = some (.int .u16 (sv x1)) ∧ w'.cell? ⟨(adr a (i * 5)).block, (adr a (i * 5)).off + 2, none⟩ = some (.int .u16 (sv x2)) ∧ w'.cell? ⟨(adr a (i * 5)).block, (adr a (i * 5)).off + 3, none⟩ = some (.int .u16 (sv x3)) ∧ w'.cell? ⟨(adr a (i * 5)).block, (adr a (i * 5)).off + 4, none⟩ = some (.int .i64 x4))) ∧ ((w'.cell? (adr a2 (i * 5)) = some (.int .i64 x0) ∧ w'.cell? (adr a2 (i * 5 + 1)) = some (.int .u16 (sv x1)) ∧ w'.cell? (adr a2 (i * 5 + 2)) = some (.int .u16 (sv x2)) ∧ w'.cell? (adr a2 (i * 5 + 3)) = some (.int .u16 (sv x3)) ∧ w'.cell? (adr a2 (i * 5 + 4)) = some (.int .i64 x4)) ∧ (w'.cell? ⟨(adr a2 (i * 5)).block, (adr a2 (i * 5)).off + 1, none⟩ = some (.int .u16 (sv x1)) ∧ w'.cell? ⟨(adr a2 (i * 5)).block, (adr a2 (i * 5)).off + 2, none⟩ = some (.int .u16 (sv x2)) ∧ w'.cell? ⟨(adr a2 (i * 5)).block, (adr a2 (i * 5)).off + 3, none⟩ = some (.int .u16 (sv x3)) ∧ w'.cell? ⟨(adr a2 (i * 5)).block, (adr a2 (i * 5)).off + 4, none⟩ = some (.int .i64 x4))))) (by kernel_rfl) ?_ (fun hHeld => ?_)
      · exact HRW.out _ (K1.trans J.drew)
      refine wpAnyH_take (i := 0) (oi := ⟨_, _, _, _, _, _⟩) (v := ?_) rfl (by kernel_rfl) (by kernel_rfl) (by kernel_rfl) (fun _ _ _ h => h) (Or.inl ⟨by rfl, ?_⟩) (by assumption) ?_
      rotate_left 1
      · intro w hSw; (try dsimp only at hSw); go_simp <;> with_reducible rfl
      (try simp only [Act.put]); (try simp only [List.setIfInBounds_toArray]); (try simp only [List.set_cons_succ]); (try simp only [List.set_cons_zero])
      refine wpAnyH_take (i := 1) (oi := ⟨_, _, _, _, _, _⟩) (v := ?_) rfl (by kernel_rfl) (by kernel_rfl) (by kernel_rfl) (fun _ _ _ h => h) (Or.inl ⟨by rfl, ?_⟩) (by assumption) ?_
      rotate_left 1
      · intro w hSw; (try dsimp only at hSw); go_simp <;> with_reducible rfl
      (try simp only [Act.put]); (try simp only [List.setIfInBounds_toArray]); (try simp only [List.set_cons_succ]); (try simp only [List.set_cons_zero])
      refine wpAnyH_take (i := 2) (oi := ⟨_, _, _, _, _, _⟩) (v := ?_) rfl (by kernel_rfl) (by kernel_rfl) (by kernel_rfl) (fun _ _ _ h => h) (Or.inl ⟨by rfl, ?_⟩) (by assumption) ?_
      rotate_left 1
      · intro w hSw; (try dsimp only at hSw); go_simp <;> with_reducible rfl
      (try simp only [Act.put]); (try simp only [List.setIfInBounds_toArray]); (try simp only [List.set_cons_succ]); (try simp only [List.set_cons_zero])
      refine wpAnyH_take (i := 3) (oi := ⟨_, _, _, _, _, _⟩) (v := ?_) rfl (by kernel_rfl) (by kernel_rfl) (by kernel_rfl) (fun _ _ _ h => h) (Or.inl ⟨by rfl, ?_⟩) (by assumption) ?_
      rotate_left 1
      · intro w hSw; (try dsimp only at hSw); go_simp <;> with_reducible rfl
      (try simp only [Act.put]); (try simp only [List.setIfInBounds_toArray]); (try simp only [List.set_cons_succ]); (try simp only [List.set_cons_zero])
      refine wpAnyH_take (i := 4) (oi := ⟨_, _, _, _, _, _⟩) (v := ?_) rfl (by kernel_rfl) (by kernel_rfl) (by kernel_rfl) (fun _ _ _ h => h) (Or.inl ⟨by rfl, ?_⟩) (by assumption) ?_
      rotate_left 1
      · intro w hSw; (try dsimp only at hSw); go_simp <;> with_reducible rfl
      (try simp only [Act.put]); (try simp only [List.setIfInBounds_toArray]); (try simp only [List.set_cons_succ]); (try simp only [List.set_cons_zero])
      refine wpAnyH_take (i := 5) (oi := ⟨_, _, _, _, _, _⟩) (v := ?_) rfl (by kernel_rfl) (by kernel_rfl) (by kernel_rfl) (fun _ _ _ h => h) (Or.inl ⟨by rfl, ?_⟩) (by assumption) ?_
      rotate_left 1
      · intro w hSw; (try dsimp only at hSw); go_simp <;> with_reducible rfl
      (try simp only [Act.put]); (try simp only [List.setIfInBounds_toArray]); (try simp only [List.set_cons_succ]); (try simp only [List.set_cons_zero])
      refine wpAnyH_take (i := 6) (oi := ⟨_, _, _, _, _, _⟩) (v := ?_) rfl (by kernel_rfl) (by kernel_rfl) (by kernel_rfl) (fun _ _ _ h => h) (Or.inl ⟨by rfl, ?_⟩) (by assumption) ?_
      rotate_left 1
      · intro w hSw; (try dsimp only at hSw); go_simp <;> with_reducible rfl
      (try simp only [Act.put]); (try simp only [List.setIfInBounds_toArray]); (try simp only [List.set_cons_succ]); (try simp only [List.set_cons_zero])
      refine wpAnyH_take (i := 7) (oi := ⟨_, _, _, _, _, _⟩) (v := ?_) rfl (by kernel_rfl) (by kernel_rfl) (by kernel_rfl) (fun _ _ _ h => h) (Or.inl ⟨by rfl, ?_⟩) (by assumption) ?_
      rotate_left 1
      · intro w hSw; (try dsimp only at hSw); go_simp <;> with_reducible rfl
      (try simp only [Act.put]); (try simp only [List.setIfInBounds_toArray]); (try simp only [List.set_cons_succ]); (try simp only [List.set_cons_zero])
      refine wpAnyH_ready (rs := [8]) (by kernel_rfl) (by simp) ?_
      refine AllReadyH.cons (o := ⟨_, _, _, _, _, _⟩) rfl (fun K hK => ?_) AllReadyH.nil
      go_simp
      refine hK.out _ _ ?_ (fun hHeld => ?_)
      · exact HRW.out _ (K1.trans J.drew)
      clear hK K
      (try simp only [Act.put]); (try simp only [List.setIfInBounds_toArray]); (try simp only [List.set_cons_succ]); (try simp only [List.set_cons_zero])
      refine wpAnyH_done (by kernel_rfl) ?_ _
      go_wp2_with fail
      go_roundw
      case rel => exact ⟨i + 1, by omega, by go_num, K1.trans J.drew⟩
      case measure => simp [RowKit.intOf]; omega
    · go_wp2_with fail
      go_ret
      exact ⟨rfl, K1⟩
end Go.Proofs.YtcnccoinhohbeaaGreatDoor
