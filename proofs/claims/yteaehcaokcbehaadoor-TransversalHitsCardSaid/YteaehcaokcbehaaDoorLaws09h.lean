/- The walk of TransversalHits. -/
import Derived.Deep.RegionHeld3
import Derived.Test.YteaehcaokcbehaaDoorLaws09
namespace Go.Proofs.YteaehcaokcbehaaDoor
open Go.RowKit Go.Lib Go.Shelf

set_option maxRecDepth 20000 in
set_option maxHeartbeats 1600000 in
theorem TransversalHits_any (a : Option Addr) (n c : Nat) (l : List B8) (s : S) (w : World) (hT : Tab w) (hl : Rd w a n c 1 (bl l)) :
    Calls Tryd.prog 3 #[.slice a n c, .int .u16 (sv s)] w fun e w' => e = .returned (.bool true) ∧ Keeps w w' := by
  have KK := Keeps.refl w
  have hmf := fun W => made_any a n c l W
  have q1f := made_fam l
  have q2f := made_low l
  have lenf := made_len l
  generalize madeS l = f at *
  have HMf := Lib.hid hmf; have FAf := Lib.hid q1f; have LOf := Lib.hid q2f
  clear hmf q1f q2f
  have e1 := fun a n c W t h => dualL FAf.out LOf.out a n c W t h
  have e2 := fun a n c W h => hits_any a n c f s W h
  have e3 := fun a n c W h => rHits_any a n c f s W h
  have e4 := fun a n c B W h hc => hitsL_any a n c (D f) s B W h hc
  rw [acc_D (small_sup LOf.out.small)] at e4
  generalize hitS f s = q at *
  have E1 := Lib.hid e1; have E2 := Lib.hid e2; have E3 := Lib.hid e3; have E4 := Lib.hid e4
  clear e1 e2 e3 e4
  have hqq : (q == q) = true := by simp
  go_enter Tryd.func3, Tryd.ntmps3
  go_wp2_with fail
  have hbx := Boxed.new w 24 (.int .u16 (sv s))
  have K := (Keeps.refl w).alloc (.cells #[.int .u16 (sv s)] 24)
  replace hT := hT.keep K
  replace hl := hl.keep K
  replace KK := KK.trans K
  clear K
  refine (HMf.out _ hl).mono ?_
  rintro e W1 ⟨v, rfl, hO⟩
  obtain ⟨a_hf, c_hf, rfl, hf⟩ := hO.rd
  have K := hO.2
  clear hO
  replace hT := hT.keep K
  replace hl := hl.keep K
  replace hbx := boxedKeep hbx K
  replace KK := KK.trans K
  clear K
  go_wp2_with fail
  refine (awake_any _ hT).mono ?_
  rintro e W2 ⟨rfl, K⟩
  replace hT := hT.keep K
  replace hl := hl.keep K
  replace hf := hf.keep K
  replace hbx := boxedKeep hbx K
  replace KK := KK.trans K
  clear K
  go_wp2_with fail
  refine (cloneS_any _ _ _ (sl f) _ hf (sl_oneCell _) (by omega)).mono ?_
  rintro e W3 ⟨v, rfl, ho, K⟩
  obtain ⟨a_h1, c_h1, rfl, h1⟩ := own_rd ho
  clear ho
  replace hT := hT.keep K
  replace hl := hl.keep K
  replace hf := hf.keep K
  replace hbx := boxedKeep hbx K
  replace KK := KK.trans K
  clear K
  go_wp2_with fail
  refine (E1.out _ _ _ _ hT h1).mono ?_
  rintro e W4 ⟨v, rfl, hO⟩
  obtain ⟨a_hd, c_hd, rfl, hd⟩ := hO.rd
  have K := hO.2
  clear hO
  replace hT := hT.keep K
  replace hl := hl.keep K
  replace hf := hf.keep K
  replace h1 := h1.keep K
  replace hbx := boxedKeep hbx K
  replace KK := KK.trans K
  clear K
  have hcb := hbx.cell
  have hclo := fun W (K : Keeps W4 W) => cloneS_any _ _ _ (sl f) W (hf.keep K) (sl_oneCell _) (by omega)
  have HCL := Lib.hid hclo; clear hclo
  go_wp2_with (go_region_held3 (fun w' => w'.cell? ⟨w.heap.size, 0, none⟩ = some (.int .u16 (sv s))) (first | go_keep | exact hF) ((first | (go_at_call 14; refine (HCL.out _ (by first | exact Keeps.refl _ | exact (Keeps.refl _).drew)).mono ?_; rintro e W5 ⟨v5, rfl, ho5, K5⟩; obtain ⟨a5, c5, rfl, h5⟩ := own_rd ho5; have hF := K5.cell (p := ⟨w.heap.size, 0, none⟩) hcb) | (go_at_call 15; refine (E2.out _ _ _ _ h5).mono ?_; rintro e W6 ⟨rfl, K6⟩; have hF := K6.cell (p := ⟨w.heap.size, 0, none⟩) (K5.cell (p := ⟨w.heap.size, 0, none⟩) hcb)))))
  have K : Keeps W4 W6 := ((Keeps.refl W4).drew.trans K5).trans K6
  replace hT := hT.keep K
  replace hl := hl.keep K
  replace hf := hf.keep K
  replace h1 := h1.keep K
  replace hd := hd.keep K
  replace hbx := boxedKeep hbx K
  replace KK := KK.trans K
  clear K
  clear hF
  refine (E4.out _ _ _ _ _ hd hbx.cell).mono ?_
  rintro e W7 ⟨rfl, K⟩
  replace hT := hT.keep K
  replace hl := hl.keep K
  replace hf := hf.keep K
  replace h1 := h1.keep K
  replace hd := hd.keep K
  replace hbx := boxedKeep hbx K
  replace KK := KK.trans K
  clear K
  have hcb2 := hbx.cell
  go_wp2_with fail
  refine (E3.out _ _ _ _ hf).mono ?_
  rintro e W8 ⟨rfl, rfl⟩
  go_wp2_with fail
  go_ret
  exact ⟨rfl, KK⟩
end Go.Proofs.YteaehcaokcbehaaDoor
