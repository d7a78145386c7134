/- Texts joined into one (wip/bin/pack.py): Law29e. -/
import Derived.Test.YtnlohknlchgfgaaGreatDoorKSe
import Derived.Test.YtnlohknlchgfgaaGreatDoorKSd
import Derived.Test.YtnlohknlchgfgaaGreatDoorKSc
import Derived.Test.YtnlohknlchgfgaaGreatDoorKZi
/- The statement JointChain. -/
namespace Go.Proofs.YtnlohknlchgfgaaGreatDoor
open Go.RowKit Go.Lib Go.Shelf
set_option maxRecDepth 20000 in
set_option maxHeartbeats 8000000 in
theorem JointChain_any (a : Option Addr) (n c : Nat) (l : List D29) (x : S) (w : World) (hT : Tab w) (h : Rd w a n c 7 (dl l)) (hl : ∀ d ∈ l, OkD w d) :
    Calls Tryz.prog 4 #[.slice a n c, .int .u16 (sv x)] w fun e w' => e = .returned (.bool true) ∧ Keeps w w' := by
    have hall := rall_any a n c l w h hl
    have HA := Lib.hid hall; have HT := Lib.hid hT
    clear hall hT h hl
    go_enter Tryz.func4, Tryz.ntmps4
    go_wp2_with fail
    refine HA.out.mono ?_
    rintro e w1 ⟨v, zs, rfl, hO, hz, hY⟩
    have KK := hO.2
    obtain ⟨az, cz, rfl, rz⟩ := hO.rd
    have hf : ∀ u ∈ zs, cvf u.c = 0 ∧ Few9 u.c := fun u hu => by
      have hm : u.c ∈ allF l 0 := by rw [← hz]; exact List.mem_map.2 ⟨u, hu, rfl⟩
      exact ⟨(allF_facts hm).1, (allF_facts hm).2.1⟩
    have hn : zs.length ≤ 4 := by
      have := allF_len l 0 (by decide)
      rw [← hz, List.length_map] at this
      omega
    have hval : ValL zs := fun u hu => (hf u hu).1
    have hfew : FewL zs := fun u hu => (hf u hu).2
    have HR := Lib.hid rz; have HY := Lib.hid hY; have HN := Lib.hid hn; have HVL := Lib.hid hval; have HFL := Lib.hid hfew
    clear hO rz hY hz hf hn hval hfew HA
    go_wp2_with fail
    refine (awake29_any _).mono ?_
    rintro e w2 ⟨rfl, K⟩
    replace HR := Lib.hid (HR.out.keep K); replace HY := Lib.hid (HY.out.keep K); replace KK := KK.trans K; clear K
    go_wp2_with fail
    refine (cloneG_any _ _ zs _ HR.out (by have := HN.out; omega)).mono ?_
    rintro e w3 ⟨v, rfl, hO⟩
    have K := hO.2
    obtain ⟨ac, cc, rfl, rc⟩ := hO.rd
    have HC := Lib.hid rc
    clear hO rc
    replace HR := Lib.hid (HR.out.keep K); replace HY := Lib.hid (HY.out.keep K); replace KK := KK.trans K; clear K
    go_wp2_with fail
    refine (jchain_any _ _ _ zs _ HC.out HY.out.rd (by have := HN.out; omega)).mono ?_
    rintro e w4 ⟨v, ys, rfl, hO, hys, hYS⟩
    have K := hO.2
    obtain ⟨ax, cx, rfl, rx⟩ := hO.rd
    have HX := Lib.hid rx; have HXS := Lib.hid hys; have HXR := Lib.hid hYS
    clear hO rx hys hYS HC
    replace HR := Lib.hid (HR.out.keep K); replace HY := Lib.hid (HY.out.keep K); replace KK := KK.trans K; clear K
    obtain ⟨er, hE⟩ : ∃ er, er = chainE (zs.map (·.c)) := ⟨_, rfl⟩
    rw [← hE]
    have HE := Lib.hid hE; clear hE
    go_wp2_with fail
    refine (rchain_any _ _ _ zs _ HR.out HY.out (by have := HN.out; omega)).mono ?_
    rintro e w5 ⟨v, ys2, rfl, hO, hys, hYS⟩
    have K := hO.2
    obtain ⟨ay, cy, rfl, ry⟩ := hO.rd
    have HX2 := Lib.hid ry; have HXS2 := Lib.hid hys; have HXR2 := Lib.hid hYS
    clear hO ry hys hYS
    rw [← HE.out]
    replace HR := Lib.hid (HR.out.keep K); replace HY := Lib.hid (HY.out.keep K); replace HX := Lib.hid (HX.out.keep K); replace HXR := Lib.hid (HXR.out.keep K); replace KK := KK.trans K; clear K
    go_wp2_with fail
    refine (cloneG_any _ _ zs _ HR.out (by have := HN.out; omega)).mono ?_
    rintro e w6 ⟨v, rfl, hO⟩
    have K := hO.2
    obtain ⟨ac, cc, rfl, rc⟩ := hO.rd
    have HC := Lib.hid rc
    clear hO rc
    replace HR := Lib.hid (HR.out.keep K); replace HY := Lib.hid (HY.out.keep K); replace HX := Lib.hid (HX.out.keep K); replace HXR := Lib.hid (HXR.out.keep K); replace HX2 := Lib.hid (HX2.out.keep K); replace HXR2 := Lib.hid (HXR2.out.keep K); replace KK := KK.trans K; clear K
    go_wp2_with fail
    refine (junsafe_any _ _ _ zs x _ (HT.out.keep KK) HC.out HY.out HVL.out).mono ?_
    rintro e w7 ⟨rfl, K⟩
    have hue := unsF_err x (zs.map (·.c)) 0
    have HUE := Lib.hid hue
    clear hue HC
    replace HR := Lib.hid (HR.out.keep K); replace HY := Lib.hid (HY.out.keep K); replace HX := Lib.hid (HX.out.keep K); replace HXR := Lib.hid (HXR.out.keep K); replace HX2 := Lib.hid (HX2.out.keep K); replace HXR2 := Lib.hid (HXR2.out.keep K); replace KK := KK.trans K; clear K
    obtain ⟨u, hu⟩ : ∃ u, u = unsF x (zs.map (·.c)) 0 := ⟨_, rfl⟩
    rw [← hu] at HUE ⊢
    have HU := Lib.hid hu; clear hu
    obtain ⟨ui, ⟨x0, x1, x2, x3⟩, ue⟩ := u
    dsimp only [vcl]
    have K := (Keeps.refl w7).alloc (.cells #[.int .i64 x0, .int .u16 (sv x1), .int .u16 (sv x2), .int .u16 (sv x3)] 47)
    have hb : ClBox (w7.alloc (.cells #[.int .i64 x0, .int .u16 (sv x1), .int .u16 (sv x2), .int .u16 (sv x3)] 47)) w7.heap.size (x0, x1, x2, x3) := World.alloc_heap_new w7 _
    have HB := Lib.hid hb; clear hb
    replace HR := Lib.hid (HR.out.keep K); replace HY := Lib.hid (HY.out.keep K); replace HX := Lib.hid (HX.out.keep K); replace HXR := Lib.hid (HXR.out.keep K); replace HX2 := Lib.hid (HX2.out.keep K); replace HXR2 := Lib.hid (HXR2.out.keep K); replace KK := KK.trans K; clear K
    go_wp2_with fail
    generalize w7.alloc (.cells #[.int .i64 x0, .int .u16 (sv x1), .int .u16 (sv x2), .int .u16 (sv x3)] 47) = w8 at *
    generalize w7.heap.size = B8 at *
    refine (runsafe_any _ _ _ zs x _ HR.out HY.out.rd HVL.out HFL.out).mono ?_
    rintro e w9 ⟨rfl, K⟩
    rw [← HU.out]
    dsimp only [vcl]
    replace HR := Lib.hid (HR.out.keep K); replace HY := Lib.hid (HY.out.keep K); replace HX := Lib.hid (HX.out.keep K); replace HXR := Lib.hid (HXR.out.keep K); replace HX2 := Lib.hid (HX2.out.keep K); replace HXR2 := Lib.hid (HXR2.out.keep K); replace HB := Lib.hid (HB.out.keep K); replace KK := KK.trans K; clear K
    have K := (Keeps.refl w9).alloc (.cells #[.int .i64 x0, .int .u16 (sv x1), .int .u16 (sv x2), .int .u16 (sv x3)] 47)
    have hb : ClBox (w9.alloc (.cells #[.int .i64 x0, .int .u16 (sv x1), .int .u16 (sv x2), .int .u16 (sv x3)] 47)) w9.heap.size (x0, x1, x2, x3) := World.alloc_heap_new w9 _
    have HB2 := Lib.hid hb; clear hb
    replace HR := Lib.hid (HR.out.keep K); replace HY := Lib.hid (HY.out.keep K); replace HX := Lib.hid (HX.out.keep K); replace HXR := Lib.hid (HXR.out.keep K); replace HX2 := Lib.hid (HX2.out.keep K); replace HXR2 := Lib.hid (HXR2.out.keep K); replace HB := Lib.hid (HB.out.keep K); replace KK := KK.trans K; clear K
    go_wp2_with fail
    generalize w9.alloc (.cells #[.int .i64 x0, .int .u16 (sv x1), .int .u16 (sv x2), .int .u16 (sv x3)] 47) = wa at *
    generalize w9.heap.size = B9 at *
    refine (rSame29_any _ _ _ ys _ _ _ ys2 _ HX.out HX2.out HXR.out.rd HXR2.out.rd (by rw [HXS.out, HXS2.out])).mono ?_
    rintro e wb ⟨rfl, K⟩
    replace HR := Lib.hid (HR.out.keep K); replace HY := Lib.hid (HY.out.keep K); replace HX := Lib.hid (HX.out.keep K); replace HXR := Lib.hid (HXR.out.keep K); replace HB := Lib.hid (HB.out.keep K); replace HB2 := Lib.hid (HB2.out.keep K); replace KK := KK.trans K; clear K
    obtain ⟨c0, c1, c2, c3⟩ := HB.out.cells
    obtain ⟨d0, d1, d2, d3⟩ := HB2.out.cells
    dsimp only at c0 c1 c2 c3 d0 d1 d2 d3
    go_wp2_with fail
    clear c0 c1 c2 c3 d0 d1 d2 d3 HB HB2 HX2 HXR2 HXS2
    refine (cloneG_any _ _ zs _ HR.out (by have := HN.out; omega)).mono ?_
    rintro e wd ⟨v, rfl, hO⟩
    have K := hO.2
    obtain ⟨ac, cc, rfl, rc⟩ := hO.rd
    have HC := Lib.hid rc
    clear hO rc
    replace HR := Lib.hid (HR.out.keep K); replace HY := Lib.hid (HY.out.keep K); replace HX := Lib.hid (HX.out.keep K); replace HXR := Lib.hid (HXR.out.keep K); replace KK := KK.trans K; clear K
    go_wp2_with fail
    refine (jsaf_any _ _ _ zs x _ (HT.out.keep KK) HC.out HY.out HVL.out).mono ?_
    rintro e we ⟨rfl, K⟩
    clear HC
    replace HR := Lib.hid (HR.out.keep K); replace HY := Lib.hid (HY.out.keep K); replace HX := Lib.hid (HX.out.keep K); replace HXR := Lib.hid (HXR.out.keep K); replace KK := KK.trans K; clear K
    go_wp2_with fail
    refine (rjsaf_any _ _ _ zs x _ HR.out HY.out.rd HVL.out HFL.out).mono ?_
    rintro e wf ⟨rfl, K⟩
    replace HR := Lib.hid (HR.out.keep K); replace HY := Lib.hid (HY.out.keep K); replace HX := Lib.hid (HX.out.keep K); replace HXR := Lib.hid (HXR.out.keep K); replace KK := KK.trans K; clear K
    generalize zs.all (safC x) = qs at *
    rcases (Decidable.em (er = 0)).symm with he | he
    · have hb : (er != 0) = true := by simpa using he
      go_wp2_with fail
      go_ret
      exact ⟨rfl, KK⟩
    · subst he
      have hvy : ValL ys := fun u hu => chain_valid (l := zs.map (·.c)) u.c (by rw [← HXS.out]; exact List.mem_map.2 ⟨u, hu, rfl⟩)
      have hq : ys.all (safC x) = (ue == 13) := by
        have h1 := HUE.out
        (try dsimp only at h1)
        rw [h1, ← chain_all HE.out.symm, ← HXS.out, List.all_map]
        rfl
      go_wp2_with fail
      have hcl := jsaf_any _ _ _ ys x _ (HT.out.keep KK) HX.out HXR.out hvy
      rw [hq] at hcl
      refine hcl.mono ?_
      rintro e wg ⟨rfl, K⟩
      clear hcl hvy hq
      go_wp2_with fail
      go_ret
      exact ⟨rfl, KK.trans K⟩
end Go.Proofs.YtnlohknlchgfgaaGreatDoor
