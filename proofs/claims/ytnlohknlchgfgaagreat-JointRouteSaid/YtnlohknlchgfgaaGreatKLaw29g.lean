/- Texts joined into one (wip/bin/pack.py): Law29g. -/
import Derived.Test.YtnlohknlchgfgaaGreatKSd
import Derived.Test.YtnlohknlchgfgaaGreatKZj
import Derived.Test.YtnlohknlchgfgaaGreatKZi
/- The statement JointRoute. -/
namespace Go.Proofs.YtnlohknlchgfgaaGreat
open Go.RowKit Go.Lib Go.Shelf
set_option maxRecDepth 20000 in
set_option maxHeartbeats 8000000 in
theorem JointRoute_any (a : Option Addr) (n c : Nat) (l : List D29) (f t : Int) (w : World) (h : Rd w a n c 7 (dl l)) (hl : ∀ d ∈ l, OkD w d) :
    Calls Tryz.prog 5 #[.slice a n c, .int .i64 f, .int .i64 t] w fun e w' => e = .returned (.bool true) ∧ Keeps w w' := by
    have hall := rall_any a n c l w h hl
    have HA := Lib.hid hall
    clear hall h hl
    go_enter Tryz.func5, Tryz.ntmps5
    go_wp2_with fail
    refine HA.out.mono ?_
    rintro e w1 ⟨v, zs, rfl, hO, hz, hY⟩
    have KK := hO.2
    obtain ⟨az, cz, rfl, rz⟩ := hO.rd
    have hn : zs.length ≤ 4 := by
      have := allF_len l 0 (by decide)
      rw [← hz, List.length_map] at this
      omega
    have HR := Lib.hid rz; have HY := Lib.hid hY; have HN := Lib.hid hn
    clear hO rz hY hz hn HA
    go_wp2_with fail
    refine (awake29_any _).mono ?_
    rintro e w2 ⟨rfl, K⟩
    replace HR := Lib.hid (HR.out.keep K); replace HY := Lib.hid (HY.out.keep K); replace KK := KK.trans K; clear K
    go_wp2_with fail
    refine (cloneG_any _ _ zs _ HR.out (by have := HN.out; omega)).mono ?_
    rintro e w3 ⟨v, rfl, hO⟩
    have K := hO.2
    obtain ⟨ac, cc, rfl, rc⟩ := hO.rd
    have HC := Lib.hid rc
    clear hO rc
    replace HR := Lib.hid (HR.out.keep K); replace HY := Lib.hid (HY.out.keep K); replace KK := KK.trans K; clear K
    go_wp2_with fail
    refine (jroute_any _ _ _ zs f t _ HC.out HY.out.rd (by have := HN.out; omega)).mono ?_
    rintro e w4 ⟨v, rfl, hO⟩
    have K := hO.2
    obtain ⟨ax, cx, rfl, rx⟩ := hO.rd
    have HX := Lib.hid rx
    clear hO rx HC
    replace HR := Lib.hid (HR.out.keep K); replace HY := Lib.hid (HY.out.keep K); replace KK := KK.trans K; clear K
    obtain ⟨r, hr⟩ : ∃ r, r = routeS (zs.map (·.c)) f t := ⟨_, rfl⟩
    have HX1 := HX.out
    rw [← hr] at HX1 ⊢
    have HX := Lib.hid HX1
    have HRR := Lib.hid hr
    clear hr HX1
    go_wp2_with fail
    refine (rroute_any _ _ _ zs f t _ HR.out HY.out.rd (by have := HN.out; omega)).mono ?_
    rintro e w5 ⟨v, rfl, hO⟩
    have K := hO.2
    rw [← HRR.out] at hO ⊢
    obtain ⟨ay, cy, rfl, ry⟩ := hO.rd
    have HX2 := Lib.hid ry
    clear hO ry
    replace HX := Lib.hid (HX.out.keep K); replace KK := KK.trans K; clear K
    obtain ⟨r, er⟩ := r
    dsimp only at *
    have hb : (er == er) = true := by simp
    go_wp2_with fail
    refine (rNumbers_any _ _ _ _ r _ HX.out HX2.out).mono ?_
    rintro e w6 ⟨rfl, K⟩
    go_wp2_with fail
    go_ret
    exact ⟨rfl, KK.trans K⟩
end Go.Proofs.YtnlohknlchgfgaaGreat
