/- Texts joined into one, what is needed of them (a program of ours). -/
import Derived.Test.YtijknodekomdfaaGreatDoorBKTD
import Derived.Test.YtijknodekomdfaaGreatDoorBKTA
import Derived.Test.YtijknodekomdfaaGreatDoorBKS
import Derived.Test.YtijknodekomdfaaGreatDoorBKPH
import Derived.Test.YtijknodekomdfaaGreatDoorBKTC
namespace Go.Proofs.YtijknodekomdfaaGreatDoor
open Go.RowKit Go.Lib Go.Shelf

def tw : List S := [3#16, 5#16, 6#16]
def ow : List S := [1#16, 2#16, 4#16]
def th : List S := [7#16, 11#16, 13#16, 14#16]
theorem tw_dual : dualErr tw = (tw, 0) := by decide +kernel
theorem tw_self : (tw == tw) = true := by decide +kernel
theorem tw_dis : disR tw tw = (0#16, 0#16, 13) := by decide +kernel
theorem s_dis : disR [3#16] [12#16] = (3#16, 12#16, 0) := by decide +kernel
theorem tw_ok : OkF 3 tw := ⟨by decide +kernel, by decide +kernel, by decide +kernel⟩
theorem s3_ok : OkF 4 [3#16] := ⟨by decide +kernel, by decide +kernel, by decide +kernel⟩
theorem s12_ok : OkF 4 [12#16] := ⟨by decide +kernel, by decide +kernel, by decide +kernel⟩
theorem th_ok : OkQ th := ⟨by decide +kernel, by decide +kernel⟩
theorem th_meet' : (th.all fun a => th.all fun b => idxFrom (fun x => a &&& b &&& x == 0#16) th 0 == -1) = true := by decide +kernel
theorem th_meet : meet3 th th := fun a ha b hb => by
  have h := List.all_eq_true.1 (List.all_eq_true.1 th_meet' a ha) b hb
  simpa using h
theorem tw_atk : atkE tw ow 3 = 0 := by decide +kernel
theorem tw_spl : splI 3 ow tw = some (3#16, 5#16, 1#16) := by decide +kernel
theorem tw_del : consB (delC ⟨3, 1#16, tzS 1#16, atkS tw ow 3 3#16 5#16 1#16⟩) = false ∧ (atkS tw ow 3 3#16 5#16 1#16).nodes.length ≤ 1000000 := by decide +kernel
set_option maxHeartbeats 4000000 in
set_option maxRecDepth 20000 in
theorem awake39T_any (w : World) (hT : Tab w) : Calls Tryz.prog 28 #[] w fun e w' => e = .returned (.bool true) ∧ Keeps w w' := by
  have HT := Lib.hid hT; have HK := Lib.hid (Keeps.refl w)
  have kl := (Keeps.refl w).alloc (.cells #[.int .u16 3, .int .u16 5, .int .u16 6] 31)
  have rl : Rd (w.alloc (.cells #[.int .u16 3, .int .u16 5, .int .u16 6] 31)) (some ⟨w.heap.size, 0, none⟩) 3 3 1 (sl tw) := rd_new 31 1 w _ 3 (by decide) rfl
  have HT := Lib.hid (HT.out.keep kl); have HK := Lib.hid (HK.out.trans kl)
  have RT := Lib.hid rl
  clear kl rl
  clear hT
  go_enter Tryz.func28, Tryz.ntmps28
  go_upto_region 2 with fail
  generalize w.alloc (.cells #[.int .u16 3, .int .u16 5, .int .u16 6] 31) = w1 at *
  generalize w.heap.size = BT at *
  have hcl := cloneS_any _ _ _ (sl tw) w1 RT.out (sl_oneCell tw) (by decide)
  have HC := Lib.hid hcl
  clear hcl
  go_wp2_with fail
  refine HC.out.mono ?_
  rintro e w2 ⟨vc, rfl, ho, kk⟩
  obtain ⟨ac1, cc1, rfl, rr⟩ := (show Own 31 1 w1 w2 vc 3 (sl tw) from ⟨ho, kk⟩).rd
  have RT := Lib.hid (RT.out.keep kk)
  have HT := Lib.hid (HT.out.keep kk); have HK := Lib.hid (HK.out.trans kk)
  have Rc1 := Lib.hid rr
  clear HC ho kk rr
  have hd := dual_any _ _ _ tw w2 HT.out Rc1.out (fun _ => by unfold small; decide +kernel)
  rw [tw_dual] at hd
  have HC := Lib.hid hd
  clear hd
  go_wp2_with fail
  refine HC.out.mono ?_
  rintro e w3 ⟨vd, rfl, hO⟩
  obtain ⟨ad, cd, rfl, rr⟩ := hO.rd
  have kk := hO.2
  have RT := Lib.hid (RT.out.keep kk)
  have Rc1 := Lib.hid (Rc1.out.keep kk)
  have HT := Lib.hid (HT.out.keep kk); have HK := Lib.hid (HK.out.trans kk)
  have RD := Lib.hid rr
  clear HC hO kk rr
  have hcl := cloneS_any _ _ _ (sl tw) w3 RT.out (sl_oneCell tw) (by decide)
  have HC := Lib.hid hcl
  clear hcl
  go_wp2_with fail
  refine HC.out.mono ?_
  rintro e w4 ⟨vc, rfl, ho, kk⟩
  obtain ⟨ac2, cc2, rfl, rr⟩ := (show Own 31 1 w3 w4 vc 3 (sl tw) from ⟨ho, kk⟩).rd
  have RT := Lib.hid (RT.out.keep kk)
  have RD := Lib.hid (RD.out.keep kk)
  have HT := Lib.hid (HT.out.keep kk); have HK := Lib.hid (HK.out.trans kk)
  have Rc2 := Lib.hid rr
  clear HC ho kk rr
  have hcl := cloneS_any _ _ _ (sl tw) w4 RT.out (sl_oneCell tw) (by decide)
  have HC := Lib.hid hcl
  clear hcl
  go_wp2_with fail
  refine HC.out.mono ?_
  rintro e w5 ⟨vc, rfl, ho, kk⟩
  obtain ⟨ac3, cc3, rfl, rr⟩ := (show Own 31 1 w4 w5 vc 3 (sl tw) from ⟨ho, kk⟩).rd
  have RT := Lib.hid (RT.out.keep kk)
  have RD := Lib.hid (RD.out.keep kk)
  have Rc2 := Lib.hid (Rc2.out.keep kk)
  have HT := Lib.hid (HT.out.keep kk); have HK := Lib.hid (HK.out.trans kk)
  have Rc3 := Lib.hid rr
  clear HC ho kk rr
  have hs := satk_safe 3 (by decide) (by decide) _ _ _ tw _ _ _ tw w5 Rc2.out Rc3.out tw_ok tw_ok tw_dis
  have HC := Lib.hid hs
  clear hs
  go_wp2_with fail
  refine HC.out.mono ?_
  rintro e w6 ⟨rfl, kk⟩
  have RT := Lib.hid (RT.out.keep kk)
  have RD := Lib.hid (RD.out.keep kk)
  have Rc2 := Lib.hid (Rc2.out.keep kk)
  have Rc3 := Lib.hid (Rc3.out.keep kk)
  have HT := Lib.hid (HT.out.keep kk); have HK := Lib.hid (HK.out.trans kk)
  clear HC kk
  have kl := (Keeps.refl w6).alloc (.cells #[.int .u16 3] 31)
  have rl : Rd (w6.alloc (.cells #[.int .u16 3] 31)) (some ⟨w6.heap.size, 0, none⟩) 1 1 1 (sl [3#16]) := rd_new 31 1 w6 _ 1 (by decide) rfl
  have RT := Lib.hid (RT.out.keep kl)
  have RD := Lib.hid (RD.out.keep kl)
  have HT := Lib.hid (HT.out.keep kl); have HK := Lib.hid (HK.out.trans kl)
  have R3 := Lib.hid rl
  clear kl rl
  have kl := (Keeps.refl (w6.alloc (.cells #[.int .u16 3] 31))).alloc (.cells #[.int .u16 12] 31)
  have rl : Rd ((w6.alloc (.cells #[.int .u16 3] 31)).alloc (.cells #[.int .u16 12] 31)) (some ⟨(w6.alloc (.cells #[.int .u16 3] 31)).heap.size, 0, none⟩) 1 1 1 (sl [12#16]) := rd_new 31 1 (w6.alloc (.cells #[.int .u16 3] 31)) _ 1 (by decide) rfl
  rw [World.size_alloc] at rl
  have RT := Lib.hid (RT.out.keep kl)
  have RD := Lib.hid (RD.out.keep kl)
  have R3 := Lib.hid (R3.out.keep kl)
  have HT := Lib.hid (HT.out.keep kl); have HK := Lib.hid (HK.out.trans kl)
  have R12 := Lib.hid rl
  clear kl rl
  go_wp2_with fail
  generalize (w6.alloc (.cells #[.int .u16 3] 31)).alloc (.cells #[.int .u16 12] 31) = w8 at *
  have ha := satk_ok 4 (by decide) (by decide) _ _ _ [3#16] _ _ _ [12#16] w8 HT.out R3.out R12.out s3_ok s12_ok 3#16 12#16 s_dis (by decide) (by unfold small; decide +kernel) (by unfold small; decide +kernel) (by unfold small; decide +kernel) (by decide +kernel) (by decide +kernel) (by decide +kernel)
  have HC := Lib.hid ha
  clear ha
  refine HC.out.mono ?_
  rintro e w9 ⟨al, cl9, rfl, kk⟩
  have RT := Lib.hid (RT.out.keep kk)
  have RD := Lib.hid (RD.out.keep kk)
  have R3 := Lib.hid (R3.out.keep kk)
  have R12 := Lib.hid (R12.out.keep kk)
  have HT := Lib.hid (HT.out.keep kk); have HK := Lib.hid (HK.out.trans kk)
  clear HC kk
  have kl := (Keeps.refl w9).alloc (.cells #[.int .u16 3, .int .u16 5, .int .u16 6] 31)
  have rl : Rd (w9.alloc (.cells #[.int .u16 3, .int .u16 5, .int .u16 6] 31)) (some ⟨w9.heap.size, 0, none⟩) 3 3 1 (sl tw) := rd_new 31 1 w9 _ 3 (by decide) rfl
  have RT := Lib.hid (RT.out.keep kl)
  have RD := Lib.hid (RD.out.keep kl)
  have HT := Lib.hid (HT.out.keep kl); have HK := Lib.hid (HK.out.trans kl)
  have RA := Lib.hid rl
  clear kl rl
  have kl := (Keeps.refl (w9.alloc (.cells #[.int .u16 3, .int .u16 5, .int .u16 6] 31))).alloc (.cells #[.int .u16 1, .int .u16 2, .int .u16 4] 31)
  have rl : Rd ((w9.alloc (.cells #[.int .u16 3, .int .u16 5, .int .u16 6] 31)).alloc (.cells #[.int .u16 1, .int .u16 2, .int .u16 4] 31)) (some ⟨(w9.alloc (.cells #[.int .u16 3, .int .u16 5, .int .u16 6] 31)).heap.size, 0, none⟩) 3 3 1 (sl ow) := rd_new 31 1 (w9.alloc (.cells #[.int .u16 3, .int .u16 5, .int .u16 6] 31)) _ 3 (by decide) rfl
  rw [World.size_alloc] at rl
  have RT := Lib.hid (RT.out.keep kl)
  have RD := Lib.hid (RD.out.keep kl)
  have RA := Lib.hid (RA.out.keep kl)
  have HT := Lib.hid (HT.out.keep kl); have HK := Lib.hid (HK.out.trans kl)
  have RB := Lib.hid rl
  clear kl rl
  go_wp2_with fail
  generalize (w9.alloc (.cells #[.int .u16 3, .int .u16 5, .int .u16 6] 31)).alloc (.cells #[.int .u16 1, .int .u16 2, .int .u16 4] 31) = w11 at *
  have hb := attackC_any w11 HT.out _ _ _ tw _ _ _ ow 3 RA.out RB.out
  rw [show ((3 : Int).toNat) = 3 from rfl, tw_atk, tw_spl] at hb
  have HC := Lib.hid hb
  clear hb
  refine HC.out.mono ?_
  rintro e w12 ⟨kk, v, rfl, hv⟩
  rw [if_pos rfl] at hv
  have RT := Lib.hid (RT.out.keep kk)
  have RD := Lib.hid (RD.out.keep kk)
  have RA := Lib.hid (RA.out.keep kk)
  have RB := Lib.hid (RB.out.keep kk)
  have HT := Lib.hid (HT.out.keep kk); have HK := Lib.hid (HK.out.trans kk)
  clear HC kk
  obtain ⟨st, hst⟩ : ∃ s, s = atkS tw ow 3 3#16 5#16 1#16 := ⟨_, rfl⟩
  have hv2 : HasC w12 ⟨3, 1#16, tzS 1#16, st⟩ v := by rw [hst]; exact hv
  have HDE : Hid (consB (delC ⟨3, 1#16, tzS 1#16, st⟩) = false ∧ st.nodes.length ≤ 1000000) := Lib.hid (by rw [hst]; exact tw_del)
  clear hv hst
  have HV := hv2
  obtain ⟨an1, cn1, nas1, ag1, cg1, rfl, _, _, _, _⟩ := hv2
  unfold vCast at HV ⊢
  dsimp only at HV ⊢
  have kb := (Keeps.refl w12).alloc (.cells #[.int .i64 3, .int .u16 (sv 1#16), .int .i64 (tzS 1#16), .slice an1 nas1.length cn1, .slice ag1 st.flight.length cg1] 75)
  have b1 := Blk.new w12 75 #[.int .i64 3, .int .u16 (sv 1#16), .int .i64 (tzS 1#16), .slice an1 nas1.length cn1, .slice ag1 st.flight.length cg1]
  have HVC := Lib.hid (HV.keep kb); have HB1 := Lib.hid b1
  have RT := Lib.hid (RT.out.keep kb)
  have RD := Lib.hid (RD.out.keep kb)
  have HT := Lib.hid (HT.out.keep kb); have HK := Lib.hid (HK.out.trans kb)
  clear HV b1 kb
  go_upto_region 6 with fail
  generalize w12.alloc (.cells #[.int .i64 3, .int .u16 (sv 1#16), .int .i64 (tzS 1#16), .slice an1 nas1.length cn1, .slice ag1 st.flight.length cg1] 75) = w13 at *
  generalize w12.heap.size = PX at *
  have hsm := same_any _ _ _ _ _ _ tw tw w13 RD.out RT.out
  rw [tw_self] at hsm
  have HC := Lib.hid hsm
  clear hsm
  go_wp2_with fail
  refine HC.out.mono ?_
  rintro e w14 ⟨rfl, kk⟩
  have HVC := Lib.hid (HVC.out.keep kk); have HB1 := Lib.hid (HB1.out.keep kk)
  have RT := Lib.hid (RT.out.keep kk)
  have RD := Lib.hid (RD.out.keep kk)
  have HT := Lib.hid (HT.out.keep kk); have HK := Lib.hid (HK.out.trans kk)
  clear HC kk
  have hco := consistentC_any w14 ⟨3, 1#16, tzS 1#16, st⟩ _ HVC.out HDE.out.2
  rw [HDE.out.1] at hco
  have HC := Lib.hid hco
  clear hco
  obtain ⟨x0, x1, x2, x3, x4⟩ := Go.Proofs.YtijknodekomdfaaGreatDoor.c5 HB1.out
  go_wp2_with fail
  refine HC.out.mono ?_
  rintro e w15 ⟨rfl, kk⟩
  have RT := Lib.hid (RT.out.keep kk)
  have RD := Lib.hid (RD.out.keep kk)
  have HT := Lib.hid (HT.out.keep kk); have HK := Lib.hid (HK.out.trans kk)
  clear HC kk x0 x1 x2 x3 x4
  have kl := (Keeps.refl w15).alloc (.cells #[.int .u16 7, .int .u16 11, .int .u16 13, .int .u16 14] 31)
  have rl : Rd (w15.alloc (.cells #[.int .u16 7, .int .u16 11, .int .u16 13, .int .u16 14] 31)) (some ⟨w15.heap.size, 0, none⟩) 4 4 1 (sl th) := rd_new 31 1 w15 _ 4 (by decide) rfl
  have RT := Lib.hid (RT.out.keep kl)
  have RD := Lib.hid (RD.out.keep kl)
  have HT := Lib.hid (HT.out.keep kl); have HK := Lib.hid (HK.out.trans kl)
  have RQ := Lib.hid rl
  clear kl rl
  have kl := (Keeps.refl (w15.alloc (.cells #[.int .u16 7, .int .u16 11, .int .u16 13, .int .u16 14] 31))).alloc (.cells #[.int .u16 7, .int .u16 11, .int .u16 13, .int .u16 14] 31)
  have rl : Rd ((w15.alloc (.cells #[.int .u16 7, .int .u16 11, .int .u16 13, .int .u16 14] 31)).alloc (.cells #[.int .u16 7, .int .u16 11, .int .u16 13, .int .u16 14] 31)) (some ⟨(w15.alloc (.cells #[.int .u16 7, .int .u16 11, .int .u16 13, .int .u16 14] 31)).heap.size, 0, none⟩) 4 4 1 (sl th) := rd_new 31 1 (w15.alloc (.cells #[.int .u16 7, .int .u16 11, .int .u16 13, .int .u16 14] 31)) _ 4 (by decide) rfl
  rw [World.size_alloc] at rl
  have RT := Lib.hid (RT.out.keep kl)
  have RD := Lib.hid (RD.out.keep kl)
  have RQ := Lib.hid (RQ.out.keep kl)
  have HT := Lib.hid (HT.out.keep kl); have HK := Lib.hid (HK.out.trans kl)
  have RQ2 := Lib.hid rl
  clear kl rl
  go_wp2_with fail
  generalize (w15.alloc (.cells #[.int .u16 7, .int .u16 11, .int .u16 13, .int .u16 14] 31)).alloc (.cells #[.int .u16 7, .int .u16 11, .int .u16 13, .int .u16 14] 31) = w17 at *
  have hf := fsafe_any _ _ _ th _ _ _ th w17 RQ.out RQ2.out th_ok th_ok th_meet
  have HC := Lib.hid hf
  clear hf
  refine HC.out.mono ?_
  rintro e w18 ⟨rfl, kk⟩
  have HKF := Lib.hid (HK.out.trans kk)
  clear HC kk
  go_wp2_with fail
  go_ret
  exact ⟨rfl, HKF.out⟩
end Go.Proofs.YtijknodekomdfaaGreatDoor
namespace Go.Proofs.YtijknodekomdfaaGreatDoor
open Go.RowKit Go.Lib Go.Shelf

theorem and_full_same {n : Nat} (hn : n ≤ 8) {x : S} (h : x.toNat < 2 ^ n) : x &&& fullS n = x := by
  apply BitVec.eq_of_getLsbD_eq
  intro i hi
  unfold fullS
  rw [BitVec.getLsbD_and, full_bit ⟨n, by omega⟩ ⟨i, hi⟩]
  cases hb : x.getLsbD i with
  | false => rfl
  | true =>
    rw [Bool.true_and, decide_eq_true_eq]
    exact inN_of h i hb
theorem within_made {n : Nat} (hn : n ≤ 8) {b : List S} (h : ∀ x ∈ b, x.toNat < 2 ^ n) : withinS n b = b := by
  have h1 : b.map (fun x => x &&& fullS n) = b.map id := List.map_congr_left fun x hx => and_full_same hn (h x hx)
  unfold withinS
  rw [h1, List.map_id]
theorem compl_lt {n : Nat} (hn : n ≤ 8) (b : List S) : ∀ x ∈ compl n b, x.toNat < 2 ^ n := fun x hx => by
  unfold compl at hx
  obtain ⟨y, _, rfl⟩ := List.mem_map.1 hx
  unfold fullS
  exact and_not_lt (full_lt ⟨n, by omega⟩)
theorem least_len9 (l : List S) : (leastP l).length ≤ l.length := by
  have h1 : (leastP l).length ≤ (sortS' l).length := by rw [leastP_filter]; exact List.length_filter_le _ _
  have h2 : (sortS' l).length ≤ (msort l).length := compactL_le _
  rw [msort_length] at h2
  omega
theorem canon_made {n : Nat} (hn : n ≤ 8) {b : List S} (hl : b.length ≤ 6) : canonS n b = (leastP (compl n b), 0) := by
  have h1 := least_len9 (compl n b)
  have h2 : (compl n b).length = b.length := List.length_map ..
  unfold canonS
  rw [if_neg (by omega)]
  unfold minimalS
  rw [show ((n : Nat) : Int).toNat = n from rfl, compl_in n (by omega), if_neg (by simp)]
  unfold limS
  rw [if_neg (by omega)]
theorem canon_lt {n : Nat} (hn : n ≤ 8) (b : List S) : ∀ x ∈ leastP (compl n b), x.toNat < 2 ^ n := fun x hx => by
  rw [least_same] at hx
  exact compl_lt hn b x ((refLeast_mem9 _ x).1 hx).1
theorem canon_chk {n : Nat} (hn : n ≤ 8) {b : List S} (h : ∀ x ∈ b, x.toNat < 2 ^ n) (hl : b.length ≤ 6) : chk39 (leastP (compl n b)) b n = 0 := by
  have hv : validS (leastP (compl n b)) = 0 := by
    rw [least_same]
    exact refLeast_valid (fun x hx => small_lt hn (compl_lt hn b x hx)) (by unfold compl; rw [List.length_map]; omega)
  unfold chk39
  rw [if_neg (by rw [hv]; simp), ins_of_lt (canon_lt hn b), ins_of_lt h]
  rfl
theorem canon_dis9 {n : Nat} (hn : n ≤ 8) {b : List S} (h : ∀ x ∈ b, x.toNat < 2 ^ n) (hb : b ≠ []) (hc : ((covRes n b 3).2 == 13) = true) : disOK b (leastP (compl n b)) = true := by
  have h1 := canon_dis (n : Int) b (by omega) (by omega) hb
  rw [show ((n : Nat) : Int).toNat = n from rfl, within_made hn h] at h1
  rw [h1]; exact hc
theorem canon_avl9 {n : Nat} (hn : n ≤ 8) {b : List S} (h : ∀ x ∈ b, x.toNat < 2 ^ n) : availS (leastP (compl n b)) b = true := by
  have h1 := canon_avail n b
  rw [within_made hn h] at h1
  exact h1
theorem shr_zero {x : S} {n : Nat} (h : x.toNat < 2 ^ n) : x >>> n = 0#16 := by
  apply BitVec.eq_of_toNat_eq
  rw [BitVec.toNat_ushiftRight, Nat.shiftRight_eq_div_pow, Nat.div_eq_of_lt h]
  rfl
/-- what a run with canonical quorums is -/
theorem canon_run {n : Nat} (h1 : 1 ≤ n) (hn : n ≤ 8) {b : List S} (h : ∀ x ∈ b, x.toNat < 2 ^ n) (hl : b.length ≤ 6) {byz : S} (hz : byz ∈ b) {source : Nat} (hs : source < n) (hc : ((covRes n b 3).2 == 13) = true) (chs : List Nat) (h200 : chs.length ≤ 200) :
    ∀ f, f = leastP (compl n b) → ∀ st, st = runS f b n byz (lieL n byz source strX strY) (startS n byz source strX 0) chs →
      runE f b n byz source chs.length = 0 ∧ Inv f b n byz source strX st ∧ (measS n st ≤ 200 + chs.length ∧ SmallS st) ∧ setE f b n byz st.nodes st.flight = 0 ∧ consB (delL byz st.nodes) = true ∧
      ∀ su, su = settleS f b n byz st → su.nodes.length = n ∧ consB (delL byz su.nodes) = true ∧ totB byz su.nodes = true ∧ (corr n byz source = true → (delL byz su.nodes).length + cnt byz = n ∧ ∀ v ∈ delL byz su.nodes, v = strX) := by
  rintro f rfl st rfl
  have hb : b ≠ [] := List.ne_nil_of_mem hz
  have hchk := canon_chk hn h hl
  have hT : ∃ t ∈ b, sub9 byz t = true := ⟨byz, hz, by unfold sub9; simp⟩
  have hD := dis_of (canon_dis9 hn h hb hc)
  have hA := avl_of (canon_avl9 hn h)
  have hI := ins_of (canon_lt hn b)
  have hinv : Inv (leastP (compl n b)) b n byz source strX (runS (leastP (compl n b)) b n byz (lieL n byz source strX strY) (startS n byz source strX 0) chs) := run_inv hn hT chs (start_inv hs 0)
  have hra := run_all (f := leastP (compl n b)) (b := b) (byz := byz) (source := source) hn chs
  have hse := inv_setE hinv h1 hn hchk
  have hst := settleS_inv hn hT hinv
  have hrg : RngOk (n : Int) byz (source : Int) := ⟨by omega, by omega, by rw [Int.toNat_natCast]; exact shr_zero (h _ hz), by omega, by omega⟩
  refine ⟨?_, hinv, ⟨hra.2, hra.1.2⟩, hse, inv_cons hD hI hT hinv, ?_⟩
  · rw [runE_ok hrg, Int.toNat_natCast]
    unfold lstErr
    rw [if_neg (by rw [hchk]; simp), if_neg (by omega)]
  · rintro su rfl
    refine ⟨hst.1.len, inv_cons hD hI hT hst.1, inv_tot hn hD hA hI hT hst.1 hst.2, fun hco => ?_⟩
    obtain ⟨e1, e2⟩ := inv_src hn hD hA hI hT hst.1 hst.2 hco
    exact ⟨by rw [e1]; exact (rest_eq hn (h _ hz)).2, e2⟩
end Go.Proofs.YtijknodekomdfaaGreatDoor
