/- Texts joined into one (wip/bin/pack.py): NrmB. -/
import Derived.Test.YtijknodekomdfaaGreatDoorKYw
import Derived.Test.YtijknodekomdfaaGreatDoorKYx
/- fault.normal, fault.Normalize. -/
namespace Go.Proofs.YtijknodekomdfaaGreatDoor
open Go.RowKit Go.Lib Go.Shelf Go.Sort

theorem msortF_mem (l : List F2) (x : F2) : x ∈ msortF l ↔ x ∈ l := List.mem_mergeSort
theorem msortF_len (l : List F2) : (msortF l).length = l.length := by rw [msortF, List.length_mergeSort]
theorem msortF_sorted (l : List F2) : (msortF l).Pairwise LeF := by
  have h := List.pairwise_mergeSort (le := fun x y => !ltB y x) (fun a b c h1 h2 => by
    simp only [Bool.not_eq_true'] at *
    rw [ltB_false] at *
    intro h3
    rcases ltF_total b c with g | g | g
    · exact h1 (ltF_trans g h3)
    · subst g; exact h1 h3
    · exact h2 g) (fun a b => by
    simp only [Bool.or_eq_true, Bool.not_eq_true']
    rw [ltB_false, ltB_false]
    rcases ltF_total a b with g | g | g
    · exact .inl fun k => ltF_irrefl _ (ltF_trans g k)
    · subst g; exact .inl (ltF_irrefl _)
    · exact .inr fun k => ltF_irrefl _ (ltF_trans g k)) l
  refine h.imp fun {a b} hab => ?_
  simp only [Bool.not_eq_true'] at hab
  exact (ltB_false _ _).1 hab
/-- what fault.normal keeps of any faults -/
theorem nrm_dd (l : List F2) : nrmP (ddF (msortF l)) = normF l :=
  nrmP_eq (ddF_asc _ (msortF_sorted l)) fun x => by rw [ddF_mem, msortF_mem]
def nrmTo (s : List F2) (k : Nat) : List F2 := (s.take k).filter fun a => !s.any (othF a)
theorem nrmTo_step (s : List F2) (k : Nat) (h : k < s.length) : nrmTo s (k + 1) = nrmTo s k ++ (if !s.any (othF (fa s k)) then [fa s k] else []) := by
  unfold nrmTo
  rw [take_fa s k h, List.filter_append]
  congr 1
  cases hq : s.any (othF (fa s k)) <;> simp [hq]
theorem nrmTo_le (s : List F2) (k : Nat) : (nrmTo s k).length ≤ k := Nat.le_trans (List.length_filter_le _ _) (by rw [List.length_take]; omega)
/-- the models' error: too many faults -/
def limE (l : List F2) : Int := if 100 < l.length then 3 else 0
def limL (l : List F2) : List F2 := if 100 < l.length then [] else l
set_option maxRecDepth 20000 in
set_option maxHeartbeats 1600000 in
theorem normal2_any (a : Option Addr) (c : Nat) (l : List F2) (w : World) (h : Rd w a l.length c 2 (fl l)) (hb : l.length ≤ 1000000) :
    Calls Tryz.prog 187 #[.slice a l.length c] w fun e w' => ∃ v, e = .returned (.tuple #[v, .int .i64 (limE (normF l))]) ∧ Own 34 2 w w' v (limL (normF l)).length (fl (limL (normF l))) := by
  have hcl := cloneF_any a c l w h hb
  have hso := fun w1 v (hO : Own 34 2 w w1 v l.length (fl l)) => sortF_any w w1 v l.length l hO hb
  have hco := fun w1 v (hO : Own 34 2 w w1 v l.length (fl (msortF l))) => compactF_any w w1 v l.length (msortF l) hO hb
  have hnd := nrm_dd l
  have hsl := Nat.le_trans (ddF_le (msortF l)) (Nat.le_of_eq (msortF_len l))
  generalize ddF (msortF l) = s at *
  rw [← hnd]
  have hfull : nrmTo s s.length = nrmP s := by unfold nrmTo; rw [List.take_length]; rfl
  rw [← hfull]
  generalize hres : nrmTo s s.length = r
  have HRES := Lib.hid hres
  have HCL := Lib.hid hcl; have HSO := Lib.hid hso; have HCO := Lib.hid hco; have HSL := Lib.hid hsl
  clear hcl hso hco hnd hfull h hres
  generalize l.length = n at *
  clear hsl
  go_enter Tryz.func187, Tryz.ntmps187
  go_wp2_with fail
  refine HCL.out.mono ?_
  rintro e w1 ⟨v1, rfl, hO1⟩
  go_wp2_with fail
  refine (HSO.out _ _ hO1).mono ?_
  rintro e w2 ⟨rfl, hO2⟩
  go_wp2_with fail
  refine (HCO.out _ _ hO2).mono ?_
  rintro e w3 ⟨v3, rfl, hO3⟩
  clear hO1 hO2
  obtain ⟨a3, c3, rfl, hR3⟩ := hO3.rd
  have s3 := hR3.small
  have HR := Lib.hid hR3; have HK := Lib.hid hO3.2
  clear hR3 hO3
  go_wp2_with fail
  go_loopw [4, 15] (fun u v wr => ∃ k : Nat, k ≤ s.length ∧ v = .int .i64 k ∧ Own 34 2 w3 wr u (nrmTo s k).length (fl (nrmTo s k))) (fun _ v _ => s.length - (RowKit.intOf v).toNat)
  case atStart => exact ⟨0, Nat.zero_le _, rfl, Own.nil _ _ (Keeps.refl _)⟩
  case round =>
    obtain ⟨k, hk, rfl, hO⟩ := hrel
    by_cases hlt : k < s.length
    · have g0 := (HR.out.keep hO.2).f0 hlt
      have g1 := (HR.out.keep hO.2).f1' hlt
      have hs := HR.out.isSome (by omega)
      have hst := nrmTo_step s k hlt
      have hle : (nrmTo s k).length + 1 ≤ 10000000 := by have := nrmTo_le s k; have := HSL.out; omega
      generalize fa s k = x at *
      generalize nrmTo s k = acc at *
      have K1 := (Keeps.refl wr).alloc (.cells #[.int .u16 (sv x.1), .int .u16 (sv x.2)] 34)
      obtain ⟨d0, d1⟩ := newF x wr 34
      have hcon := containsFuncF_any a3 s.length c3 s _ 215 #[.pointer (some ⟨wr.heap.size, 0, none⟩)] (othF x) ((HR.out.keep hO.2).keep K1) (enters_of Tryz.func215 (by kernel_rfl) rfl) (nrmPred x wr.heap.size s _ d0 d1)
      have hlt' : (k : Int) < (s.length : Int) := by omega
      have HC := Lib.hid hcon; have HO := Lib.hid hO; have HST := Lib.hid hst; have HLE := Lib.hid hle; have HK1 := Lib.hid K1; have HD := Lib.hid (And.intro d0 d1)
      clear hcon hst hle d0 d1
      obtain ⟨ao, co, rfl, _⟩ := hO.rd
      clear hO K1
      cases hq : s.any (othF x)
      · rw [hq] at HC HST
        clear hq
        simp only [Bool.not_false, if_true] at HST
        go_wp2_with fail
        refine HC.out.mono ?_
        rintro e w4 ⟨rfl, K2⟩
        obtain ⟨d0, d1⟩ := HD.out
        have d0' := K2.cell d0
        have d1' := K2.cell d1
        clear d0 d1
        go_wp2_with (at_builtin; refine wp_app tyF rfl _ _ rfl ((HO.out.keep (HK1.out.trans K2)).alloc _) rfl rfl (rd_new _ 2 _ [.int .u16 (sv x.1), .int .u16 (sv x.2)] 1 (by decide) rfl) (fl_oneCell [x]) HLE.out ?_)
        intro v' w5 hO5 _
        clear d0' d1' K2
        have HO5 := Lib.hid hO5
        clear hO5
        go_wp2_with fail
        go_roundw
        case rel => exact ⟨k + 1, by omega, by go_num, by rw [HST.out, fl_append, List.length_append]; exact HO5.out⟩
        case measure => simp [RowKit.intOf]; omega
      · rw [hq] at HC HST
        clear hq
        simp only [Bool.not_true, Bool.false_eq_true, if_false, List.append_nil] at HST
        go_wp2_with fail
        refine HC.out.mono ?_
        rintro e w4 ⟨rfl, K2⟩
        go_wp2_with fail
        go_roundw
        case rel => exact ⟨k + 1, by omega, by go_num, by rw [HST.out]; exact HO.out.keep (HK1.out.trans K2)⟩
        case measure => simp [RowKit.intOf]; omega
    · have hkk : k = s.length := by omega
      subst hkk
      rw [HRES.out] at hO
      have hO9 := hO.since HK.out
      obtain ⟨ar, cr, rfl, hRr⟩ := hO.rd
      have sr := hRr.small
      have hnl : ¬ ((s.length : Int) < (s.length : Int)) := by omega
      have HO9 := Lib.hid hO9
      clear hO hO9 hRr hlt
      by_cases hbig : 100 < r.length
      · have hb1 : (100 : Int) < (r.length : Int) := by omega
        have e1 : limE r = 3 := if_pos hbig
        have e2 : limL r = [] := if_pos hbig
        have HE := Lib.hid (And.intro e1 e2)
        clear e1 e2 hbig
        go_wp2_with fail
        go_ret2
        rw [HE.out.1, HE.out.2]
        exact ⟨_, rfl, Own.nil _ _ HO9.out.2⟩
      · have hb1 : ¬ (100 : Int) < (r.length : Int) := by omega
        have e1 : limE r = 0 := if_neg hbig
        have e2 : limL r = r := if_neg hbig
        have HE := Lib.hid (And.intro e1 e2)
        clear e1 e2 hbig
        go_wp2_with fail
        go_ret2
        rw [HE.out.1, HE.out.2]
        exact ⟨_, rfl, HO9.out⟩
end Go.Proofs.YtijknodekomdfaaGreatDoor
