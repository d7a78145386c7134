/- Texts joined into one (wip/bin/pack.py): NrmB, BothP. -/
import Derived.Test.YtcnccoinhohbeaaGreatDoorKYw
import Derived.Test.YtcnccoinhohbeaaGreatDoorKYx
import Derived.Lib.QuietBelow
/- fault.normal, fault.Normalize. -/
namespace Go.Proofs.YtcnccoinhohbeaaGreatDoor
open Go.RowKit Go.Lib Go.Shelf Go.Sort

theorem msortF_mem (l : List F2) (x : F2) : x ∈ msortF l ↔ x ∈ l := List.mem_mergeSort
theorem msortF_len (l : List F2) : (msortF l).length = l.length := by rw [msortF, List.length_mergeSort]
theorem msortF_sorted (l : List F2) : (msortF l).Pairwise LeF := by
  have h := List.pairwise_mergeSort (le := fun x y => !ltB y x) (fun a b c h1 h2 => by
    simp only [Bool.not_eq_true'] at *
    rw [ltB_false] at *
    intro h3
    rcases ltF_total b c with g | g | g
    · exact h1 (ltF_trans g h3)
    · subst g; exact h1 h3
    · exact h2 g) (fun a b => by
    simp only [Bool.or_eq_true, Bool.not_eq_true']
    rw [ltB_false, ltB_false]
    rcases ltF_total a b with g | g | g
    · exact .inl fun k => ltF_irrefl _ (ltF_trans g k)
    · subst g; exact .inl (ltF_irrefl _)
    · exact .inr fun k => ltF_irrefl _ (ltF_trans g k)) l
  refine h.imp fun {a b} hab => ?_
  simp only [Bool.not_eq_true'] at hab
  exact (ltB_false _ _).1 hab
/-- what fault.normal keeps of any faults -/
theorem nrm_dd (l : List F2) : nrmP (ddF (msortF l)) = normF l :=
  nrmP_eq (ddF_asc _ (msortF_sorted l)) fun x => by rw [ddF_mem, msortF_mem]
def nrmTo (s : List F2) (k : Nat) : List F2 := (s.take k).filter fun a => !s.any (othF a)
theorem nrmTo_step (s : List F2) (k : Nat) (h : k < s.length) : nrmTo s (k + 1) = nrmTo s k ++ (if !s.any (othF (fa s k)) then [fa s k] else []) := by
  unfold nrmTo
  rw [take_fa s k h, List.filter_append]
  congr 1
  cases hq : s.any (othF (fa s k)) <;> simp [hq]
theorem nrmTo_le (s : List F2) (k : Nat) : (nrmTo s k).length ≤ k := Nat.le_trans (List.length_filter_le _ _) (by rw [List.length_take]; omega)
/-- the models' error: too many faults -/
def limE (l : List F2) : Int := if 100 < l.length then 3 else 0
def limL (l : List F2) : List F2 := if 100 < l.length then [] else l
set_option maxRecDepth 20000 in
set_option maxHeartbeats 1600000 in
theorem normal2_any (a : Option Addr) (c : Nat) (l : List F2) (w : World) (h : Rd w a l.length c 2 (fl l)) (hb : l.length ≤ 1000000) :
    Calls Tryz.prog 54 #[.slice a l.length c] w fun e w' => ∃ v, e = .returned (.tuple #[v, .int .i64 (limE (normF l))]) ∧ Own 84 2 w w' v (limL (normF l)).length (fl (limL (normF l))) := by
  have hcl := cloneF_any a c l w h hb
  have hso := fun w1 v (hO : Own 84 2 w w1 v l.length (fl l)) => sortF_any w w1 v l.length l hO hb
  have hco := fun w1 v (hO : Own 84 2 w w1 v l.length (fl (msortF l))) => compactF_any w w1 v l.length (msortF l) hO hb
  have hnd := nrm_dd l
  have hsl := Nat.le_trans (ddF_le (msortF l)) (Nat.le_of_eq (msortF_len l))
  generalize ddF (msortF l) = s at *
  rw [← hnd]
  have hfull : nrmTo s s.length = nrmP s := by unfold nrmTo; rw [List.take_length]; rfl
  rw [← hfull]
  generalize hres : nrmTo s s.length = r
  have HRES := Lib.hid hres
  have HCL := Lib.hid hcl; have HSO := Lib.hid hso; have HCO := Lib.hid hco; have HSL := Lib.hid hsl
  clear hcl hso hco hnd hfull h hres
  generalize l.length = n at *
  clear hsl
  go_enter Tryz.func54, Tryz.ntmps54
  go_wp2_with fail
  refine HCL.out.mono ?_
  rintro e w1 ⟨v1, rfl, hO1⟩
  go_wp2_with fail
  refine (HSO.out _ _ hO1).mono ?_
  rintro e w2 ⟨rfl, hO2⟩
  go_wp2_with fail
  refine (HCO.out _ _ hO2).mono ?_
  rintro e w3 ⟨v3, rfl, hO3⟩
  clear hO1 hO2
  obtain ⟨a3, c3, rfl, hR3⟩ := hO3.rd
  have s3 := hR3.small
  have HR := Lib.hid hR3; have HK := Lib.hid hO3.2
  clear hR3 hO3
  go_wp2_with fail
  go_loopw [4, 15] (fun u v wr => ∃ k : Nat, k ≤ s.length ∧ v = .int .i64 k ∧ Own 84 2 w3 wr u (nrmTo s k).length (fl (nrmTo s k))) (fun _ v _ => s.length - (RowKit.intOf v).toNat)
  case atStart => exact ⟨0, Nat.zero_le _, rfl, Own.nil _ _ (Keeps.refl _)⟩
  case round =>
    obtain ⟨k, hk, rfl, hO⟩ := hrel
    by_cases hlt : k < s.length
    · have g0 := (HR.out.keep hO.2).f0 hlt
      have g1 := (HR.out.keep hO.2).f1' hlt
      have hs := HR.out.isSome (by omega)
      have hst := nrmTo_step s k hlt
      have hle : (nrmTo s k).length + 1 ≤ 10000000 := by have := nrmTo_le s k; have := HSL.out; omega
      generalize fa s k = x at *
      generalize nrmTo s k = acc at *
      have K1 := (Keeps.refl wr).alloc (.cells #[.int .u16 (sv x.1), .int .u16 (sv x.2)] 84)
      obtain ⟨d0, d1⟩ := newF x wr 84
      have hcon := containsFuncF_any a3 s.length c3 s _ 78 #[.pointer (some ⟨wr.heap.size, 0, none⟩)] (othF x) ((HR.out.keep hO.2).keep K1) (enters_of Tryz.func78 (by kernel_rfl) rfl) (nrmPred x wr.heap.size s _ d0 d1)
      have hlt' : (k : Int) < (s.length : Int) := by omega
      have HC := Lib.hid hcon; have HO := Lib.hid hO; have HST := Lib.hid hst; have HLE := Lib.hid hle; have HK1 := Lib.hid K1; have HD := Lib.hid (And.intro d0 d1)
      clear hcon hst hle d0 d1
      obtain ⟨ao, co, rfl, _⟩ := hO.rd
      clear hO K1
      cases hq : s.any (othF x)
      · rw [hq] at HC HST
        clear hq
        simp only [Bool.not_false, if_true] at HST
        go_wp2_with fail
        refine HC.out.mono ?_
        rintro e w4 ⟨rfl, K2⟩
        obtain ⟨d0, d1⟩ := HD.out
        have d0' := K2.cell d0
        have d1' := K2.cell d1
        clear d0 d1
        go_wp2_with (at_builtin; refine wp_app tyF rfl _ _ rfl ((HO.out.keep (HK1.out.trans K2)).alloc _) rfl rfl (rd_new _ 2 _ [.int .u16 (sv x.1), .int .u16 (sv x.2)] 1 (by decide) rfl) (fl_oneCell [x]) HLE.out ?_)
        intro v' w5 hO5 _
        clear d0' d1' K2
        have HO5 := Lib.hid hO5
        clear hO5
        go_wp2_with fail
        go_roundw
        case rel => exact ⟨k + 1, by omega, by go_num, by rw [HST.out, fl_append, List.length_append]; exact HO5.out⟩
        case measure => simp [RowKit.intOf]; omega
      · rw [hq] at HC HST
        clear hq
        simp only [Bool.not_true, Bool.false_eq_true, if_false, List.append_nil] at HST
        go_wp2_with fail
        refine HC.out.mono ?_
        rintro e w4 ⟨rfl, K2⟩
        go_wp2_with fail
        go_roundw
        case rel => exact ⟨k + 1, by omega, by go_num, by rw [HST.out]; exact HO.out.keep (HK1.out.trans K2)⟩
        case measure => simp [RowKit.intOf]; omega
    · have hkk : k = s.length := by omega
      subst hkk
      rw [HRES.out] at hO
      have hO9 := hO.since HK.out
      obtain ⟨ar, cr, rfl, hRr⟩ := hO.rd
      have sr := hRr.small
      have hnl : ¬ ((s.length : Int) < (s.length : Int)) := by omega
      have HO9 := Lib.hid hO9
      clear hO hO9 hRr hlt
      by_cases hbig : 100 < r.length
      · have hb1 : (100 : Int) < (r.length : Int) := by omega
        have e1 : limE r = 3 := if_pos hbig
        have e2 : limL r = [] := if_pos hbig
        have HE := Lib.hid (And.intro e1 e2)
        clear e1 e2 hbig
        go_wp2_with fail
        go_ret2
        rw [HE.out.1, HE.out.2]
        exact ⟨_, rfl, Own.nil _ _ HO9.out.2⟩
      · have hb1 : ¬ (100 : Int) < (r.length : Int) := by omega
        have e1 : limE r = 0 := if_neg hbig
        have e2 : limL r = r := if_neg hbig
        have HE := Lib.hid (And.intro e1 e2)
        clear e1 e2 hbig
        go_wp2_with fail
        go_ret2
        rw [HE.out.1, HE.out.2]
        exact ⟨_, rfl, HO9.out⟩
end Go.Proofs.YtcnccoinhohbeaaGreatDoor
/- fault.Both, given what fault.normal does. -/
namespace Go.Proofs.YtcnccoinhohbeaaGreatDoor
open Go.RowKit Go.Lib Go.Shelf

theorem cB2 {w : World} {B : Nat} {T : TypeId} {v0 v1 : Value} (h : Blk w B T #[v0, v1]) : w.cell? ⟨B, 0, none⟩ = some v0 ∧ w.cell? ⟨B, 1, none⟩ = some v1 := ⟨h.cell 0 rfl, h.cell 1 rfl⟩
theorem bothL_snoc (F G : List F2) (i : Nat) (h : i < F.length) : bothL (F.take (i + 1)) G = bothL (F.take i) G ++ G.map (bothF (fa F i)) := by
  unfold bothL; rw [take_fa F i h, List.flatMap_append]; simp
def NilAt (u : Value) (n : Nat) : Prop := n = 0 → u = .slice none 0 0
set_option maxRecDepth 20000 in
set_option maxHeartbeats 6000000 in
theorem both_any (a : Option Addr) (c : Nat) (F : List F2) (a2 : Option Addr) (c2 : Nat) (G : List F2) (w : World) (h : Rd w a F.length c 2 (fl F)) (h2 : Rd w a2 G.length c2 2 (fl G)) (hF : fvS F = 0) (hG : fvS G = 0) (hsm : F.length * G.length ≤ 1000000) :
    Calls Tryz.prog 24 #[.slice a F.length c, .slice a2 G.length c2] w fun e w' => ∃ v, e = .returned (.tuple #[v, .int .i64 (limE (normF (bothL F G)))]) ∧ Own 84 2 w w' v (limL (normF (bothL F G))).length (fl (limL (normF (bothL F G)))) := by
  have h1 := two_any a F.length c F a2 G.length c2 G w h h2
  rw [if_neg (by simp [hF]), hG] at h1
  have s1 := h.small; have s2 := h2.small
  have hlen : ∀ i k, i < F.length → k ≤ G.length → ((bothL (F.take i) G) ++ (G.take k).map (bothF (fa F i))).length + 1 ≤ 3000000 := fun i k hi hk => by
    rw [List.length_append, bothL_len, List.length_map, List.length_take, List.length_take]
    have : min i F.length * G.length ≤ F.length * G.length := Nat.mul_le_mul_right _ (Nat.min_le_right ..)
    have hg : G.length ≤ F.length * G.length := Nat.le_mul_of_pos_left _ (by omega)
    have hA := Nat.le_trans this hsm
    have hB : min k G.length ≤ 1000000 := Nat.le_trans (Nat.min_le_right ..) (Nat.le_trans hg hsm)
    generalize min i F.length * G.length = A at *
    generalize min k G.length = B at *
    omega
  have hbl := bothL_len F G
  have hns := fun a c w hr => normal2_any a c (bothL F G) w hr (by rw [hbl]; exact hsm)
  generalize limE (normF (bothL F G)) = rz at *
  generalize (limL (normF (bothL F G))) = rl at *
  have HN' := Lib.hid hns; have H1 := Lib.hid h1; have HR := Lib.hid h; have HR2 := Lib.hid h2; have HLE := Lib.hid hlen; have HBL := Lib.hid hbl
  clear h1 h h2 hF hG hlen hbl hns
  go_enter Tryz.func24, Tryz.ntmps24
  go_wp2_with fail
  refine H1.out.mono ?_
  rintro e w1 ⟨rfl, K1⟩
  go_wp2_with fail
  go_loopw [7, 21] (fun u v wr => ∃ i : Nat, i ≤ F.length ∧ v = .int .i64 i ∧ Own 84 2 w1 wr u (bothL (F.take i) G).length (fl (bothL (F.take i) G)) ∧ Hid (NilAt u (bothL (F.take i) G).length)) (fun _ v _ => F.length - (RowKit.intOf v).toNat)
  case atStart => exact ⟨0, Nat.zero_le _, rfl, Own.nil _ _ (Keeps.refl _), fun _ => rfl⟩
  case round =>
    obtain ⟨i, hi, rfl, hO, HNA⟩ := hrel
    have hfx := own_fresh hO
    obtain ⟨ao, co, rfl, hRo⟩ := hO.rd
    have HFX := Lib.hid hfx
    clear hfx
    by_cases hlt : i < F.length
    · have KW := hO.2
      have g0 := (HR.out.keep (K1.trans KW)).f0 hlt
      have g1 := (HR.out.keep (K1.trans KW)).f1' hlt
      have hs := HR.out.isSome (by omega)
      have hsn := bothL_snoc F G i hlt
      have hle := HLE.out i
      generalize fa F i = x at *
      have KX := (Keeps.refl wr).alloc (.cells #[.int .u16 (sv x.1), .int .u16 (sv x.2)] 84)
      have bx := Blk.new wr 84 #[.int .u16 (sv x.1), .int .u16 (sv x.2)]
      have HB := Lib.hid bx; have HO := Lib.hid (hO.keep KX); have HSN := Lib.hid hsn; have HLE2 := Lib.hid (fun k hk => hle k hlt hk)
      have hlt' : (i : Int) < (F.length : Int) := by omega
      clear hO hRo bx hsn hle
      obtain ⟨BX, hBX⟩ : ∃ B, B = wr.heap.size := ⟨_, rfl⟩
      obtain ⟨V, hV⟩ : ∃ V, V = wr.alloc (.cells #[.int .u16 (sv x.1), .int .u16 (sv x.2)] 84) := ⟨_, rfl⟩
      rw [← hV, ← hBX] at HB
      rw [← hBX] at HFX
      rw [← hV] at HO KX
      go_wp2_with fail
      rw [← hV, ← hBX]
      clear hV hBX
      clear g0 g1
      go_loopw [7, 27] (fun u v wr2 => ∃ k : Nat, k ≤ G.length ∧ v = .int .i64 k ∧ Own 84 2 w1 wr2 u (bothL (F.take i) G ++ (G.take k).map (bothF x)).length (fl (bothL (F.take i) G ++ (G.take k).map (bothF x))) ∧ Keeps w1 wr2 ∧ Blk wr2 BX 84 #[.int .u16 (sv x.1), .int .u16 (sv x.2)] ∧ Hid (NilAt u (bothL (F.take i) G ++ (G.take k).map (bothF x)).length) ∧ Hid (some BX ≠ u.ownBlock)) (fun _ v _ => G.length - (RowKit.intOf v).toNat)
      case atStart => exact ⟨0, Nat.zero_le _, rfl, by rw [List.take_zero, List.map_nil, List.append_nil]; exact HO.out, HO.out.2, HB.out, by rw [List.take_zero, List.map_nil, List.append_nil]; exact HNA, HFX⟩
      case round =>
        obtain ⟨k, hk, rfl, hO2, K2, hB2, HNA2, HNX⟩ := hrel
        by_cases hltk : k < G.length
        · have HLEN := Lib.hid (HLE2.out k (by omega))
          obtain ⟨acc, hacc⟩ : ∃ A, A = bothL (F.take i) G ++ (G.take k).map (bothF x) := ⟨_, rfl⟩
          rw [← hacc] at hO2 HLEN HNA2
          have HAC := Lib.hid hacc
          clear hacc
          have hfy := own_fresh hO2
          obtain ⟨ap, cp, rfl, _⟩ := hO2.rd
          have HFY := Lib.hid hfy
          clear hfy
          have y0 := (HR2.out.keep (K1.trans K2)).f0 hltk
          have y1 := (HR2.out.keep (K1.trans K2)).f1' hltk
          have hs2 := HR2.out.isSome (by omega)
          have hltk' : (k : Int) < (G.length : Int) := by omega
          have hst : (G.take (k + 1)).map (bothF x) = (G.take k).map (bothF x) ++ [bothF x (fa G k)] := by rw [take_fa G k hltk, List.map_append]; rfl
          generalize fa G k = y at *
          have KY := (Keeps.refl wr).alloc (.cells #[.int .u16 (sv y.1), .int .u16 (sv y.2)] 84)
          have by_ := Blk.new wr 84 #[.int .u16 (sv y.1), .int .u16 (sv y.2)]
          have hx4 := hB2.keep KY
          obtain ⟨p0, p1⟩ := cB2 hx4
          obtain ⟨p2, p3⟩ := cB2 hB2
          have hnb : BX ≠ wr.heap.size := by have := hB2.lt; omega
          obtain ⟨q0, q1⟩ := cB2 by_
          have HBX := Lib.hid hx4; have HBY := Lib.hid by_; have HO := Lib.hid (hO2.keep KY); have HST := Lib.hid hst
          clear hO2 hst hx4 by_ hB2
          go_wp2_with fail
          clear y0 y1 p0 p1 p2 p3 q0 q1
          obtain ⟨V4, hV4⟩ : ∃ V, V = wr.alloc (.cells #[.int .u16 (sv y.1), .int .u16 (sv y.2)] 84) := ⟨_, rfl⟩
          rw [← hV4] at HBX HBY HO KY ⊢
          clear hV4
          have J := (Keeps.refl V4).drew
          have HFA := Lib.hid (fun (W : World) (k : Keeps V4 W) => And.intro (cB2 (HBX.out.keep k)) (cB2 (HBY.out.keep k)))
          refine wp_region_held_drew (S := (fun w' => (w'.cell? ⟨BX, 0, none⟩ = some (.int .u16 (sv x.1)) ∧ w'.cell? ⟨BX, 1, none⟩ = some (.int .u16 (sv x.2))) ∧ (w'.cell? ⟨wr.heap.size, 0, none⟩ = some (.int .u16 (sv y.1)) ∧ w'.cell? ⟨wr.heap.size, 1, none⟩ = some (.int .u16 (sv y.2))))) (by kernel_rfl) ?_ (fun hHeld => ?_)
          · exact HFA.out _ J
          refine wpAnyH_take (i := 0) (oi := ⟨_, _, _, _, _, _⟩) (v := ?_) rfl (by kernel_rfl) (by kernel_rfl) (by kernel_rfl) (fun _ _ _ h => h) (Or.inl ⟨by rfl, ?_⟩) (by assumption) ?_
          rotate_left 1
          · intro w hSw; (try dsimp only at hSw); go_simp <;> with_reducible rfl
          (try simp only [Act.put]); (try simp only [List.setIfInBounds_toArray]); (try simp only [List.set_cons_succ]); (try simp only [List.set_cons_zero])
          refine wpAnyH_take (i := 1) (oi := ⟨_, _, _, _, _, _⟩) (v := ?_) rfl (by kernel_rfl) (by kernel_rfl) (by kernel_rfl) (fun _ _ _ h => h) (Or.inl ⟨by rfl, ?_⟩) (by assumption) ?_
          rotate_left 1
          · intro w hSw; (try dsimp only at hSw); go_simp <;> with_reducible rfl
          (try simp only [Act.put]); (try simp only [List.setIfInBounds_toArray]); (try simp only [List.set_cons_succ]); (try simp only [List.set_cons_zero])
          refine wpAnyH_take (i := 2) (oi := ⟨_, _, _, _, _, _⟩) (v := ?_) rfl (by kernel_rfl) (by kernel_rfl) (by kernel_rfl) (fun _ _ _ h => h) (Or.inl ⟨by rfl, ?_⟩) (by assumption) ?_
          rotate_left 1
          · intro w hSw; (try dsimp only at hSw); go_simp <;> with_reducible rfl
          (try simp only [Act.put]); (try simp only [List.setIfInBounds_toArray]); (try simp only [List.set_cons_succ]); (try simp only [List.set_cons_zero])
          refine wpAnyH_take (i := 4) (oi := ⟨_, _, _, _, _, _⟩) (v := ?_) rfl (by kernel_rfl) (by kernel_rfl) (by kernel_rfl) (fun _ _ _ h => h) (Or.inl ⟨by rfl, ?_⟩) (by assumption) ?_
          rotate_left 1
          · intro w hSw; (try dsimp only at hSw); go_simp <;> with_reducible rfl
          (try simp only [Act.put]); (try simp only [List.setIfInBounds_toArray]); (try simp only [List.set_cons_succ]); (try simp only [List.set_cons_zero])
          refine wpAnyH_take (i := 7) (oi := ⟨_, _, _, _, _, _⟩) (v := ?_) rfl (by kernel_rfl) (by kernel_rfl) (by kernel_rfl) (fun _ _ _ h => h) (Or.inl ⟨by rfl, ?_⟩) (by assumption) ?_
          rotate_left 1
          · intro w hSw; (try dsimp only at hSw); go_simp <;> with_reducible rfl
          (try simp only [Act.put]); (try simp only [List.setIfInBounds_toArray]); (try simp only [List.set_cons_succ]); (try simp only [List.set_cons_zero])
          refine wpAnyH_ready (rs := [3]) (by kernel_rfl) (by simp) ?_
          refine AllReadyH.cons (o := ⟨_, _, _, _, _, _⟩) rfl (fun K hK => ?_) AllReadyH.nil
          go_simp
          refine (faulty_any _ _).mono ?_; rintro e W7 ⟨rfl, K7⟩; replace J := Keeps.trans J K7
          try go_wp2_with fail
          refine hK.out _ _ ?_ (fun hHeld => ?_)
          · exact HFA.out _ J
          clear hK K
          (try simp only [Act.put]); (try simp only [List.setIfInBounds_toArray]); (try simp only [List.set_cons_succ]); (try simp only [List.set_cons_zero])
          refine wpAnyH_ready (rs := [5]) (by kernel_rfl) (by simp) ?_
          refine AllReadyH.cons (o := ⟨_, _, _, _, _, _⟩) rfl (fun K hK => ?_) AllReadyH.nil
          go_simp
          refine (faulty_any _ _).mono ?_; rintro e W7 ⟨rfl, K7⟩; replace J := Keeps.trans J K7
          try go_wp2_with fail
          refine hK.out _ _ ?_ (fun hHeld => ?_)
          · exact HFA.out _ J
          clear hK K
          (try simp only [Act.put]); (try simp only [List.setIfInBounds_toArray]); (try simp only [List.set_cons_succ]); (try simp only [List.set_cons_zero])
          refine wpAnyH_take (i := 6) (oi := ⟨_, _, _, _, _, _⟩) (v := ?_) rfl (by kernel_rfl) (by kernel_rfl) (by kernel_rfl) (fun _ _ _ h => h) (Or.inl ⟨by rfl, ?_⟩) (by assumption) ?_
          rotate_left 1
          · intro w hSw; (try dsimp only at hSw); go_simp <;> with_reducible rfl
          (try simp only [Act.put]); (try simp only [List.setIfInBounds_toArray]); (try simp only [List.set_cons_succ]); (try simp only [List.set_cons_zero])
          refine wpAnyH_take (i := 8) (oi := ⟨_, _, _, _, _, _⟩) (v := ?_) rfl (by kernel_rfl) (by kernel_rfl) (by kernel_rfl) (fun _ _ _ h => h) (Or.inl ⟨by rfl, ?_⟩) (by assumption) ?_
          rotate_left 1
          · intro w hSw; (try dsimp only at hSw); go_simp <;> with_reducible rfl
          (try simp only [Act.put]); (try simp only [List.setIfInBounds_toArray]); (try simp only [List.set_cons_succ]); (try simp only [List.set_cons_zero])
          refine wpAnyH_take (i := 9) (oi := ⟨_, _, _, _, _, _⟩) (v := ?_) rfl (by kernel_rfl) (by kernel_rfl) (by kernel_rfl) (fun _ _ _ h => h) (Or.inl ⟨by rfl, ?_⟩) (by assumption) ?_
          rotate_left 1
          · intro w hSw; (try dsimp only at hSw); go_simp <;> with_reducible rfl
          (try simp only [Act.put]); (try simp only [List.setIfInBounds_toArray]); (try simp only [List.set_cons_succ]); (try simp only [List.set_cons_zero])
          refine wpAnyH_ready (rs := [10]) (by kernel_rfl) (by simp) ?_
          refine AllReadyH.cons (o := ⟨_, _, _, _, _, _⟩) rfl (fun K hK => ?_) AllReadyH.nil
          go_simp
          refine hK.out _ _ ?_ (fun hHeld => ?_)
          · first | exact HFA.out _ (J.alloc _) | exact HFA.out _ ((J.alloc _).drew)
          clear hK K
          (try simp only [Act.put]); (try simp only [List.setIfInBounds_toArray]); (try simp only [List.set_cons_succ]); (try simp only [List.set_cons_zero])
          refine wpAnyH_ready (rs := [11]) (by kernel_rfl) (by simp) ?_
          refine AllReadyH.cons (o := ⟨_, _, _, _, _, _⟩) rfl (fun K hK => ?_) AllReadyH.nil
          refine step_app_ne tyF (by rfl) _ _ (by rfl) ((HO.out.keep J).alloc _) HNA2.out (by rfl) (by rfl) (rd_new 84 2 _ [.int .u16 (sv (bothF x y).1), .int .u16 (sv (bothF x y).2)] 1 (by decide) rfl) (fl_oneCell [bothF x y]) (by decide) (by have := HLEN.out; omega) ?_
          intro v' w9 hO3 hgr hne
          have b9 := blk_grown ((HBX.out.keep J).keep ((Keeps.refl _).alloc _)) hgr HNX.out
          have n9 := hne BX _ ((HBX.out.keep J).keep ((Keeps.refl _).alloc _)) rfl HNX.out
          have b9y := blk_grown ((HBY.out.keep J).keep ((Keeps.refl _).alloc _)) hgr HFY.out
          have HB9 := Lib.hid b9; have HN9 := Lib.hid n9; have HB9Y := Lib.hid b9y; have HO3 := Lib.hid hO3
          clear b9 n9 b9y hO3 hne
          refine hK.out _ _ ?_ (fun hHeld => ?_)
          · exact ⟨cB2 HB9.out, cB2 HB9Y.out⟩
          clear hK K
          (try simp only [Act.put]); (try simp only [List.setIfInBounds_toArray]); (try simp only [List.set_cons_succ]); (try simp only [List.set_cons_zero])
          refine wpAnyH_take (i := 12) (oi := ⟨_, _, _, _, _, _⟩) (v := ?_) rfl (by kernel_rfl) (by kernel_rfl) (by kernel_rfl) (fun _ _ _ h => h) (Or.inl ⟨by rfl, ?_⟩) (by assumption) ?_
          rotate_left 1
          · intro w hSw; (try dsimp only at hSw); go_simp <;> with_reducible rfl
          (try simp only [Act.put]); (try simp only [List.setIfInBounds_toArray]); (try simp only [List.set_cons_succ]); (try simp only [List.set_cons_zero])
          refine wpAnyH_done (by kernel_rfl) ?_ _
          go_wp2_with fail
          go_roundw
          case rel =>
            refine ⟨k + 1, by omega, by go_num, ?_, HO3.out.2, HB9.out, Lib.hid (fun he => ?_), HN9⟩
            · rw [HST.out, ← List.append_assoc, ← HAC.out, fl_append, List.length_append]; exact HO3.out
            · rw [HST.out, ← List.append_assoc, List.length_append] at he; simp at he
          case measure => simp [RowKit.intOf]; omega
        · have hkk : k = G.length := by omega
          subst hkk
          rw [List.take_length, ← HSN.out] at hO2 HNA2
          obtain ⟨ap, cp, rfl, _⟩ := hO2.rd
          have HO2 := Lib.hid hO2
          clear hO2
          go_wp2_with fail
          go_roundw
          case rel => exact ⟨i + 1, by omega, by go_num, HO2.out, HNA2⟩
          case measure => simp [RowKit.intOf]; omega
    · have hii : i = F.length := by omega
      subst hii
      rw [List.take_length] at hO hRo
      have hcall := HN'.out ao co _ hRo
      have HC := Lib.hid hcall
      have KW := hO.2
      clear hcall hO hRo
      go_wp2_with fail
      refine HC.out.mono ?_
      rintro e w4 ⟨v4, rfl, hO4⟩
      obtain ⟨a4, c4, rfl, _⟩ := hO4.rd
      have HO4 := Lib.hid hO4
      clear hO4
      go_wp2_with fail
      go_ret2
      exact ⟨_, rfl, HO4.out.since (K1.trans KW)⟩
end Go.Proofs.YtcnccoinhohbeaaGreatDoor
