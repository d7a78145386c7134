/- The reference's Extend; what both return. -/
import Derived.Test.YteaehcaokcbehaaDoorExt
namespace Go.Proofs.YteaehcaokcbehaaDoor
open Go.RowKit Go.Lib Go.Shelf

theorem find_idx {p : S → Bool} {t : S} : ∀ {l : List S}, l.find? p = some t → ∃ j, j < l.length ∧ at_ l j = t ∧ p t = true ∧ ∀ i, i < j → p (at_ l i) = false
  | [], h => by simp at h
  | x :: xs, h => by
    rw [List.find?_cons] at h
    cases hx : p x with
    | true =>
      rw [hx] at h
      have e : x = t := by simpa using h
      subst e
      exact ⟨0, by simp, by simp [at_], hx, fun i hi => absurd hi (Nat.not_lt_zero _)⟩
    | false =>
      rw [hx] at h
      obtain ⟨j, h1, h2, h3, h4⟩ := find_idx (l := xs) (by simpa using h)
      refine ⟨j + 1, by simpa using h1, by simpa [at_] using h2, h3, fun i hi => ?_⟩
      cases i with
      | zero => simpa [at_] using hx
      | succ i => simpa [at_] using h4 i (by omega)

/-- an empty slice literal: before the first append -/
theorem emptyA (w : World) : Own 24 1 w ((w.alloc (.cells #[] 24)).drew) (.slice (some ⟨w.heap.size, 0, none⟩) 0 0) 0 [] :=
  (Own.made (e := 24) (sz := 1) (Keeps.refl w) [] 0 (by decide) rfl).keep ((Keeps.refl _).drew)
theorem emptyB (w : World) (o : Obj) : Own 24 1 w (((w.alloc (.cells #[] 24)).alloc o).drew) (.slice (some ⟨w.heap.size, 0, none⟩) 0 0) 0 [] :=
  ((Own.made (e := 24) (sz := 1) (Keeps.refl w) [] 0 (by decide) rfl).alloc o).keep ((Keeps.refl _).drew)
theorem emptyC (w : World) (o : Obj) : Own 24 1 w (((w.alloc o).alloc (.cells #[] 24)).drew) (.slice (some ⟨w.heap.size + 1, 0, none⟩) 0 0) 0 [] := by
  have := Own.made (e := 24) (sz := 1) ((Keeps.refl w).alloc o) [] 0 (by decide) rfl
  rw [World.size_alloc] at this
  exact this.keep ((Keeps.refl _).drew)
theorem oneB (w w5 : World) (o : Obj) (x : S) (hg : (((w.alloc o).alloc (.cells #[.int .u16 (sv x)] 24)).drew).grownBy w5 (some w.heap.size)) : Rd w5 (some ⟨w.heap.size + 1, 0, none⟩) 1 1 1 [.int .u16 (sv x)] := by
  have := Own.made (e := 24) (sz := 1) ((Keeps.refl w).alloc o) [.int .u16 (sv x)] 1 (by decide) rfl
  rw [World.size_alloc] at this
  obtain ⟨a, c, h1, h2⟩ := own_rd ((this.keep ((Keeps.refl _).drew)).1.kept hg (.inr (by simp [Value.ownBlock])))
  cases h1
  exact h2
theorem oneC (w w5 : World) (o : Obj) (x : S) (hg : (((w.alloc (.cells #[.int .u16 (sv x)] 24)).alloc o).drew).grownBy w5 (some (w.heap.size + 1))) : Rd w5 (some ⟨w.heap.size, 0, none⟩) 1 1 1 [.int .u16 (sv x)] := by
  have := Own.made (e := 24) (sz := 1) (Keeps.refl w) [.int .u16 (sv x)] 1 (by decide) rfl
  obtain ⟨a, c, h1, h2⟩ := own_rd (((this.alloc o).keep ((Keeps.refl _).drew)).1.kept hg (.inr (by simp [Value.ownBlock])))
  cases h1
  exact h2

theorem extSnoc {w w' : World} {v : Value} {f : List S} {t : S} (h : Own 24 1 w w' v (0 + f.length + 1) ([] ++ sl f ++ [.int .u16 (sv t)])) : Own 24 1 w w' v (f ++ [t]).length (sl (f ++ [t])) := by
  rw [sl_append, List.length_append, show sl [t] = [.int .u16 (sv t)] from rfl]; simpa using h

set_option maxRecDepth 100000 in
set_option maxHeartbeats 2000000 in
theorem rExtend_ok (a : Option Addr) (n c : Nat) (l : List S) (w : World) (h : Rd w a n c 1 (sl l)) (hg : Good l) :
    Calls Tryd.prog 27 #[.slice a n c] w fun e w' => RetS w (extS l, 0) e w' := by
  have hst : ∀ W f a2 n2 c2, Good f → Rd W a2 n2 c2 1 (sl f) → Calls Tryd.prog 48 #[.slice a2 n2 c2] W fun e w' => ∃ v, e = .returned (.tuple #[v, .int .i64 0]) ∧ Own 24 1 W w' v (D f).length (sl (D f)) := fun W f a2 n2 c2 g r => by
    have := starred_any a2 n2 c2 f W r
    rw [starErr_eq, cotErr_cot g.cot, if_neg (by simp), g.dual] at this
    exact this
  have hm : ∀ W W0 v f t, Good f → t ∈ D f → t ∉ f → Own 24 1 W0 W v (f ++ [t]).length (sl (f ++ [t])) → Calls Tryd.prog 38 #[v] W fun e w' => ∃ v', e = .returned v' ∧ Own 24 1 W w' v' (leastP (f ++ [t])).length (sl (leastP (f ++ [t]))) := fun W W0 v f t g ht hn hO => by
    obtain ⟨a2, c2, rfl, hR⟩ := hO.rd
    have := rMinimal_any a2 _ c2 (f ++ [t]) W hR
    rw [rminS_eq (f := f ++ [t]) (fun x hx => by
      rcases List.mem_append.1 hx with hx | hx
      · exact g.low.small x hx
      · rw [List.mem_singleton.1 hx]; exact (low_D g.low).small t ht)] at this
    exact this
  have LN := Lib.hid h.lenS
  have HS := Lib.hid hst; have HM := Lib.hid hm; have HG := Lib.hid hg; have H := Lib.hid h
  clear hst hm hg h
  go_enter Tryd.func27, Tryd.ntmps27
  go_wp2_with fail
  go_loopg [0] 65 (fun g s0 wr => ∃ f af cf, Hid (Good f) ∧ Hid (mu f < g) ∧ Hid (extS l = extR (g - 1) f) ∧ s0 = .slice af f.length cf ∧ Rd wr af f.length cf 1 (sl f) ∧ Keeps w wr)
  case atStart =>
    have e : n = l.length := LN.out.symm
    refine ⟨l, a, c, HG, ?_, rfl, by rw [e], ?_, Keeps.refl _⟩
    · have := mu_le l; show _ < _; omega
    · have := H.out; rw [e] at this; exact this
  case round =>
    obtain ⟨f, af, cf, hgf, hmu, hex, rfl, hRf, hk0⟩ := hrel
    have hdu := HS.out wr f af _ cf hgf.out hRf
    have HDU := Lib.hid hdu; clear hdu
    have hl2 := low_len hgf.out.low hgf.out.cot.fam.asc
    go_wp2_with fail
    refine HDU.out.mono ?_
    rintro e w3 ⟨v3, rfl, hO3⟩
    obtain ⟨a3, c3, rfl, hR3⟩ := hO3.rd
    have hRf3 := hRf.keep hO3.2
    have hk3 := hk0.trans hO3.2
    have hsa := rSame_any a3 _ c3 (D f) af _ cf f w3 hR3 hRf3
    rw [eqS_iff] at hsa
    by_cases hdf : D f = f
    · rw [decide_eq_true hdf] at hsa
      have HSA := Lib.hid hsa
      have HV : Hid (extS l = f) := by show _ = _; rw [hex.out]; exact extR_none (self_none hdf) _
      clear hsa hdf
      go_wp2_with fail
      refine HSA.out.mono ?_
      rintro e w4 ⟨rfl, K4⟩
      have hRf4 := hRf3.keep K4
      have hk4 := hk3.trans K4
      have hmade := Own.made (e := 24) (sz := 1) hk4 [] 0 (by decide) rfl
      have HMD := Lib.hid hmade; clear hmade
      go_wp2_with (at_builtin; refine wp_app tyS rfl _ _ rfl HMD.out rfl rfl (hRf4.keep ((Keeps.refl _).alloc _)) (sl_oneCell f) (by omega) ?_)
      intro v' w5 hO5 _
      have hO6 : Own 24 1 w w5 v' f.length (sl f) := by simpa using hO5
      clear hO5
      go_wp2_with fail
      go_ret2
      exact ⟨_, rfl, by rw [HV.out]; exact hO6⟩
    · rw [decide_eq_false hdf] at hsa
      obtain ⟨t, ht⟩ := hgf.out.next hdf
      obtain ⟨j, hj, e1, e2, e3⟩ := find_idx (p := fun t => !f.contains t) ht
      obtain ⟨m1, m2⟩ := nxtE_some ht
      have hstp := hgf.out.step m1 m2
      have HV : Hid (extS l = extR (gk - 1 - 1) (leastP (f ++ [t]))) := by
        show _ = _
        obtain ⟨g', hg'⟩ : ∃ g', gk - 1 = g' + 1 := ⟨gk - 2, by have h1 : mu f < gk := hmu; have h2 := hstp.2; omega⟩
        rw [hex.out, hg', extR, ht]
        rfl
      have HSA := Lib.hid hsa
      have HST := Lib.hid hstp
      have HMM := Lib.hid fun W W0 v hO => HM.out W W0 v f t hgf.out m1 m2 hO
      have HE1 := Lib.hid e1
      have hhas : ∀ W i, i ≤ j → Rd W af f.length cf 1 (sl f) → Calls Tryd.prog 53 #[.slice af f.length cf, .int .u16 (sv (at_ (D f) i))] W fun e w' => e = .returned (.bool (decide (i < j))) ∧ W = w' := fun W i hi hr => by
        have := has_any af _ cf f (at_ (D f) i) W hr
        rcases Nat.lt_or_ge i j with h1 | h1
        · have h2 := e3 i h1
          have h3 : f.contains (at_ (D f) i) = true := by simpa using h2
          rw [h3] at this; rw [decide_eq_true h1]; exact this
        · obtain rfl : i = j := by omega
          have h3 : f.contains (at_ (D f) i) = false := by rw [e1]; simpa using e2
          rw [h3] at this; rw [decide_eq_false (by omega)]; exact this
      have HH := Lib.hid hhas
      clear hsa hdf ht e1 e2 e3 m1 m2 hstp hhas
      go_wp2_with fail
      refine HSA.out.mono ?_
      rintro e w4 ⟨rfl, K4⟩
      have hRf4 := hRf3.keep K4
      have hR4 := hR3.keep K4
      have hk4 := hk3.trans K4
      have sD := hR4.small
      have ha3 := hR4.isSome (by omega)
      go_wp2_with fail
      go_loopw [6] (fun v wx => ∃ k : Nat, k ≤ j ∧ v = .int .i64 k ∧ w4 = wx) (fun v _ => j - (intOf v).toNat)
      case atStart => exact ⟨0, Nat.zero_le _, rfl, rfl⟩
      case round =>
        obtain ⟨k, hk, rfl, rfl⟩ := hrel
        have hck := hR4.at (show k < (D f).length by omega)
        have hkk := HH.out w4 k hk hRf4
        by_cases hkj : k < j
        · rw [decide_eq_true hkj] at hkk
          have HKK := Lib.hid hkk; clear hkk
          go_wp2_with (go_at_call 53; refine HKK.out.mono ?_; rintro e w5 ⟨rfl, rfl⟩)
          go_roundw
          case rel => exact ⟨k + 1, by omega, by go_num, trivial⟩
          case measure => simp [intOf]; omega
        · rw [decide_eq_false hkj] at hkk
          obtain rfl : k = j := by omega
          rw [HE1.out] at hck hkk
          have HKK := Lib.hid hkk; clear hkk
          go_wp2_with (go_at_call 53; refine HKK.out.mono ?_; rintro e w5 ⟨rfl, rfl⟩)
          have hra := fun o : Obj => (hRf4.keep (((Keeps.refl w4).alloc o).drew))
          have hrb := fun o o' : Obj => (hRf4.keep ((((Keeps.refl w4).alloc o).alloc o').drew))
          have HRA := Lib.hid hra; have HRB := Lib.hid hrb
          have HCK := Lib.hid fun W (K : Keeps w4 W) => K.cell hck
          clear hra hrb
          go_region_held3 (fun w' => w'.cell? (adr a3 k) = some (.int .u16 (sv t))) (first | go_keep | exact hF | exact HCK.out _ (((Keeps.refl _).alloc _).drew) | exact HCK.out _ ((((Keeps.refl _).alloc _).alloc _).drew) | exact HCK.out _ (hO5.2.alloc _)) ((first | (go_at_call 38; refine (HMM.out _ _ _ (by assumption)).mono ?_; rintro e w7 ⟨v7, rfl, hO7⟩; have hF := HCK.out _ (hO6.2.trans hO7.2)) | (refine step_app tyS (by rfl) _ _ (by rfl) (emptyA w4) (by rfl) (by rfl) (HRA.out _) (sl_oneCell f) (by omega) ?_; intro v' w5 hO5 hgr; have hF := HCK.out _ hO5.2) | (refine step_app tyS (by rfl) _ _ (by rfl) (emptyB w4 _) (by rfl) (by rfl) (HRB.out _ _) (sl_oneCell f) (by omega) ?_; intro v' w5 hO5 hgr; have hF := HCK.out _ hO5.2; have hX := oneB w4 _ _ t hgr) | (refine step_app tyS (by rfl) _ _ (by rfl) (emptyC w4 _) (by rfl) (by rfl) (HRB.out _ _) (sl_oneCell f) (by omega) ?_; intro v' w5 hO5 hgr; have hF := HCK.out _ hO5.2; have hX := oneC w4 _ _ t hgr) | (refine step_app tyS (by rfl) _ _ (by rfl) (hO5.alloc _) (by rfl) (by rfl) (rd_new _ 1 _ [.int .u16 (sv t)] 1 (by decide) rfl) (sl_oneCell [t]) (by omega) ?_; intro v' w6 hO6' hgr; have hO6 := extSnoc hO6'; have hF := HCK.out _ hO6.2) | (refine step_app tyS (by rfl) _ _ (by rfl) hO5 (by rfl) (by rfl) hX (sl_oneCell [t]) (by omega) ?_; intro v' w6 hO6' hgr; have hO6 := extSnoc hO6'; have hF := HCK.out _ hO6.2)))
          all_goals
            obtain ⟨a7, c7, rfl, hR7⟩ := hO7.rd
            have K7 := (hk4.trans hO6.2).trans hO7.2
            clear hF
            go_wp2_with fail
            go_roundg (gk - 1)
            case measure => have h1 : mu f < gk := hmu; omega
            case rel => exact ⟨leastP (f ++ [t]), a7, c7, HST.out.1, by have h1 : mu f < gk := hmu; have h2 := HST.out.2; show _ < _; omega, HV, rfl, hR7, K7⟩

/-! ### what both return, at any list whose extension is asked for -/
theorem extend_any (a : Option Addr) (n c : Nat) (l : List S) (w : World) (hT : Tab w) (h : Rd w a n c 1 (sl l)) (hn : n ≤ 1000000) (hlow : cotErr l = 0 → (dualErr l).2 = 0 → Low6 l) :
    Calls Tryd.prog 26 #[.slice a n c] w fun e w' => RetS w (extErr l) e w' := by
  by_cases h1 : cotErr l = 0
  · by_cases h2 : (dualErr l).2 = 0
    · have := extend_ok a n c l w hT h hn ⟨cot_of_err h1, hlow h1 h2⟩
      unfold extErr; rw [if_neg (by simp [h1]), if_neg (by simp [h2])]; exact this
    · unfold extErr; rw [if_neg (by simp [h1]), if_pos h2]
      have hc := fun W (k : Keeps w W) => coterieErr_any a n c l W (h.keep k) hn
      rw [h1] at hc
      have hcl := fun W (k : Keeps w W) => cloneS_any a n c (sl l) W (h.keep k) (sl_oneCell _) hn
      have hd : ∀ W a2 n2 c2, Keeps w W → Rd W a2 n2 c2 1 (sl l) → Calls Tryd.prog 13 #[.slice a2 n2 c2] W fun e w' => ∃ v, e = .returned (.tuple #[v, .int .i64 (dualErr l).2]) ∧ Own 24 1 W w' v (dualErr l).1.length (sl (dualErr l).1) := fun W a2 n2 c2 k r =>
        dual_any a2 n2 c2 l W (hT.keep k) r (fun hv => valid_small hv)
      generalize (dualErr l).2 = er at *
      generalize (dualErr l).1 = d at *
      have hb2 : (er != 0) = true := by simpa using h2
      have HC := Lib.hid hc; have HCL := Lib.hid hcl; have HD := Lib.hid hd
      clear hc hcl hd h hT h1 hlow h2
      go_enter Tryd.func26, Tryd.ntmps26
      go_wp2_with fail
      have k0 := (Keeps.refl w).alloc (.cells #[.slice a n c] 25)
      refine (HC.out _ k0).mono ?_
      rintro e w1 ⟨rfl, K1⟩
      have hb := boxedKeep (Boxed.new w 25 (.slice a n c)) K1
      have k1 := k0.trans K1
      have hcell := hb.cell
      go_wp2_with fail
      refine (HCL.out _ k1).mono ?_
      rintro e w2 ⟨v2, rfl, ho, K2⟩
      have hbx := boxedKeep hb K2
      have k2 := k1.trans K2
      obtain ⟨q1, q2, q3⟩ := box_store (v' := v2) hbx (Nat.le_refl _) k2 (ownWeak ho k1.size)
      have hcell2 := hbx.cell; have hfr2 := hbx.frozen
      obtain ⟨a2, c2, rfl, hR2⟩ := own_rd q3
      obtain ⟨a2', c2', he, -⟩ := own_rd ho
      cases he
      have HQ := Lib.hid q2; have HR := Lib.hid hR2
      clear q2 q1 q3 hR2 ho
      go_wp2_with fail
      refine wp_loop_rounds 1 ?_
      rw [rounds_succ]
      go_wp2_with fail
      refine (HD.out _ _ _ _ HQ.out HR.out).mono ?_
      rintro e w3 ⟨v3, rfl, hO3⟩
      obtain ⟨a3, c3, rfl, hR3⟩ := hO3.rd
      go_wp2_with fail
      go_ret2
      exact ⟨_, rfl, Own.nil _ _ (HQ.out.trans hO3.2)⟩
  · unfold extErr; rw [if_pos h1]
    have hc := fun W (k : Keeps w W) => coterieErr_any a n c l W (h.keep k) hn
    generalize cotErr l = er at *
    have hb2 : (er != 0) = true := by simpa using h1
    have HC := Lib.hid hc
    clear hc h hT h1 hlow
    go_enter Tryd.func26, Tryd.ntmps26
    go_wp2_with fail
    have k0 := (Keeps.refl w).alloc (.cells #[.slice a n c] 25)
    refine (HC.out _ k0).mono ?_
    rintro e w1 ⟨rfl, K1⟩
    have hb := boxedKeep (Boxed.new w 25 (.slice a n c)) K1
    have hcell := hb.cell
    go_wp2_with fail
    go_ret2
    exact ⟨_, rfl, Own.nil _ _ (k0.trans K1)⟩

theorem rExtend_any (a : Option Addr) (n c : Nat) (l : List S) (w : World) (h : Rd w a n c 1 (sl l)) (hlow : cotErr l = 0 → (dualErr l).2 = 0 → Low6 l) :
    Calls Tryd.prog 27 #[.slice a n c] w fun e w' => RetS w (extErr l) e w' := by
  by_cases hg : cotErr l = 0 ∧ (dualErr l).2 = 0
  · have := rExtend_ok a n c l w h ⟨cot_of_err hg.1, hlow hg.1 hg.2⟩
    unfold extErr; rw [if_neg (by simp [hg.1]), if_neg (by simp [hg.2])]; exact this
  · have e1 : extErr l = ([], (starErr l).2) := by
      unfold extErr; rw [starErr_eq]
      by_cases h1 : cotErr l = 0
      · have h2 : (dualErr l).2 ≠ 0 := fun h2 => hg ⟨h1, h2⟩
        have h3 : ¬ cotErr l ≠ 0 := fun e => e h1
        rw [if_neg h3, if_neg h3, if_pos h2]
      · rw [if_pos h1, if_pos h1]
    have e2 : (starErr l).2 ≠ 0 := by
      rw [starErr_eq]
      by_cases h1 : cotErr l = 0
      · rw [if_neg (by simp [h1])]; exact fun h2 => hg ⟨h1, h2⟩
      · rw [if_pos h1]; exact h1
    rw [e1]
    have hst := starred_any a n c l w h
    unfold RetS at hst
    generalize (starErr l).2 = er at *
    generalize (starErr l).1 = d at *
    have hb2 : (er != 0) = true := by simpa using e2
    have HS := Lib.hid hst
    clear hst h e1 e2 hg hlow
    go_enter Tryd.func27, Tryd.ntmps27
    go_wp2_with fail
    refine wp_loop_rounds 1 ?_
    rw [rounds_succ]
    go_wp2_with fail
    refine HS.out.mono ?_
    rintro e w3 ⟨v3, rfl, hO3⟩
    obtain ⟨a3, c3, rfl, hR3⟩ := hO3.rd
    go_wp2_with fail
    go_ret2
    exact ⟨_, rfl, Own.nil _ _ hO3.2⟩
end Go.Proofs.YteaehcaokcbehaaDoor
