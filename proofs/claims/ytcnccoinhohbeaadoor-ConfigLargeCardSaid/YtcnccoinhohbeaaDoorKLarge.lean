/- Texts joined into one (wip/bin/pack.py): Large. -/
import Derived.Test.YtcnccoinhohbeaaDoorKYg
import Derived.Test.YtcnccoinhohbeaaDoorKTa
import Derived.Test.YtcnccoinhohbeaaDoorKYf
import Derived.Lib.QuietBelow
import Derived.Deep.RegionHeld3
/- The statement ConfigLarge. -/
namespace Go.Proofs.YtcnccoinhohbeaaDoor
open Go.RowKit Go.Lib Go.Shelf
/-- the sets below N that hold the half of n servers -/
def hL (n : Nat) : Nat → List S
  | 0 => []
  | N + 1 => hL n N ++ (if cntTo (BitVec.ofNat 16 N) n = n / 2 then [BitVec.ofNat 16 N] else [])
def hF (n : Nat) : List F2 := (chooseL (fullS n) 1).map fun x => (x, 0#16)
abbrev zG6 : Array Value := #[.string ⟨#[]⟩, .int .i64 0, .int .u16 0, .slice none 0 0, .slice none 0 0, .slice none 0 0]
theorem hL_le (n N : Nat) : (hL n N).length ≤ N := by
  induction N with
  | zero => exact Nat.le_refl _
  | succ N ih =>
    unfold hL
    rw [List.length_append]
    split
    · have : ([BitVec.ofNat 16 N] : List S).length = 1 := rfl
      omega
    · have : ([] : List S).length = 0 := rfl
      omega
set_option maxRecDepth 100000 in
theorem lLen : (hL 6 64).length = 20 ∧ (hL 7 128).length = 35 ∧ (hL 8 256).length = 70 ∧ (hL 9 512).length = 126 ∧ (hL 10 1024).length = 252 := by decide +kernel
theorem fLen : (chooseL (fullS 6) 1).length = 6 ∧ (chooseL (fullS 7) 1).length = 7 ∧ (chooseL (fullS 8) 1).length = 8 ∧ (chooseL (fullS 9) 1).length = 9 ∧ (chooseL (fullS 10) 1).length = 10 := by decide +kernel
set_option maxRecDepth 100000 in
theorem pOne : ((proS 2 0#16 (fullS 6) (hL 6 64) ((hL 6 64).take 1) (hF 6)).2 = 12 ∧ (proS 2 0#16 (fullS 6) (hL 6 64) ((hL 6 64).take 1) (hF 6)).1.length = 0) ∧ ((proS 2 0#16 (fullS 7) (hL 7 128) ((hL 7 128).take 1) (hF 7)).2 = 12 ∧ (proS 2 0#16 (fullS 7) (hL 7 128) ((hL 7 128).take 1) (hF 7)).1.length = 0) ∧ ((proS 2 0#16 (fullS 8) (hL 8 256) ((hL 8 256).take 1) (hF 8)).2 = 12 ∧ (proS 2 0#16 (fullS 8) (hL 8 256) ((hL 8 256).take 1) (hF 8)).1.length = 0) ∧ ((proS 2 0#16 (fullS 9) (hL 9 512) ((hL 9 512).take 1) (hF 9)).2 = 12 ∧ (proS 2 0#16 (fullS 9) (hL 9 512) ((hL 9 512).take 1) (hF 9)).1.length = 0) ∧ ((proS 2 0#16 (fullS 10) (hL 10 1024) ((hL 10 1024).take 1) (hF 10)).2 = 12 ∧ (proS 2 0#16 (fullS 10) (hL 10 1024) ((hL 10 1024).take 1) (hF 10)).1.length = 0) := by decide +kernel
set_option maxRecDepth 100000 in
theorem pAll : (proS 2 0#16 (fullS 6) (hL 6 64) (hL 6 64) (hF 6)).2 = 12 ∧ (proS 2 0#16 (fullS 7) (hL 7 128) (hL 7 128) (hF 7)).2 = 12 ∧ (proS 2 0#16 (fullS 8) (hL 8 256) (hL 8 256) (hF 8)).2 = 3 ∧ (proS 2 0#16 (fullS 9) (hL 9 512) (hL 9 512) (hF 9)).2 = 3 ∧ (proS 2 0#16 (fullS 10) (hL 10 1024) (hL 10 1024) (hF 10)).2 = 3 := by decide +kernel
/-- what is known of a number of servers -/
structure Lrg (n N L : Nat) (z : Int) : Prop where
  n12 : n ≤ 12
  n6 : 6 ≤ n
  N10 : N ≤ 1024
  sh : sv (1#16 <<< n) = (N : Int)
  len : (hL n N).length = L
  L0 : 1 ≤ L
  flen : (chooseL (fullS n) 1).length = n
  p1 : (proS 2 0#16 (fullS n) (hL n N) ((hL n N).take 1) (hF n)).2 = 12 ∧ (proS 2 0#16 (fullS n) (hL n N) ((hL n N).take 1) (hF n)).1.length = 0
  p2 : (proS 2 0#16 (fullS n) (hL n N) (hL n N) (hF n)).2 = z
theorem lrg : Lrg 6 64 20 12 ∧ Lrg 7 128 35 12 ∧ Lrg 8 256 70 3 ∧ Lrg 9 512 126 3 ∧ Lrg 10 1024 252 3 := by
  obtain ⟨a1, a2, a3, a4, a5⟩ := lLen
  obtain ⟨b1, b2, b3, b4, b5⟩ := fLen
  obtain ⟨c1, c2, c3, c4, c5⟩ := pOne
  obtain ⟨d1, d2, d3, d4, d5⟩ := pAll
  exact ⟨⟨by decide, by decide, by decide, by decide, a1, by decide, b1, c1, d1⟩, ⟨by decide, by decide, by decide, by decide, a2, by decide, b2, c2, d2⟩, ⟨by decide, by decide, by decide, by decide, a3, by decide, b3, c3, d3⟩, ⟨by decide, by decide, by decide, by decide, a4, by decide, b4, c4, d4⟩, ⟨by decide, by decide, by decide, by decide, a5, by decide, b5, c5, d5⟩⟩
theorem row0_take1 {e : TypeId} {w : World} {a : Option Addr} {n c : Nat} {xs : List Value} (h : Row0 e 1 w (.slice a n c) n xs) (hn : 1 ≤ n) : Row0 e 1 w (.slice a 1 c) 1 (xs.take 1) := by
  obtain ⟨h1, h2⟩ := h
  rcases h2 with ⟨h2, h3⟩ | ⟨g, cap, cur, hv, hb, hg, hc, hm, hs, ht⟩
  · omega
  · cases hv
    refine ⟨by rw [List.length_take, h1]; omega, Or.inr ⟨g, c, cur, rfl, hb, hg, by omega, hm, hs, ?_⟩⟩
    rw [← ht, List.take_take]
    congr 1
    omega
set_option maxHeartbeats 1000000 in
theorem half_any (s : S) (n : Nat) (hn : n ≤ 12) (w : World) : Calls Tryd.prog 20 #[.int .u16 (sv s), .int .i64 n] w fun e w' => e = .returned (.bool (decide (cntTo s n = n / 2))) ∧ w = w' := by
  go_enter Tryd.func20, Tryd.ntmps20
  go_wp2
  go_loopw [5, 8] (fun u v wr => ∃ i : Nat, i ≤ n ∧ v = .int .i64 i ∧ u = .int .i64 (cntTo s i) ∧ w = wr) (fun _ v _ => n - (RowKit.intOf v).toNat)
  case atStart => exact ⟨0, Nat.zero_le _, rfl, rfl, rfl⟩
  case round =>
    obtain ⟨i, hi, rfl, rfl, rfl⟩ := hrel
    have hle := cntTo_le s i
    by_cases hlt : i < n
    · have hx : sv ((s >>> i) &&& 1#16) = (((s.toNat >>> i) % 2 : Nat) : Int) := by
        unfold sv
        rw [BitVec.toNat_and, BitVec.toNat_ushiftRight]
        show ((_ &&& 1 : Nat) : Int) = _
        rw [Nat.and_one_is_mod]
      have hy : (s.toNat >>> i) % 2 < 2 := by omega
      go_wp2
      go_roundw
      case rel => exact ⟨i + 1, by omega, by go_num, by rw [cntTo]; simp, trivial⟩
      case measure => simp [RowKit.intOf]; omega
    · have e : i = n := by omega
      subst e
      have hh : ((cntTo s i : Int) == (i : Int) / 2) = decide (cntTo s i = i / 2) := by
        rw [Bool.eq_iff_iff]
        simp
        omega
      go_wp2
      go_ret
      exact ⟨by rw [← hh]; rfl, rfl⟩
set_option maxRecDepth 20000 in
set_option maxHeartbeats 4000000 in
theorem large_core (x : Int) (n N L : Nat) (z : Int) (hx : x % 5 = (n : Int) - 6) (hx0 : 0 ≤ x) (h : Lrg n N L z) (HL4 : L ≤ 4096) (hc : (n = 6 ∧ L = 20 ∧ z = 12) ∨ (n = 7 ∧ L = 35 ∧ z = 12) ∨ (n = 8 ∧ L = 70 ∧ z = 3) ∨ (n = 9 ∧ L = 126 ∧ z = 3) ∨ (n = 10 ∧ L = 252 ∧ z = 3)) (w : World) (hT : Tab w) :
    Calls Tryd.prog 5 #[.int .u8 x] w fun e w' => e = .returned (.bool true) ∧ Keeps w w' := by
  have H := Lib.hid h; have HC5 := Lib.hid hc; clear hc
  go_enter Tryd.func5, Tryd.ntmps5
  go_wp2_with fail
  refine (awake27_any _ hT).mono ?_
  rintro e W1 ⟨rfl, K1⟩
  replace hT := hT.keep K1
  go_wp2_with fail
  have e1 : 6 + ((n : Int) - 6) = (n : Int) := by omega
  have e2 : 6 + (n - 6) = n := by have := H.out.n6; omega
  simp only [e1, e2]
  rw [H.out.sh]
  clear e1 e2 hx hx0 h
  have hN := H.out.N10
  go_loopw [4, 22] (fun u v wr => ∃ i : Nat, i ≤ N ∧ v = .int .u16 i ∧ Own 28 1 W1 wr u (hL n i).length (sl (hL n i))) (fun _ v _ => N - (RowKit.intOf v).toNat)
  case atStart => exact ⟨0, Nat.zero_le _, rfl, Own.nil _ _ (Keeps.refl _)⟩
  case round =>
    obtain ⟨i, hi, rfl, hO⟩ := hrel
    obtain ⟨ao, co, rfl, _⟩ := hO.rd
    have KO := hO.2
    have HO := Lib.hid hO
    by_cases hlt : i < N
    · have hsi : sv (BitVec.ofNat 16 i) = (i : Int) := by
        unfold sv
        rw [BitVec.toNat_ofNat, Nat.mod_eq_of_lt (by omega)]
      have hcall := half_any (BitVec.ofNat 16 i) n H.out.n12 wr
      rw [hsi] at hcall
      have hle := hL_le n i
      have hlt' : (i : Int) < (N : Int) := by omega
      by_cases hq : cntTo (BitVec.ofNat 16 i) n = n / 2
      · have hst : hL n (i + 1) = hL n i ++ [BitVec.ofNat 16 i] := by rw [hL, if_pos hq]
        rw [decide_eq_true hq] at hcall
        generalize hL n i = cur at *
        have HC := Lib.hid hcall; have HST := Lib.hid hst; have HLE := Lib.hid hle; have HSI := Lib.hid hsi
        clear hcall hst hle hO hsi hq
        go_wp2_with (first | (at_builtin; refine wp_app tyS rfl _ _ rfl (HO.out.alloc _) rfl rfl (rd_new 28 1 _ [.int .u16 i] 1 (by decide) rfl) (by rw [← HSI.out]; exact sl_oneCell [BitVec.ofNat 16 i]) (by have := HLE.out; omega) ?_) | (go_at_call 20; refine HC.out.mono ?_; rintro e w2 ⟨rfl, rfl⟩))
        intro v4 w4 hO4 _
        have HO4 := Lib.hid hO4
        clear hO4
        go_wp2_with fail
        go_roundw
        case rel => exact ⟨i + 1, by omega, by go_num, by rw [HST.out]; have := HO4.out; rw [← HSI.out] at this; exact this.snoc⟩
        case measure => simp [RowKit.intOf]; omega
      · have hst : hL n (i + 1) = hL n i := by rw [hL, if_neg hq, List.append_nil]
        rw [decide_eq_false hq] at hcall
        generalize hL n i = cur at *
        have HC := Lib.hid hcall; have HST := Lib.hid hst
        clear hcall hst hle hO hsi hq
        go_wp2_with (go_at_call 20; refine HC.out.mono ?_; rintro e w2 ⟨rfl, rfl⟩)
        go_roundw
        case rel => exact ⟨i + 1, by omega, by go_num, by rw [HST.out]; exact HO.out⟩
        case measure => simp [RowKit.intOf]; omega
    · have e : i = N := by omega
      subst e
      have hR := hO.row0
      clear HO hO
      generalize hgl : hL n i = R at *
      have K2 := K1.trans KO
      replace hT := hT.keep KO
      go_wp2_with fail
      have h1 := H.out.p1
      have h2 := H.out.p2
      have hlen := H.out.len
      have hL0 := H.out.L0
      rw [hgl] at h1 h2 hlen
      have H1 := Lib.hid h1; have H2 := Lib.hid h2; have HLEN := Lib.hid hlen
      clear h1 h2 hgl K1 KO
      have hfl : (chooseL (fullS n) 1).length = (hF n).length := (List.length_map ..).symm
      refine (threshold_any n 1 H.out.n12 (by have := H.out.n6; omega) (by rw [H.out.flen]; have := H.out.n12; omega) _ hT).mono ?_
      rintro e W3 ⟨v, rfl, hO⟩
      rw [hfl] at hO
      have rf : Row0 34 2 W3 v (hF n).length (fl (hF n)) := hO.row0
      have hFn : (hF n).length ≤ 100 := by rw [← hfl, H.out.flen]; have := H.out.n12; omega
      have K := hO.2
      obtain ⟨af, cf, rfl, _⟩ := hO.rd
      clear hO hfl
      generalize hF n = F at *
      replace hR := hR.keep K
      replace hT := hT.keep K
      replace K2 := K2.trans K
      clear K
      have hRl : 1 ≤ R.length := by rw [hlen]; exact hL0
      clear hlen
      go_wp2_with fail
      have hco : (1 : Int) ≤ (co : Int) := by have := hR.rd.nc; omega
      have hmin : min n 16 = n := by have := H.out.n12; omega
      have J : Keeps W3 W3.drew := (Keeps.refl W3).drew
      refine wp_region_held_drew (S := (fun w' => True)) (by kernel_rfl) ?_ (fun hHeld => ?_)
      · trivial
      generalize W3.drew = V0 at *
      refine wpAnyH_take (i := 0) (oi := ⟨_, _, _, _, _, _⟩) (v := ?_) rfl (by kernel_rfl) (by kernel_rfl) (by kernel_rfl) (fun _ _ _ h => h) (Or.inl ⟨by rfl, ?_⟩) (by assumption) ?_
      rotate_left 1
      · intro w hSw; (try dsimp only at hSw); go_simp <;> with_reducible rfl
      (try simp only [Act.put]); (try simp only [List.setIfInBounds_toArray]); (try simp only [List.set_cons_succ]); (try simp only [List.set_cons_zero])
      refine wpAnyH_take (i := 1) (oi := ⟨_, _, _, _, _, _⟩) (v := ?_) rfl (by kernel_rfl) (by kernel_rfl) (by kernel_rfl) (fun _ _ _ h => h) (Or.inl ⟨by rfl, ?_⟩) (by assumption) ?_
      rotate_left 1
      · intro w hSw; (try dsimp only at hSw); go_simp <;> with_reducible rfl
      (try simp only [Act.put]); (try simp only [List.setIfInBounds_toArray]); (try simp only [List.set_cons_succ]); (try simp only [List.set_cons_zero])
      refine wpAnyH_take (i := 2) (oi := ⟨_, _, _, _, _, _⟩) (v := ?_) rfl (by kernel_rfl) (by kernel_rfl) (by kernel_rfl) (fun _ _ _ h => h) (Or.inl ⟨by rfl, ?_⟩) (by assumption) ?_
      rotate_left 1
      · intro w hSw; (try dsimp only at hSw); go_simp <;> with_reducible rfl
      (try simp only [Act.put]); (try simp only [List.setIfInBounds_toArray]); (try simp only [List.set_cons_succ]); (try simp only [List.set_cons_zero])
      refine wpAnyH_take (i := 3) (oi := ⟨_, _, _, _, _, _⟩) (v := ?_) rfl (by kernel_rfl) (by kernel_rfl) (by kernel_rfl) (fun _ _ _ h => h) (Or.inl ⟨by rfl, ?_⟩) (by assumption) ?_
      rotate_left 1
      · intro w hSw; (try dsimp only at hSw); go_simp <;> with_reducible rfl
      (try simp only [Act.put]); (try simp only [List.setIfInBounds_toArray]); (try simp only [List.set_cons_succ]); (try simp only [List.set_cons_zero])
      refine wpAnyH_take (i := 4) (oi := ⟨_, _, _, _, _, _⟩) (v := ?_) rfl (by kernel_rfl) (by kernel_rfl) (by kernel_rfl) (fun _ _ _ h => h) (Or.inl ⟨by rfl, ?_⟩) (by assumption) ?_
      rotate_left 1
      · intro w hSw; (try dsimp only at hSw); go_simp <;> with_reducible rfl
      (try simp only [Act.put]); (try simp only [List.setIfInBounds_toArray]); (try simp only [List.set_cons_succ]); (try simp only [List.set_cons_zero])
      refine wpAnyH_take (i := 5) (oi := ⟨_, _, _, _, _, _⟩) (v := ?_) rfl (by kernel_rfl) (by kernel_rfl) (by kernel_rfl) (fun _ _ _ h => h) (Or.inl ⟨by rfl, ?_⟩) (by assumption) ?_
      rotate_left 1
      · intro w hSw; (try dsimp only at hSw); go_simp <;> with_reducible rfl
      (try simp only [Act.put]); (try simp only [List.setIfInBounds_toArray]); (try simp only [List.set_cons_succ]); (try simp only [List.set_cons_zero])
      refine wpAnyH_take (i := 6) (oi := ⟨_, _, _, _, _, _⟩) (v := ?_) rfl (by kernel_rfl) (by kernel_rfl) (by kernel_rfl) (fun _ _ _ h => h) (Or.inl ⟨by rfl, ?_⟩) (by assumption) ?_
      rotate_left 1
      · intro w hSw; (try dsimp only at hSw); go_simp <;> with_reducible rfl
      (try simp only [Act.put]); (try simp only [List.setIfInBounds_toArray]); (try simp only [List.set_cons_succ]); (try simp only [List.set_cons_zero])
      refine wpAnyH_take (i := 7) (oi := ⟨_, _, _, _, _, _⟩) (v := ?_) rfl (by kernel_rfl) (by kernel_rfl) (by kernel_rfl) (fun _ _ _ h => h) (Or.inl ⟨by rfl, ?_⟩) (by assumption) ?_
      rotate_left 1
      · intro w hSw; (try dsimp only at hSw); go_simp <;> with_reducible rfl
      (try simp only [Act.put]); (try simp only [List.setIfInBounds_toArray]); (try simp only [List.set_cons_succ]); (try simp only [List.set_cons_zero])
      refine wpAnyH_ready (rs := [8]) (by kernel_rfl) (by simp) ?_
      refine AllReadyH.cons (o := ⟨_, _, _, _, _, _⟩) rfl (fun K hK => ?_) AllReadyH.nil
      go_simp
      have hn := Blk.new V0 31 zG6
      have KA := (Keeps.refl V0).alloc (.cells zG6 31)
      have hg : W3.heap.size ≤ V0.heap.size := J.size
      replace J := J.trans KA
      clear KA
      generalize V0.alloc (.cells zG6 31) = V1 at *
      generalize V0.heap.size = B at *
      refine hK.out _ _ ?_ (fun hHeld => ?_)
      · trivial
      clear hK K
      (try simp only [Act.put]); (try simp only [List.setIfInBounds_toArray]); (try simp only [List.set_cons_succ]); (try simp only [List.set_cons_zero])
      refine wpAnyH_ready (rs := [9]) (by kernel_rfl) (by simp) ?_
      refine AllReadyH.cons (o := ⟨_, _, _, _, _, _⟩) rfl (fun K hK => ?_) AllReadyH.nil
      obtain ⟨c0, c1, c2, c3, c4, c5⟩ := hn.c6
      obtain ⟨g0, g1, g2, g3, g4, g5⟩ := hn.f6
      go_simp
      clear c0 c1 c2 c3 c4 c5 g0 g1 g2 g3 g4 g5
      replace hn := hn.set6 (.string ⟨#[99]⟩) (.int .i64 2) (.int .u16 (sv (1#16 <<< n - 1#16))) (.slice ao R.length co) (.slice ao 1 co) (.slice af F.length cf)
      replace J := keeps_set6 J hg (.string ⟨#[99]⟩) (.int .i64 2) (.int .u16 (sv (1#16 <<< n - 1#16))) (.slice ao R.length co) (.slice ao 1 co) (.slice af F.length cf)
      generalize ((((((V1.setCell ⟨B, 0, none⟩ (.string ⟨#[99]⟩)).setCell ⟨B, 1, none⟩ (.int .i64 2)).setCell ⟨B, 2, none⟩ (.int .u16 (sv (1#16 <<< n - 1#16)))).setCell ⟨B, 3, none⟩ (.slice ao R.length co)).setCell ⟨B, 4, none⟩ (.slice ao 1 co)).setCell ⟨B, 5, none⟩ (.slice af F.length cf)) = V2 at *
      refine hK.out _ _ ?_ (fun hHeld => ?_)
      · trivial
      clear hK K
      (try simp only [Act.put]); (try simp only [List.setIfInBounds_toArray]); (try simp only [List.set_cons_succ]); (try simp only [List.set_cons_zero])
      refine wpAnyH_done (by kernel_rfl) ?_ _
      have hq1 : (R.take 1).length = 1 := by rw [List.length_take]; omega
      have hR4 : R.length ≤ 4096 := by rw [HLEN.out]; exact HL4
      have p1 : (proS 2 0#16 (1#16 <<< n - 1#16) R (R.take 1) F).2 = 12 ∧ (proS 2 0#16 (1#16 <<< n - 1#16) R (R.take 1) F).1.length = 0 := H1.out
      have p2 : (proS 2 0#16 (1#16 <<< n - 1#16) R R F).2 = z := H2.out
      have hQ : Row0 28 1 W3 (.slice ao 1 co) 1 (sl (R.take 1)) := by
        have := row0_take1 hR hRl
        rw [show (sl R).take 1 = sl (R.take 1) from (List.map_take ..).symm] at this
        exact this
      have q1 := cProve_any (nm := ⟨#[99]⟩) 2 0#16 (1#16 <<< n - 1#16) (R := R) (Q := R.take 1) (F := F) V2 (hT.keep J) ⟨hR.keep J, by rw [hq1]; exact hQ.keep J, rf.keep J⟩ hR4 (by rw [hq1]; decide) (by omega)
      rw [hq1] at q1
      obtain ⟨c0, c1, c2, c3, c4, c5⟩ := hn.c6
      go_wp2_with fail
      clear c0 c1 c2 c3 c4 c5
      refine q1.mono ?_
      intro e W5 hq
      obtain ⟨v, he, ho⟩ := hq
      obtain ⟨a5, c5, rfl, _⟩ := ho.rd
      rw [p1.2, p1.1] at he
      subst he
      have K := ho.2
      clear ho q1 p1 hQ hq1
      replace J := J.trans K
      replace hn := hn.keep K
      clear K
      obtain ⟨c0, c1, c2, c3, c4, c5'⟩ := hn.c6
      obtain ⟨g0, g1, g2, g3, g4, g5⟩ := hn.f6
      go_wp2_with fail
      clear c0 c1 c2 c3 c4 c5' g0 g1 g2 g3 g4 g5
      replace hn := hn.set 4 (.slice ao R.length co)
      replace J := keeps_set J hg 4 (.slice ao R.length co)
      generalize W5.setCell ⟨B, 4, none⟩ (.slice ao R.length co) = W6 at *
      have hn6 : Blk W6 B 31 #[.string ⟨#[99]⟩, .int .i64 2, .int .u16 (sv (1#16 <<< n - 1#16)), .slice ao R.length co, .slice ao R.length co, .slice af F.length cf] := hn
      obtain ⟨c0, c1, c2, c3, c4, c5'⟩ := hn6.c6
      go_wp2_with fail
      have q2 := cProve_any (nm := ⟨#[99]⟩) 2 0#16 (1#16 <<< n - 1#16) (R := R) (Q := R) (F := F) W6 (hT.keep J) ⟨hR.keep J, hR.keep J, rf.keep J⟩ hR4 hR4 (by omega)
      clear c0 c1 c2 c3 c4 c5'
      refine q2.mono ?_
      intro e W7 hq
      obtain ⟨v, he, ho⟩ := hq
      rw [p2] at he
      subst he
      have K := ho.2
      clear ho q2 p2
      have KF := (K2.trans J).trans K
      clear K J hn hn6 hR rf hT
      obtain ⟨lR, hlR⟩ : ∃ l, l = R.length := ⟨_, rfl⟩
      have hlL : lR = L := by rw [hlR]; exact HLEN.out
      rw [← hlR]
      clear hlR
      clear H1 H2 H HLEN hR4 hRl
      subst hlL
      rcases HC5.out with ⟨rfl, rfl, rfl⟩ | ⟨rfl, rfl, rfl⟩ | ⟨rfl, rfl, rfl⟩ | ⟨rfl, rfl, rfl⟩ | ⟨rfl, rfl, rfl⟩
      all_goals
        go_wp2_with fail
        go_ret
        exact ⟨rfl, KF⟩
theorem ConfigLarge_any (x : Int) (w : World) (hT : Tab w) (hx0 : 0 ≤ x) (_hx1 : x ≤ 255) :
    Calls Tryd.prog 5 #[.int .u8 x] w fun e w' => e = .returned (.bool true) ∧ Keeps w w' := by
  obtain ⟨l1, l2, l3, l4, l5⟩ := lrg
  have h : x % 5 = 0 ∨ x % 5 = 1 ∨ x % 5 = 2 ∨ x % 5 = 3 ∨ x % 5 = 4 := by omega
  rcases h with h | h | h | h | h
  · exact large_core x 6 64 20 12 (by rw [h]; rfl) hx0 l1 (by decide) (by simp) w hT
  · exact large_core x 7 128 35 12 (by rw [h]; rfl) hx0 l2 (by decide) (by simp) w hT
  · exact large_core x 8 256 70 3 (by rw [h]; rfl) hx0 l3 (by decide) (by simp) w hT
  · exact large_core x 9 512 126 3 (by rw [h]; rfl) hx0 l4 (by decide) (by simp) w hT
  · exact large_core x 10 1024 252 3 (by rw [h]; rfl) hx0 l5 (by decide) (by simp) w hT
end Go.Proofs.YtcnccoinhohbeaaDoor
