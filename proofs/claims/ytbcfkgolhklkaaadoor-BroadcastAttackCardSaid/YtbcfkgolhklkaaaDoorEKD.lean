/- Texts joined into one, what is needed of them (a program of ours). -/
import Derived.Test.YtbcfkgolhklkaaaDoorEKA
import Derived.Test.YtbcfkgolhklkaaaDoorEKC
import Derived.Deep.DeepCutAuto
import Derived.Deep.RegionHeld3
namespace Go.Proofs.YtbcfkgolhklkaaaDoor
open Go.RowKit Go.Lib Go.Shelf

theorem get_put (i : Nat) (v : Str) : ∀ (l : List Hd) (k : Nat), (idxFrom (fun h : Hd => decide (h.v = v)) l k = -1 → getH (putH l i v) v = 1#16 <<< i) ∧ ∀ j : Nat, idxFrom (fun h : Hd => decide (h.v = v)) l k = ((k + j : Nat) : Int) → getH (putH l i v) v = (hdA l j).s ||| 1#16 <<< i
  | [], k => ⟨fun _ => by rw [putH, getH_cons, if_pos rfl], fun j h => by
      have : (-1 : Int) = ((k + j : Nat) : Int) := h
      omega⟩
  | h :: t, k => by
    by_cases hv : h.v = v
    · have e1 : idxFrom (fun h : Hd => decide (h.v = v)) (h :: t) k = (k : Int) := by rw [idxFrom, if_pos (by simpa using hv)]
      have e2 : putH (h :: t) i v = ⟨h.v, h.s ||| 1#16 <<< i⟩ :: t := by rw [putH, if_pos hv]
      rw [e1, e2, getH_cons, if_pos hv]
      refine ⟨fun q => absurd q (by omega), fun j q => ?_⟩
      have : j = 0 := by omega
      subst this
      rfl
    · have e1 : idxFrom (fun h : Hd => decide (h.v = v)) (h :: t) k = idxFrom (fun h : Hd => decide (h.v = v)) t (k + 1) := by rw [idxFrom, if_neg (by simpa using hv)]
      have e2 : putH (h :: t) i v = h :: putH t i v := by rw [putH, if_neg hv]
      rw [e1, e2, getH_cons, if_neg hv]
      obtain ⟨g1, g2⟩ := get_put i v t (k + 1)
      refine ⟨g1, fun j q => ?_⟩
      cases j with
      | zero =>
        rcases put_idx i v t (k + 1) with ⟨a1, _⟩ | ⟨j', _, a1, _⟩ <;> (rw [a1] at q; omega)
      | succ j => exact g2 j (by rw [q]; congr 1; omega)
theorem idx_cons (h : Hd) (t : List Hd) (v : Str) (k : Nat) : idxFrom (fun h : Hd => decide (h.v = v)) (h :: t) k = if h.v = v then (k : Int) else idxFrom (fun h : Hd => decide (h.v = v)) t (k + 1) := by
  rw [idxFrom]
  by_cases hv : h.v = v
  · rw [if_pos (by simpa using hv), if_pos hv]
  · rw [if_neg (by simpa using hv), if_neg hv]
theorem knows_cons (h : Hd) (t : List Hd) (i : Nat) : knows (h :: t) i = ((h.s >>> i &&& 1#16 == 1#16) || knows t i) := by
  rw [hbT]; rfl
def RetHd (w : World) (a : Option Addr) (c : Nat) (l : List Hd) (i : Nat) (v : Str) (e : Ending) (w' : World) : Prop :=
  if knows l i = true then e = .returned (.tuple #[.slice a l.length c, .int .u16 0, .bool false]) ∧ Keeps w w'
  else ∃ u, e = .returned (.tuple #[u, .int .u16 (sv (getH (putH l i v) v)), .bool true]) ∧ Own 103 2 w w' u (putH l i v).length (hl (putH l i v))
/-- the index found so far -/
def idxSo (v : Str) (l : List Hd) (k : Nat) (x : Int) : Int := if x < 0 then idxFrom (fun h : Hd => decide (h.v = v)) (l.drop k) k else x
set_option maxHeartbeats 2000000 in
theorem rheard9_any (a : Option Addr) (c : Nat) (l : List Hd) (i : Nat) (v : Str) (w : World) (h : Rd w a l.length c 2 (hl l)) (hi : i < 16) (hb : l.length ≤ 100000) :
    Calls Tryd.prog 105 #[.slice a l.length c, .int .i64 i, .string v] w fun e w' => RetHd w a c l i v e w' := by
  have o0 := Own.made (e := 103) (sz := 2) (Keeps.refl w) [] 0 (by decide) rfl
  have HO0 := Lib.hid o0; have HR := Lib.hid (h.keep ((Keeps.refl w).alloc (.cells #[] 103)))
  clear o0 h
  have hmin : min i 16 = i := by omega
  go_enter Tryd.func105, Tryd.ntmps105
  go_wp2_with (at_builtin; refine wp_app ty_hl rfl _ _ rfl HO0.out rfl rfl HR.out (hl_cells l) (by omega) ?_)
  intro u1 w1 hO1 _
  obtain ⟨a1, c1, rfl, r1⟩ := hO1.rd
  have HO := Lib.hid hO1
  clear hO1 HO0
  go_wp2_with fail
  go_loopw [10, 11] (fun x u wr => ∃ (k : Nat) (z : Int), k ≤ l.length ∧ u = .int .i64 k ∧ x = .int .i64 z ∧ Hid (z = -1 ∨ ∃ j : Nat, j < k ∧ z = j) ∧ Keeps w1 wr ∧ Hid (knows l i = knows (l.drop k) i) ∧ Hid (idxFrom (fun h : Hd => decide (h.v = v)) l 0 = idxSo v l k z)) (fun _ u _ => l.length - (RowKit.intOf u).toNat)
  case atStart => exact ⟨0, -1, Nat.zero_le _, rfl, rfl, Lib.hid (Or.inl rfl), Keeps.refl _, rfl, rfl⟩
  case round =>
    obtain ⟨k, z, hk, rfl, rfl, HZ, K1, HKN, HIX⟩ := hrel
    by_cases hlt : k < l.length
    · obtain ⟨g0, g1⟩ := hl_at (r1.keep K1) hlt
      rw [adr_plus _ _ _ (by decide)] at g1
      have ha := r1.isSome (by omega)
      have hdr : l.drop k = hdA l k :: l.drop (k + 1) := drop_hdA l k hlt
      have HDR := Lib.hid hdr; clear hdr
      generalize hdA l k = y at *
      have hcall := has7_any y.s i hi wr
      have HC := Lib.hid hcall; clear hcall
      have hkn := HKN.out
      rw [HDR.out, knows_cons] at hkn
      cases hq : (y.s >>> i &&& 1#16 == 1#16) with
      | true =>
        rw [hq] at HC hkn
        have HKT : Hid (knows l i = true) := Lib.hid (by rw [hkn, Bool.true_or])
        clear hq hkn
        go_wp2_with (go_at_call 47; refine HC.out.mono ?_; rintro e w2 ⟨rfl, rfl⟩)
        go_ret3
        unfold RetHd
        rw [if_pos HKT.out]
        exact ⟨rfl, HO.out.2.trans K1⟩
      | false =>
        rw [hq, Bool.false_or] at hkn
        rw [hq] at HC
        have HKT := Lib.hid hkn
        clear hq hkn
        have hcases : (z = -1 ∧ y.v = v) ∨ (z = -1 ∧ ¬ y.v = v) ∨ ∃ j : Nat, j < k ∧ z = j := by
          rcases HZ.out with h1 | h1
          · by_cases hv : y.v = v
            · exact .inl ⟨h1, hv⟩
            · exact .inr (.inl ⟨h1, hv⟩)
          · exact .inr (.inr h1)
        rcases hcases with ⟨rfl, hv⟩ | ⟨rfl, hv⟩ | ⟨j, hj, rfl⟩
        · have HX : Hid (idxFrom (fun h : Hd => decide (h.v = v)) l 0 = idxSo v l (k + 1) (k : Int)) := by
            rw [HIX.out]; unfold idxSo; rw [if_pos (by decide), if_neg (by omega), HDR.out, idx_cons, if_pos hv]; exact Lib.hid rfl
          subst hv
          go_wp2_with (go_at_call 47; refine HC.out.mono ?_; rintro e w2 ⟨rfl, rfl⟩)
          go_roundw
          case rel => exact ⟨k + 1, k, by omega, by go_num, rfl, Lib.hid (Or.inr ⟨k, by omega, rfl⟩), K1, HKT, HX⟩
          case measure => simp [RowKit.intOf]; omega
        · have HX : Hid (idxFrom (fun h : Hd => decide (h.v = v)) l 0 = idxSo v l (k + 1) (-1)) := by
            rw [HIX.out]; unfold idxSo; rw [if_pos (by decide), if_pos (by decide), HDR.out, idx_cons, if_neg hv]; exact Lib.hid rfl
          go_wp2_with (go_at_call 47; refine HC.out.mono ?_; rintro e w2 ⟨rfl, rfl⟩)
          go_roundw
          case rel => exact ⟨k + 1, -1, by omega, by go_num, rfl, Lib.hid (Or.inl rfl), K1, HKT, HX⟩
          case measure => simp [RowKit.intOf]; omega
        · have HX : Hid (idxFrom (fun h : Hd => decide (h.v = v)) l 0 = idxSo v l (k + 1) (j : Int)) := by
            rw [HIX.out]; unfold idxSo; rw [if_neg (by omega), if_neg (by omega)]; exact Lib.hid rfl
          have hj0 : ¬ (j : Int) < 0 := by omega
          go_wp2_with (go_at_call 47; refine HC.out.mono ?_; rintro e w2 ⟨rfl, rfl⟩)
          go_roundw
          case rel => exact ⟨k + 1, j, by omega, by go_num, rfl, Lib.hid (Or.inr ⟨j, by omega, rfl⟩), K1, HKT, HX⟩
          case measure => simp [RowKit.intOf]; omega
    · have e : k = l.length := by omega
      subst e
      have hkf : knows l i = false := by rw [HKN.out, List.drop_length]; rfl
      have hix := HIX.out
      unfold idxSo at hix
      rw [List.drop_length] at hix
      obtain ⟨gp1, gp2⟩ := get_put i v l 0
      have HKF := Lib.hid hkf; clear hkf
      rcases HZ.out with rfl | ⟨j, hj, rfl⟩
      · rw [if_pos (by decide)] at hix
        have hix' : idxFrom (fun h : Hd => decide (h.v = v)) l 0 = -1 := hix
        have HG := Lib.hid (gp1 hix')
        have HP : Hid (putH l i v = l ++ [⟨v, 1#16 <<< i⟩]) := by
          rcases put_idx i v l 0 with ⟨_, h2⟩ | ⟨j, _, h1, _⟩
          · exact Lib.hid h2
          · rw [hix'] at h1; omega
        clear hix hix' gp1 gp2 HIX HKN HZ
        go_wp2_with fail
        have J : Keeps wr wr.drew := (Keeps.refl wr).drew
        refine wp_region_held_drew (S := (fun w' => True)) (by kernel_rfl) ?_ (fun hHeld => ?_)
        · trivial
        generalize wr.drew = V0 at *
        refine wpAnyH_take (i := 0) (oi := ⟨_, _, _, _, _, _⟩) (v := ?_) rfl (by kernel_rfl) (by kernel_rfl) (by kernel_rfl) (fun _ _ _ h => h) (Or.inl ⟨by rfl, ?_⟩) (by assumption) ?_
        rotate_left 1
        · intro w hSw; (try dsimp only at hSw); go_simp <;> with_reducible rfl
        (try simp only [Act.put]); (try simp only [List.setIfInBounds_toArray]); (try simp only [List.set_cons_succ]); (try simp only [List.set_cons_zero])
        refine wpAnyH_take (i := 1) (oi := ⟨_, _, _, _, _, _⟩) (v := ?_) rfl (by kernel_rfl) (by kernel_rfl) (by kernel_rfl) (fun _ _ _ h => h) (Or.inl ⟨by rfl, ?_⟩) (by assumption) ?_
        rotate_left 1
        · intro w hSw; (try dsimp only at hSw); go_simp <;> with_reducible rfl
        (try simp only [Act.put]); (try simp only [List.setIfInBounds_toArray]); (try simp only [List.set_cons_succ]); (try simp only [List.set_cons_zero])
        refine wpAnyH_take (i := 2) (oi := ⟨_, _, _, _, _, _⟩) (v := ?_) rfl (by kernel_rfl) (by kernel_rfl) (by kernel_rfl) (fun _ _ _ h => h) (Or.inl ⟨by rfl, ?_⟩) (by assumption) ?_
        rotate_left 1
        · intro w hSw; (try dsimp only at hSw); go_simp <;> with_reducible rfl
        (try simp only [Act.put]); (try simp only [List.setIfInBounds_toArray]); (try simp only [List.set_cons_succ]); (try simp only [List.set_cons_zero])
        refine wpAnyH_take (i := 3) (oi := ⟨_, _, _, _, _, _⟩) (v := ?_) rfl (by kernel_rfl) (by kernel_rfl) (by kernel_rfl) (fun _ _ _ h => h) (Or.inl ⟨by rfl, ?_⟩) (by assumption) ?_
        rotate_left 1
        · intro w hSw; (try dsimp only at hSw); go_simp <;> with_reducible rfl
        (try simp only [Act.put]); (try simp only [List.setIfInBounds_toArray]); (try simp only [List.set_cons_succ]); (try simp only [List.set_cons_zero])
        refine wpAnyH_take (i := 4) (oi := ⟨_, _, _, _, _, _⟩) (v := ?_) rfl (by kernel_rfl) (by kernel_rfl) (by kernel_rfl) (fun _ _ _ h => h) (Or.inl ⟨by rfl, ?_⟩) (by assumption) ?_
        rotate_left 1
        · intro w hSw; (try dsimp only at hSw); go_simp <;> with_reducible rfl
        (try simp only [Act.put]); (try simp only [List.setIfInBounds_toArray]); (try simp only [List.set_cons_succ]); (try simp only [List.set_cons_zero])
        refine wpAnyH_take (i := 7) (oi := ⟨_, _, _, _, _, _⟩) (v := ?_) rfl (by kernel_rfl) (by kernel_rfl) (by kernel_rfl) (fun _ _ _ h => h) (Or.inl ⟨by rfl, ?_⟩) (by assumption) ?_
        rotate_left 1
        · intro w hSw; (try dsimp only at hSw); go_simp <;> with_reducible rfl
        (try simp only [Act.put]); (try simp only [List.setIfInBounds_toArray]); (try simp only [List.set_cons_succ]); (try simp only [List.set_cons_zero])
        refine wpAnyH_take (i := 8) (oi := ⟨_, _, _, _, _, _⟩) (v := ?_) rfl (by kernel_rfl) (by kernel_rfl) (by kernel_rfl) (fun _ _ _ h => h) (Or.inl ⟨by rfl, ?_⟩) (by assumption) ?_
        rotate_left 1
        · intro w hSw; (try dsimp only at hSw); go_simp <;> with_reducible rfl
        (try simp only [Act.put]); (try simp only [List.setIfInBounds_toArray]); (try simp only [List.set_cons_succ]); (try simp only [List.set_cons_zero])
        refine wpAnyH_ready (rs := [5]) (by kernel_rfl) (by simp) ?_
        refine AllReadyH.cons (o := ⟨_, _, _, _, _, _⟩) rfl (fun K hK => ?_) AllReadyH.nil
        go_simp
        have r2 : Rd (V0.alloc (.cells #[.string v, .int .u16 (sv (1#16 <<< i))] 103)) (some ⟨V0.heap.size, 0, none⟩) 1 1 2 (hl [⟨v, 1#16 <<< i⟩]) := rd_new 103 2 V0 (hl [⟨v, 1#16 <<< i⟩]) 1 (by decide) rfl
        have KA := (Keeps.refl V0).alloc (.cells #[.string v, .int .u16 (sv (1#16 <<< i))] 103)
        replace J := J.trans KA
        clear KA
        generalize V0.alloc (.cells #[.string v, .int .u16 (sv (1#16 <<< i))] 103) = V1 at *
        generalize V0.heap.size = BS at *
        refine hK.out _ _ ?_ (fun hHeld => ?_)
        · trivial
        clear hK K
        (try simp only [Act.put]); (try simp only [List.setIfInBounds_toArray]); (try simp only [List.set_cons_succ]); (try simp only [List.set_cons_zero])
        refine wpAnyH_ready (rs := [6]) (by kernel_rfl) (by simp) ?_
        refine AllReadyH.cons (o := ⟨_, _, _, _, _, _⟩) rfl (fun K hK => ?_) AllReadyH.nil
        have hOO := HO.out.keep (K1.trans J)
        refine step_app ty_hl rfl _ _ rfl hOO rfl rfl r2 (hl_cells [⟨v, 1#16 <<< i⟩]) (by omega) ?_
        intro v' V2 hO' hgr
        dsimp only
        rw [← hl_append] at hO'
        have HO' := Lib.hid hO'
        clear hO' hgr hOO r2
        refine hK.out _ _ ?_ (fun hHeld => ?_)
        · trivial
        clear hK K
        (try simp only [Act.put]); (try simp only [List.setIfInBounds_toArray]); (try simp only [List.set_cons_succ]); (try simp only [List.set_cons_zero])
        refine wpAnyH_take (i := 9) (oi := ⟨_, _, _, _, _, _⟩) (v := ?_) rfl (by kernel_rfl) (by kernel_rfl) (by kernel_rfl) (fun _ _ _ h => h) (Or.inl ⟨by rfl, ?_⟩) (by assumption) ?_
        rotate_left 1
        · intro w hSw; (try dsimp only at hSw); go_simp <;> with_reducible rfl
        (try simp only [Act.put]); (try simp only [List.setIfInBounds_toArray]); (try simp only [List.set_cons_succ]); (try simp only [List.set_cons_zero])
        refine wpAnyH_take (i := 10) (oi := ⟨_, _, _, _, _, _⟩) (v := ?_) rfl (by kernel_rfl) (by kernel_rfl) (by kernel_rfl) (fun _ _ _ h => h) (Or.inl ⟨by rfl, ?_⟩) (by assumption) ?_
        rotate_left 1
        · intro w hSw; (try dsimp only at hSw); go_simp <;> with_reducible rfl
        (try simp only [Act.put]); (try simp only [List.setIfInBounds_toArray]); (try simp only [List.set_cons_succ]); (try simp only [List.set_cons_zero])
        refine wpAnyH_take (i := 11) (oi := ⟨_, _, _, _, _, _⟩) (v := ?_) rfl (by kernel_rfl) (by kernel_rfl) (by kernel_rfl) (fun _ _ _ h => h) (Or.inl ⟨by rfl, ?_⟩) (by assumption) ?_
        rotate_left 1
        · intro w hSw; (try dsimp only at hSw); go_simp <;> with_reducible rfl
        (try simp only [Act.put]); (try simp only [List.setIfInBounds_toArray]); (try simp only [List.set_cons_succ]); (try simp only [List.set_cons_zero])
        refine wpAnyH_done (by kernel_rfl) ?_ _
        go_wp2_with fail
        go_ret3
        unfold RetHd
        rw [if_neg (by rw [HKF.out]; decide), HG.out]
        refine ⟨_, rfl, ?_⟩
        rw [HP.out, List.length_append]
        exact HO'.out
      · rw [if_neg (by omega)] at hix
        have hix' : idxFrom (fun h : Hd => decide (h.v = v)) l 0 = ((0 + j : Nat) : Int) := by rw [hix]; congr 1; omega
        have HG := Lib.hid (gp2 j hix')
        have HP : Hid (putH l i v = l.set j ⟨(hdA l j).v, (hdA l j).s ||| 1#16 <<< i⟩) := by
          rcases put_idx i v l 0 with ⟨h1, _⟩ | ⟨j', _, h1, h2⟩
          · rw [hix'] at h1; omega
          · rw [hix'] at h1
            have : j' = j := by omega
            subst this
            exact Lib.hid h2
        clear hix hix' gp1 gp2 HIX HKN HZ
        obtain ⟨g, cap, hg, _⟩ := HO.out.some (by omega)
        injection hg with hg1 hg2 hg3
        subst hg1
        subst hg3
        have hce : ∀ W, Keeps wr W → W.cell? ⟨g, j * 2 + 1, none⟩ = some (.int .u16 (sv (hdA l j).s)) := fun W J => by
          have := (hl_at (r1.keep (K1.trans J)) hj).2
          simp only [adr_some, Nat.zero_add] at this
          exact this
        have HCE := Lib.hid hce; clear hce
        have hj' : (j : Int) < (l.length : Int) := by omega
        have hj0 : ¬ (j : Int) < 0 := by omega
        go_wp2_with fail
        have J : Keeps wr wr.drew := (Keeps.refl wr).drew
        refine wp_region_held_drew (S := (fun w' => True)) (by kernel_rfl) ?_ (fun hHeld => ?_)
        · trivial
        generalize wr.drew = V0 at *
        refine wpAnyH_take (i := 0) (oi := ⟨_, _, _, _, _, _⟩) (v := ?_) rfl (by kernel_rfl) (by kernel_rfl) (by kernel_rfl) (fun _ _ _ h => h) (Or.inl ⟨by rfl, ?_⟩) (by assumption) ?_
        rotate_left 1
        · intro w hSw; (try dsimp only at hSw); go_simp <;> with_reducible rfl
        (try simp only [Act.put]); (try simp only [List.setIfInBounds_toArray]); (try simp only [List.set_cons_succ]); (try simp only [List.set_cons_zero])
        refine wpAnyH_take (i := 1) (oi := ⟨_, _, _, _, _, _⟩) (v := ?_) rfl (by kernel_rfl) (by kernel_rfl) (by kernel_rfl) (fun _ _ _ h => h) (Or.inl ⟨by rfl, ?_⟩) (by assumption) ?_
        rotate_left 1
        · intro w hSw; (try dsimp only at hSw); go_simp <;> with_reducible rfl
        (try simp only [Act.put]); (try simp only [List.setIfInBounds_toArray]); (try simp only [List.set_cons_succ]); (try simp only [List.set_cons_zero])
        refine wpAnyH_take (i := 2) (oi := ⟨_, _, _, _, _, _⟩) (v := ?_) rfl (by kernel_rfl) (by kernel_rfl) (by kernel_rfl) (fun _ _ _ h => h) (Or.inl ⟨by rfl, ?_⟩) (by assumption) ?_
        rotate_left 1
        · intro w hSw; (try dsimp only at hSw); go_simp <;> with_reducible rfl
        (try simp only [Act.put]); (try simp only [List.setIfInBounds_toArray]); (try simp only [List.set_cons_succ]); (try simp only [List.set_cons_zero])
        refine wpAnyH_take (i := 3) (oi := ⟨_, _, _, _, _, _⟩) (v := ?_) rfl (by kernel_rfl) (by kernel_rfl) (by kernel_rfl) (fun _ _ _ h => h) (Or.inl ⟨by rfl, ?_⟩) (by assumption) ?_
        rotate_left 1
        · intro w hSw; (try dsimp only at hSw); go_simp <;> with_reducible rfl
        (try simp only [Act.put]); (try simp only [List.setIfInBounds_toArray]); (try simp only [List.set_cons_succ]); (try simp only [List.set_cons_zero])
        refine wpAnyH_take (i := 4) (oi := ⟨_, _, _, _, _, _⟩) (v := ?_) rfl (by kernel_rfl) (by kernel_rfl) (by kernel_rfl) (fun _ _ _ h => h) (Or.inl ⟨by rfl, ?_⟩) (by assumption) ?_
        rotate_left 1
        · intro w hSw; (try dsimp only at hSw); go_simp <;> with_reducible rfl
        (try simp only [Act.put]); (try simp only [List.setIfInBounds_toArray]); (try simp only [List.set_cons_succ]); (try simp only [List.set_cons_zero])
        refine wpAnyH_take (i := 5) (oi := ⟨_, _, _, _, _, _⟩) (v := ?_) rfl (by kernel_rfl) (by kernel_rfl) (by kernel_rfl) (fun _ _ _ h => h) (Or.inl ⟨by rfl, ?_⟩) (by assumption) ?_
        rotate_left 1
        · intro w hSw; (try dsimp only at hSw); go_simp <;> with_reducible rfl
        (try simp only [Act.put]); (try simp only [List.setIfInBounds_toArray]); (try simp only [List.set_cons_succ]); (try simp only [List.set_cons_zero])
        refine wpAnyH_take (i := 7) (oi := ⟨_, _, _, _, _, _⟩) (v := ?_) rfl (by kernel_rfl) (by kernel_rfl) (by kernel_rfl) (fun _ _ _ h => h) (Or.inl ⟨by rfl, ?_⟩) (by assumption) ?_
        rotate_left 1
        · intro w hSw; (try dsimp only at hSw); go_simp <;> with_reducible rfl
        (try simp only [Act.put]); (try simp only [List.setIfInBounds_toArray]); (try simp only [List.set_cons_succ]); (try simp only [List.set_cons_zero])
        refine wpAnyH_take (i := 8) (oi := ⟨_, _, _, _, _, _⟩) (v := ?_) rfl (by kernel_rfl) (by kernel_rfl) (by kernel_rfl) (fun _ _ _ h => h) (Or.inl ⟨by rfl, ?_⟩) (by assumption) ?_
        rotate_left 1
        · intro w hSw; (try dsimp only at hSw); go_simp <;> with_reducible rfl
        (try simp only [Act.put]); (try simp only [List.setIfInBounds_toArray]); (try simp only [List.set_cons_succ]); (try simp only [List.set_cons_zero])
        refine wpAnyH_ready (rs := [6]) (by kernel_rfl) (by simp) ?_
        refine AllReadyH.cons (o := ⟨_, _, _, _, _, _⟩) rfl (fun K hK => ?_) AllReadyH.nil
        have c1 := HCE.out _ J
        go_simp
        refine hK.out _ _ ?_ (fun hHeld => ?_)
        · trivial
        clear hK K
        (try simp only [Act.put]); (try simp only [List.setIfInBounds_toArray]); (try simp only [List.set_cons_succ]); (try simp only [List.set_cons_zero])
        refine wpAnyH_take (i := 9) (oi := ⟨_, _, _, _, _, _⟩) (v := ?_) rfl (by kernel_rfl) (by kernel_rfl) (by kernel_rfl) (fun _ _ _ h => h) (Or.inl ⟨by rfl, ?_⟩) (by assumption) ?_
        rotate_left 1
        · intro w hSw; (try dsimp only at hSw); go_simp <;> with_reducible rfl
        (try simp only [Act.put]); (try simp only [List.setIfInBounds_toArray]); (try simp only [List.set_cons_succ]); (try simp only [List.set_cons_zero])
        refine wpAnyH_take (i := 10) (oi := ⟨_, _, _, _, _, _⟩) (v := ?_) rfl (by kernel_rfl) (by kernel_rfl) (by kernel_rfl) (fun _ _ _ h => h) (Or.inl ⟨by rfl, ?_⟩) (by assumption) ?_
        rotate_left 1
        · intro w hSw; (try dsimp only at hSw); go_simp <;> with_reducible rfl
        (try simp only [Act.put]); (try simp only [List.setIfInBounds_toArray]); (try simp only [List.set_cons_succ]); (try simp only [List.set_cons_zero])
        refine wpAnyH_take (i := 11) (oi := ⟨_, _, _, _, _, _⟩) (v := ?_) rfl (by kernel_rfl) (by kernel_rfl) (by kernel_rfl) (fun _ _ _ h => h) (Or.inl ⟨by rfl, ?_⟩) (by assumption) ?_
        rotate_left 1
        · intro w hSw; (try dsimp only at hSw); go_simp <;> with_reducible rfl
        (try simp only [Act.put]); (try simp only [List.setIfInBounds_toArray]); (try simp only [List.set_cons_succ]); (try simp only [List.set_cons_zero])
        refine wpAnyH_ready (rs := [12]) (by kernel_rfl) (by simp) ?_
        refine AllReadyH.cons (o := ⟨_, _, _, _, _, _⟩) rfl (fun K hK => ?_) AllReadyH.nil
        have c1 := HCE.out _ J
        have hOO := HO.out.keep (K1.trans J)
        have f1 := hOO.1.frozenAt (j * 2 + 1)
        have hO5 := own_setE hOO (j * 2 + 1) (.int .u16 (sv ((hdA l j).s ||| 1#16 <<< i)))
        have c9 : (V0.setCell ⟨g, j * 2 + 1, none⟩ (.int .u16 (sv ((hdA l j).s ||| 1#16 <<< i)))).cell? ⟨g, j * 2 + 1, none⟩ = some (.int .u16 (sv ((hdA l j).s ||| 1#16 <<< i))) := by
          rw [hO5.1.cellAt (j * 2 + 1) (by omega)]
          exact List.getElem?_set_self (by rw [hl_len]; omega)
        rw [← hl_set l j _ hj, ← HP.out] at hO5
        have HO5 := Lib.hid hO5
        clear hO5 hOO
        go_simp
        generalize (V0.setCell ⟨g, j * 2 + 1, none⟩ (.int .u16 (sv ((hdA l j).s ||| 1#16 <<< i)))) = V1 at *
        have HC9 := Lib.hid c9; clear c9
        refine hK.out _ _ ?_ (fun hHeld => ?_)
        · trivial
        clear hK K
        (try simp only [Act.put]); (try simp only [List.setIfInBounds_toArray]); (try simp only [List.set_cons_succ]); (try simp only [List.set_cons_zero])
        refine wpAnyH_done (by kernel_rfl) ?_ _
        go_wp2_with fail
        have J2 : Keeps V1 V1.drew := (Keeps.refl V1).drew
        refine wp_region_held_drew (S := (fun w' => w'.cell? ⟨g, j * 2 + 1, none⟩ = some (.int .u16 (sv ((hdA l j).s ||| 1#16 <<< i))))) (by kernel_rfl) ?_ (fun hHeld => ?_)
        · exact J2.cell HC9.out
        generalize V1.drew = V9 at *
        refine wpAnyH_take (i := 0) (oi := ⟨_, _, _, _, _, _⟩) (v := ?_) rfl (by kernel_rfl) (by kernel_rfl) (by kernel_rfl) (fun _ _ _ h => h) (Or.inl ⟨by rfl, ?_⟩) (by assumption) ?_
        rotate_left 1
        · intro w hSw; (try dsimp only at hSw); go_simp <;> with_reducible rfl
        (try simp only [Act.put]); (try simp only [List.setIfInBounds_toArray]); (try simp only [List.set_cons_succ]); (try simp only [List.set_cons_zero])
        refine wpAnyH_take (i := 1) (oi := ⟨_, _, _, _, _, _⟩) (v := ?_) rfl (by kernel_rfl) (by kernel_rfl) (by kernel_rfl) (fun _ _ _ h => h) (Or.inl ⟨by rfl, ?_⟩) (by assumption) ?_
        rotate_left 1
        · intro w hSw; (try dsimp only at hSw); go_simp <;> with_reducible rfl
        (try simp only [Act.put]); (try simp only [List.setIfInBounds_toArray]); (try simp only [List.set_cons_succ]); (try simp only [List.set_cons_zero])
        refine wpAnyH_take (i := 2) (oi := ⟨_, _, _, _, _, _⟩) (v := ?_) rfl (by kernel_rfl) (by kernel_rfl) (by kernel_rfl) (fun _ _ _ h => h) (Or.inl ⟨by rfl, ?_⟩) (by assumption) ?_
        rotate_left 1
        · intro w hSw; (try dsimp only at hSw); go_simp <;> with_reducible rfl
        (try simp only [Act.put]); (try simp only [List.setIfInBounds_toArray]); (try simp only [List.set_cons_succ]); (try simp only [List.set_cons_zero])
        refine wpAnyH_take (i := 3) (oi := ⟨_, _, _, _, _, _⟩) (v := ?_) rfl (by kernel_rfl) (by kernel_rfl) (by kernel_rfl) (fun _ _ _ h => h) (Or.inl ⟨by rfl, ?_⟩) (by assumption) ?_
        rotate_left 1
        · intro w hSw; (try dsimp only at hSw); go_simp <;> with_reducible rfl
        (try simp only [Act.put]); (try simp only [List.setIfInBounds_toArray]); (try simp only [List.set_cons_succ]); (try simp only [List.set_cons_zero])
        refine wpAnyH_take (i := 4) (oi := ⟨_, _, _, _, _, _⟩) (v := ?_) rfl (by kernel_rfl) (by kernel_rfl) (by kernel_rfl) (fun _ _ _ h => h) (Or.inl ⟨by rfl, ?_⟩) (by assumption) ?_
        rotate_left 1
        · intro w hSw; (try dsimp only at hSw); go_simp <;> with_reducible rfl
        (try simp only [Act.put]); (try simp only [List.setIfInBounds_toArray]); (try simp only [List.set_cons_succ]); (try simp only [List.set_cons_zero])
        refine wpAnyH_take (i := 5) (oi := ⟨_, _, _, _, _, _⟩) (v := ?_) rfl (by kernel_rfl) (by kernel_rfl) (by kernel_rfl) (fun _ _ _ h => h) (Or.inl ⟨by rfl, ?_⟩) (by assumption) ?_
        rotate_left 1
        · intro w hSw; (try dsimp only at hSw); go_simp <;> with_reducible rfl
        (try simp only [Act.put]); (try simp only [List.setIfInBounds_toArray]); (try simp only [List.set_cons_succ]); (try simp only [List.set_cons_zero])
        refine wpAnyH_take (i := 6) (oi := ⟨_, _, _, _, _, _⟩) (v := ?_) rfl (by kernel_rfl) (by kernel_rfl) (by kernel_rfl) (fun _ _ _ h => h) (Or.inl ⟨by rfl, ?_⟩) (by assumption) ?_
        rotate_left 1
        · intro w hSw; (try dsimp only at hSw); go_simp <;> with_reducible rfl
        (try simp only [Act.put]); (try simp only [List.setIfInBounds_toArray]); (try simp only [List.set_cons_succ]); (try simp only [List.set_cons_zero])
        refine wpAnyH_take (i := 7) (oi := ⟨_, _, _, _, _, _⟩) (v := ?_) rfl (by kernel_rfl) (by kernel_rfl) (by kernel_rfl) (fun _ _ _ h => h) (Or.inl ⟨by rfl, ?_⟩) (by assumption) ?_
        rotate_left 1
        · intro w hSw; (try dsimp only at hSw); go_simp <;> with_reducible rfl
        (try simp only [Act.put]); (try simp only [List.setIfInBounds_toArray]); (try simp only [List.set_cons_succ]); (try simp only [List.set_cons_zero])
        refine wpAnyH_take (i := 8) (oi := ⟨_, _, _, _, _, _⟩) (v := ?_) rfl (by kernel_rfl) (by kernel_rfl) (by kernel_rfl) (fun _ _ _ h => h) (Or.inl ⟨by rfl, ?_⟩) (by assumption) ?_
        rotate_left 1
        · intro w hSw; (try dsimp only at hSw); go_simp <;> with_reducible rfl
        (try simp only [Act.put]); (try simp only [List.setIfInBounds_toArray]); (try simp only [List.set_cons_succ]); (try simp only [List.set_cons_zero])
        refine wpAnyH_done (by kernel_rfl) ?_ _
        go_wp2_with fail
        go_ret3
        unfold RetHd
        rw [if_neg (by rw [HKF.out]; decide), HG.out]
        refine ⟨_, rfl, ?_⟩
        have hpl : (putH l i v).length = l.length := by rw [HP.out, List.length_set]
        rw [hpl]
        exact HO5.out.keep J2
end Go.Proofs.YtbcfkgolhklkaaaDoor
namespace Go.Proofs.YtbcfkgolhklkaaaDoor
open Go.RowKit Go.Lib Go.Shelf

theorem Blk.c9 {w : World} {B : Nat} {T : TypeId} {v0 v1 v2 v3 v4 v5 v6 v7 v8 : Value} (h : Blk w B T #[v0, v1, v2, v3, v4, v5, v6, v7, v8]) : w.cell? ⟨B, 0, none⟩ = some (v0) ∧ w.cell? ⟨B, 1, none⟩ = some (v1) ∧ w.cell? ⟨B, 2, none⟩ = some (v2) ∧ w.cell? ⟨B, 3, none⟩ = some (v3) ∧ w.cell? ⟨B, 4, none⟩ = some (v4) ∧ w.cell? ⟨B, 5, none⟩ = some (v5) ∧ w.cell? ⟨B, 6, none⟩ = some (v6) ∧ w.cell? ⟨B, 7, none⟩ = some (v7) ∧ w.cell? ⟨B, 8, none⟩ = some (v8) := ⟨h.cell 0 rfl, h.cell 1 rfl, h.cell 2 rfl, h.cell 3 rfl, h.cell 4 rfl, h.cell 5 rfl, h.cell 6 rfl, h.cell 7 rfl, h.cell 8 rfl⟩
theorem Blk.f9 {w : World} {B : Nat} {T : TypeId} {cs : Array Value} (h : Blk w B T cs) : w.frozen? ⟨B, 0, none⟩ = false ∧ w.frozen? ⟨B, 1, none⟩ = false ∧ w.frozen? ⟨B, 2, none⟩ = false ∧ w.frozen? ⟨B, 3, none⟩ = false ∧ w.frozen? ⟨B, 4, none⟩ = false ∧ w.frozen? ⟨B, 5, none⟩ = false ∧ w.frozen? ⟨B, 6, none⟩ = false ∧ w.frozen? ⟨B, 7, none⟩ = false ∧ w.frozen? ⟨B, 8, none⟩ = false := ⟨h.frozen 0, h.frozen 1, h.frozen 2, h.frozen 3, h.frozen 4, h.frozen 5, h.frozen 6, h.frozen 7, h.frozen 8⟩
theorem Blk.set9 {w : World} {B : Nat} {T : TypeId} {v0 v1 v2 v3 v4 v5 v6 v7 v8 : Value} (h : Blk w B T #[v0, v1, v2, v3, v4, v5, v6, v7, v8]) (u0 u1 u2 u3 u4 u5 u6 u7 u8 : Value) : Blk ((((((((((w.setCell ⟨B, 0, none⟩ (u0)).setCell ⟨B, 1, none⟩ (u1)).setCell ⟨B, 2, none⟩ (u2)).setCell ⟨B, 3, none⟩ (u3)).setCell ⟨B, 4, none⟩ (u4)).setCell ⟨B, 5, none⟩ (u5)).setCell ⟨B, 6, none⟩ (u6)).setCell ⟨B, 7, none⟩ (u7)).setCell ⟨B, 8, none⟩ (u8))) B T #[u0, u1, u2, u3, u4, u5, u6, u7, u8] := by
  replace h : Blk (w.setCell ⟨B, 0, none⟩ (u0)) B T #[u0, v1, v2, v3, v4, v5, v6, v7, v8] := h.set 0 u0
  replace h : Blk ((w.setCell ⟨B, 0, none⟩ (u0)).setCell ⟨B, 1, none⟩ (u1)) B T #[u0, u1, v2, v3, v4, v5, v6, v7, v8] := h.set 1 u1
  replace h : Blk (((w.setCell ⟨B, 0, none⟩ (u0)).setCell ⟨B, 1, none⟩ (u1)).setCell ⟨B, 2, none⟩ (u2)) B T #[u0, u1, u2, v3, v4, v5, v6, v7, v8] := h.set 2 u2
  replace h : Blk ((((w.setCell ⟨B, 0, none⟩ (u0)).setCell ⟨B, 1, none⟩ (u1)).setCell ⟨B, 2, none⟩ (u2)).setCell ⟨B, 3, none⟩ (u3)) B T #[u0, u1, u2, u3, v4, v5, v6, v7, v8] := h.set 3 u3
  replace h : Blk (((((w.setCell ⟨B, 0, none⟩ (u0)).setCell ⟨B, 1, none⟩ (u1)).setCell ⟨B, 2, none⟩ (u2)).setCell ⟨B, 3, none⟩ (u3)).setCell ⟨B, 4, none⟩ (u4)) B T #[u0, u1, u2, u3, u4, v5, v6, v7, v8] := h.set 4 u4
  replace h : Blk ((((((w.setCell ⟨B, 0, none⟩ (u0)).setCell ⟨B, 1, none⟩ (u1)).setCell ⟨B, 2, none⟩ (u2)).setCell ⟨B, 3, none⟩ (u3)).setCell ⟨B, 4, none⟩ (u4)).setCell ⟨B, 5, none⟩ (u5)) B T #[u0, u1, u2, u3, u4, u5, v6, v7, v8] := h.set 5 u5
  replace h : Blk (((((((w.setCell ⟨B, 0, none⟩ (u0)).setCell ⟨B, 1, none⟩ (u1)).setCell ⟨B, 2, none⟩ (u2)).setCell ⟨B, 3, none⟩ (u3)).setCell ⟨B, 4, none⟩ (u4)).setCell ⟨B, 5, none⟩ (u5)).setCell ⟨B, 6, none⟩ (u6)) B T #[u0, u1, u2, u3, u4, u5, u6, v7, v8] := h.set 6 u6
  replace h : Blk ((((((((w.setCell ⟨B, 0, none⟩ (u0)).setCell ⟨B, 1, none⟩ (u1)).setCell ⟨B, 2, none⟩ (u2)).setCell ⟨B, 3, none⟩ (u3)).setCell ⟨B, 4, none⟩ (u4)).setCell ⟨B, 5, none⟩ (u5)).setCell ⟨B, 6, none⟩ (u6)).setCell ⟨B, 7, none⟩ (u7)) B T #[u0, u1, u2, u3, u4, u5, u6, u7, v8] := h.set 7 u7
  replace h : Blk (((((((((w.setCell ⟨B, 0, none⟩ (u0)).setCell ⟨B, 1, none⟩ (u1)).setCell ⟨B, 2, none⟩ (u2)).setCell ⟨B, 3, none⟩ (u3)).setCell ⟨B, 4, none⟩ (u4)).setCell ⟨B, 5, none⟩ (u5)).setCell ⟨B, 6, none⟩ (u6)).setCell ⟨B, 7, none⟩ (u7)).setCell ⟨B, 8, none⟩ (u8)) B T #[u0, u1, u2, u3, u4, u5, u6, u7, u8] := h.set 8 u8
  exact h
theorem Blk.other9 {w : World} {B : Nat} {T : TypeId} {cs : Array Value} (h : Blk w B T cs) {C : Nat} (hC : B ≠ C) (u0 u1 u2 u3 u4 u5 u6 u7 u8 : Value) : Blk ((((((((((w.setCell ⟨C, 0, none⟩ (u0)).setCell ⟨C, 1, none⟩ (u1)).setCell ⟨C, 2, none⟩ (u2)).setCell ⟨C, 3, none⟩ (u3)).setCell ⟨C, 4, none⟩ (u4)).setCell ⟨C, 5, none⟩ (u5)).setCell ⟨C, 6, none⟩ (u6)).setCell ⟨C, 7, none⟩ (u7)).setCell ⟨C, 8, none⟩ (u8))) B T cs :=
  (((((((((h.setOther hC 0 u0).setOther hC 1 u1).setOther hC 2 u2).setOther hC 3 u3).setOther hC 4 u4).setOther hC 5 u5).setOther hC 6 u6).setOther hC 7 u7).setOther hC 8 u8)
theorem keeps_set9 {w W : World} (h : Keeps w W) {B : Nat} (hB : w.heap.size ≤ B) (u0 u1 u2 u3 u4 u5 u6 u7 u8 : Value) : Keeps w ((((((((((W.setCell ⟨B, 0, none⟩ (u0)).setCell ⟨B, 1, none⟩ (u1)).setCell ⟨B, 2, none⟩ (u2)).setCell ⟨B, 3, none⟩ (u3)).setCell ⟨B, 4, none⟩ (u4)).setCell ⟨B, 5, none⟩ (u5)).setCell ⟨B, 6, none⟩ (u6)).setCell ⟨B, 7, none⟩ (u7)).setCell ⟨B, 8, none⟩ (u8))) :=
  (keeps_set (keeps_set (keeps_set (keeps_set (keeps_set (keeps_set (keeps_set (keeps_set (keeps_set h hB 0 u0) hB 1 u1) hB 2 u2) hB 3 u3) hB 4 u4) hB 5 u5) hB 6 u6) hB 7 u7) hB 8 u8)
theorem own_oth9 {e : TypeId} {sz : Nat} {w0 w : World} {v : Value} {n : Nat} {xs : List Value} (h : Own e sz w0 w v n xs) {B : Nat} {T : TypeId} {cs : Array Value} (hB : Blk w B T cs) (hT : T ≠ e) (hle : w0.heap.size ≤ B) (i : Nat) (u : Value) : Own e sz w0 (w.setCell ⟨B, i, none⟩ u) v n xs := by
  obtain ⟨⟨h1, h2⟩, hk⟩ := h
  refine ⟨⟨h1, ?_⟩, keeps_set hk hle i u⟩
  rcases h2 with ⟨a, b⟩ | ⟨g, cap, cur, hv, hg, hh, r⟩
  · exact Or.inl ⟨a, b⟩
  · refine Or.inr ⟨g, cap, cur, hv, hg, ?_, r⟩
    have hne : g ≠ B := by
      rintro rfl
      unfold Blk at hB
      rw [hB] at hh
      injection hh with hh
      injection hh with _ hh2
      exact hT hh2
    rw [Below.heap_setCell _ _ _ _ (by simpa using hne)]; exact hh
theorem own_other9 {e : TypeId} {sz : Nat} {w0 w : World} {v : Value} {n : Nat} {xs : List Value} (h : Own e sz w0 w v n xs) {B : Nat} {T : TypeId} {cs : Array Value} (hB : Blk w B T cs) (hT : T ≠ e) (hle : w0.heap.size ≤ B) (u0 u1 u2 u3 u4 u5 u6 u7 u8 : Value) : Own e sz w0 ((((((((((w.setCell ⟨B, 0, none⟩ (u0)).setCell ⟨B, 1, none⟩ (u1)).setCell ⟨B, 2, none⟩ (u2)).setCell ⟨B, 3, none⟩ (u3)).setCell ⟨B, 4, none⟩ (u4)).setCell ⟨B, 5, none⟩ (u5)).setCell ⟨B, 6, none⟩ (u6)).setCell ⟨B, 7, none⟩ (u7)).setCell ⟨B, 8, none⟩ (u8))) v n xs := by
  replace h := own_oth9 h hB hT hle 0 u0; replace hB := hB.set 0 u0
  replace h := own_oth9 h hB hT hle 1 u1; replace hB := hB.set 1 u1
  replace h := own_oth9 h hB hT hle 2 u2; replace hB := hB.set 2 u2
  replace h := own_oth9 h hB hT hle 3 u3; replace hB := hB.set 3 u3
  replace h := own_oth9 h hB hT hle 4 u4; replace hB := hB.set 4 u4
  replace h := own_oth9 h hB hT hle 5 u5; replace hB := hB.set 5 u5
  replace h := own_oth9 h hB hT hle 6 u6; replace hB := hB.set 6 u6
  replace h := own_oth9 h hB hT hle 7 u7; replace hB := hB.set 7 u7
  replace h := own_oth9 h hB hT hle 8 u8; replace hB := hB.set 8 u8
  exact h
theorem resNode {fn : Func} {p u : Tmp} (h : fn.results = #[.cell p 46, .tmp u]) {tmps : Array Value} {W : World} {B : Nat} {z : NA} {v : Value}
    (hB : Blk W B 46 #[.int .i64 z.x.id, .string z.x.echoed, .bool z.x.hasE, .string z.x.readied, .bool z.x.hasR, .string z.x.delivered, .bool z.x.hasD, .slice z.ae z.x.echoes.length z.ce, .slice z.ar z.x.readies.length z.cr]) (tp : tmps.getD p undef = .pointer (some ⟨B, 0, none⟩)) (tu : tmps.getD u undef = v) :
    (results fn tmps).run Tryd.prog W = .ok (.tuple #[vn z, v]) W := by
  rw [results_cell_tmp h, tp, tu]
  obtain ⟨k0, k1, k2, k3, k4, k5, k6, k7, k8⟩ := hB.c9
  simp [go_sem, vn, asAddr, loadVar, loadCells, loadCellsFrom, k0, k1, k2, k3, k4, k5, k6, k7, k8]
set_option maxRecDepth 20000 in
set_option maxHeartbeats 4000000 in
theorem ready9_any (x : NA) (v : Str) (w : World) :
    Calls Tryd.prog 107 #[vn x, .string v] w fun e w' => ∃ u, e = .returned (.tuple #[vn ⟨{ x.x with hasR := true, readied := v }, x.ae, x.ce, x.ar, x.cr⟩, u]) ∧ Own 53 4 w w' u 1 (cl [⟨3, x.x.id, -1, v⟩]) := by
  have hs : ∀ o, (w.alloc o).heap.size = w.heap.size + 1 := fun o => World.size_alloc ..
  have b2 := Blk.new w 46 #[.int .i64 x.x.id, .string x.x.echoed, .bool x.x.hasE, .string v, .bool true, .string x.x.delivered, .bool x.x.hasD, .slice x.ae x.x.echoes.length x.ce, .slice x.ar x.x.readies.length x.cr]
  have b4 := Blk.new (w.alloc (.cells #[.int .i64 x.x.id, .string x.x.echoed, .bool x.x.hasE, .string v, .bool true, .string x.x.delivered, .bool x.x.hasD, .slice x.ae x.x.echoes.length x.ce, .slice x.ar x.x.readies.length x.cr] 46)) 46 #[.int .i64 0, .string ⟨#[]⟩, .bool false, .string ⟨#[]⟩, .bool false, .string ⟨#[]⟩, .bool false, .slice none 0 0, .slice none 0 0]
  have K0 := (Keeps.refl w).alloc (.cells #[.int .i64 x.x.id, .string x.x.echoed, .bool x.x.hasE, .string v, .bool true, .string x.x.delivered, .bool x.x.hasD, .slice x.ae x.x.echoes.length x.ce, .slice x.ar x.x.readies.length x.cr] 46)
  have KZ := (Keeps.refl (w.alloc (.cells #[.int .i64 x.x.id, .string x.x.echoed, .bool x.x.hasE, .string v, .bool true, .string x.x.delivered, .bool x.x.hasD, .slice x.ae x.x.echoes.length x.ce, .slice x.ar x.x.readies.length x.cr] 46))).alloc (.cells #[.int .i64 0, .string ⟨#[]⟩, .bool false, .string ⟨#[]⟩, .bool false, .string ⟨#[]⟩, .bool false, .slice none 0 0, .slice none 0 0] 46)
  have hB := Nat.le_refl (w.alloc (.cells #[.int .i64 x.x.id, .string x.x.echoed, .bool x.x.hasE, .string v, .bool true, .string x.x.delivered, .bool x.x.hasD, .slice x.ae x.x.echoes.length x.ce, .slice x.ar x.x.readies.length x.cr] 46)).heap.size
  have HS := Lib.hid (hs (.cells #[.int .i64 x.x.id, .string x.x.echoed, .bool x.x.hasE, .string v, .bool true, .string x.x.delivered, .bool x.x.hasD, .slice x.ae x.x.echoes.length x.ce, .slice x.ar x.x.readies.length x.cr] 46)); clear hs
  have HB2 := Lib.hid b2; have HB4 := Lib.hid b4; have HK0 := Lib.hid K0; have HKZ := Lib.hid KZ; have HLE := Lib.hid hB
  clear b2 b4 K0 KZ hB
  unfold vn
  go_enter Tryd.func107, Tryd.ntmps107
  obtain ⟨c0, c1, c2, c3, c4, c5, c6, c7, c8⟩ := (Blk.new w 46 #[.int .i64 x.x.id, .string x.x.echoed, .bool x.x.hasE, .string x.x.readied, .bool x.x.hasR, .string x.x.delivered, .bool x.x.hasD, .slice x.ae x.x.echoes.length x.ce, .slice x.ar x.x.readies.length x.cr]).c9
  go_wp2_with fail
  clear c0 c1 c2 c3 c4 c5 c6 c7 c8
  rw [← HS.out]
  generalize w.alloc (.cells #[.int .i64 x.x.id, .string x.x.echoed, .bool x.x.hasE, .string v, .bool true, .string x.x.delivered, .bool x.x.hasD, .slice x.ae x.x.echoes.length x.ce, .slice x.ar x.x.readies.length x.cr] 46) = wA at *
  generalize wA.alloc (.cells #[.int .i64 0, .string ⟨#[]⟩, .bool false, .string ⟨#[]⟩, .bool false, .string ⟨#[]⟩, .bool false, .slice none 0 0, .slice none 0 0] 46) = W2 at *
  obtain ⟨B4, hB4⟩ : ∃ B, B = wA.heap.size := ⟨_, rfl⟩
  rw [← hB4] at HB4 HS ⊢
  have HLE2 : Hid (wA.heap.size ≤ B4) := Lib.hid (Nat.le_of_eq hB4.symm)
  clear hB4 HLE
  go_cut [5] from 6 (fun s5 wx => Hid (Blk wx B4 46 #[.int .i64 x.x.id, .string x.x.echoed, .bool x.x.hasE, .string v, .bool true, .string x.x.delivered, .bool x.x.hasD, .slice x.ae x.x.echoes.length x.ce, .slice x.ar x.x.readies.length x.cr]) ∧ Own 53 4 w wx s5 1 (cl [⟨3, x.x.id, -1, v⟩]))
  case first =>
    have J : Keeps wA W2.drew := HKZ.out.drew
    have hn4 := HB4.out.keep (Keeps.refl W2).drew
    refine wp_region_held_drew (S := (fun w' => w'.cell? ⟨w.heap.size, 0, none⟩ = some (.int .i64 x.x.id) ∧ w'.cell? ⟨w.heap.size, 1, none⟩ = some (.string x.x.echoed) ∧ w'.cell? ⟨w.heap.size, 2, none⟩ = some (.bool x.x.hasE) ∧ w'.cell? ⟨w.heap.size, 3, none⟩ = some (.string v) ∧ w'.cell? ⟨w.heap.size, 4, none⟩ = some (.bool true) ∧ w'.cell? ⟨w.heap.size, 5, none⟩ = some (.string x.x.delivered) ∧ w'.cell? ⟨w.heap.size, 6, none⟩ = some (.bool x.x.hasD) ∧ w'.cell? ⟨w.heap.size, 7, none⟩ = some (.slice x.ae x.x.echoes.length x.ce) ∧ w'.cell? ⟨w.heap.size, 8, none⟩ = some (.slice x.ar x.x.readies.length x.cr))) (by kernel_rfl) ?_ (fun hHeld => ?_)
    · exact (HB2.out.keep J).c9
    generalize W2.drew = V0 at *
    refine wpAnyH_take (i := 0) (oi := ⟨_, _, _, _, _, _⟩) (v := ?_) rfl (by kernel_rfl) (by kernel_rfl) (by kernel_rfl) (fun _ _ _ h => h) (Or.inl ⟨by rfl, ?_⟩) (by assumption) ?_
    rotate_left 1
    · intro w hSw; (try dsimp only at hSw); go_simp <;> with_reducible rfl
    (try simp only [Act.put]); (try simp only [List.setIfInBounds_toArray]); (try simp only [List.set_cons_succ]); (try simp only [List.set_cons_zero])
    refine wpAnyH_take (i := 1) (oi := ⟨_, _, _, _, _, _⟩) (v := ?_) rfl (by kernel_rfl) (by kernel_rfl) (by kernel_rfl) (fun _ _ _ h => h) (Or.inl ⟨by rfl, ?_⟩) (by assumption) ?_
    rotate_left 1
    · intro w hSw; (try dsimp only at hSw); go_simp <;> with_reducible rfl
    (try simp only [Act.put]); (try simp only [List.setIfInBounds_toArray]); (try simp only [List.set_cons_succ]); (try simp only [List.set_cons_zero])
    refine wpAnyH_take (i := 2) (oi := ⟨_, _, _, _, _, _⟩) (v := ?_) rfl (by kernel_rfl) (by kernel_rfl) (by kernel_rfl) (fun _ _ _ h => h) (Or.inl ⟨by rfl, ?_⟩) (by assumption) ?_
    rotate_left 1
    · intro w hSw; (try dsimp only at hSw); go_simp <;> with_reducible rfl
    (try simp only [Act.put]); (try simp only [List.setIfInBounds_toArray]); (try simp only [List.set_cons_succ]); (try simp only [List.set_cons_zero])
    refine wpAnyH_take (i := 3) (oi := ⟨_, _, _, _, _, _⟩) (v := ?_) rfl (by kernel_rfl) (by kernel_rfl) (by kernel_rfl) (fun _ _ _ h => h) (Or.inl ⟨by rfl, ?_⟩) (by assumption) ?_
    rotate_left 1
    · intro w hSw; (try dsimp only at hSw); go_simp <;> with_reducible rfl
    (try simp only [Act.put]); (try simp only [List.setIfInBounds_toArray]); (try simp only [List.set_cons_succ]); (try simp only [List.set_cons_zero])
    refine wpAnyH_take (i := 4) (oi := ⟨_, _, _, _, _, _⟩) (v := ?_) rfl (by kernel_rfl) (by kernel_rfl) (by kernel_rfl) (fun _ _ _ h => h) (Or.inl ⟨by rfl, ?_⟩) (by assumption) ?_
    rotate_left 1
    · intro w hSw; (try dsimp only at hSw); go_simp <;> with_reducible rfl
    (try simp only [Act.put]); (try simp only [List.setIfInBounds_toArray]); (try simp only [List.set_cons_succ]); (try simp only [List.set_cons_zero])
    refine wpAnyH_ready (rs := [5, 6]) (by kernel_rfl) (by simp) ?_
    refine AllReadyH.cons (o := ⟨_, _, _, _, _, _⟩) rfl (fun K hK => ?_) (AllReadyH.cons (o := ⟨_, _, _, _, _, _⟩) rfl (fun K hK => ?_) AllReadyH.nil)
    · go_simp
      have hO := Own.made (e := 53) (sz := 4) (HK0.out.trans J) [.int .i64 3, .int .i64 x.x.id, .int .i64 (-1), .string v] 1 (by decide) rfl
      have KA := (Keeps.refl V0).alloc (.cells #[.int .i64 3, .int .i64 x.x.id, .int .i64 (-1), .string v] 53)
      replace hn4 := hn4.keep KA
      replace J := J.trans KA
      clear KA
      generalize V0.alloc (.cells #[.int .i64 3, .int .i64 x.x.id, .int .i64 (-1), .string v] 53) = V1 at *
      generalize V0.heap.size = BS at *
      refine hK.out _ _ ?_ (fun hHeld => ?_)
      · exact (HB2.out.keep J).c9
      clear hK K
      (try simp only [Act.put]); (try simp only [List.setIfInBounds_toArray]); (try simp only [List.set_cons_succ]); (try simp only [List.set_cons_zero])
      refine wpAnyH_ready (rs := [6]) (by kernel_rfl) (by simp) ?_
      refine AllReadyH.cons (o := ⟨_, _, _, _, _, _⟩) rfl (fun K hK => ?_) AllReadyH.nil
      obtain ⟨c0, c1, c2, c3, c4, c5, c6, c7, c8⟩ := hn4.c9
      obtain ⟨g0, g1, g2, g3, g4, g5, g6, g7, g8⟩ := hn4.f9
      go_simp
      clear c0 c1 c2 c3 c4 c5 c6 c7 c8 g0 g1 g2 g3 g4 g5 g6 g7 g8
      replace hO := own_other9 hO hn4 (by decide) (by have := HS.out; omega) (.int .i64 x.x.id) (.string x.x.echoed) (.bool x.x.hasE) (.string v) (.bool true) (.string x.x.delivered) (.bool x.x.hasD) (.slice x.ae x.x.echoes.length x.ce) (.slice x.ar x.x.readies.length x.cr)
      replace hn4 := hn4.set9 (.int .i64 x.x.id) (.string x.x.echoed) (.bool x.x.hasE) (.string v) (.bool true) (.string x.x.delivered) (.bool x.x.hasD) (.slice x.ae x.x.echoes.length x.ce) (.slice x.ar x.x.readies.length x.cr)
      replace J := keeps_set9 J HLE2.out (.int .i64 x.x.id) (.string x.x.echoed) (.bool x.x.hasE) (.string v) (.bool true) (.string x.x.delivered) (.bool x.x.hasD) (.slice x.ae x.x.echoes.length x.ce) (.slice x.ar x.x.readies.length x.cr)
      generalize (((((((((V1.setCell ⟨B4, 0, none⟩ (.int .i64 x.x.id)).setCell ⟨B4, 1, none⟩ (.string x.x.echoed)).setCell ⟨B4, 2, none⟩ (.bool x.x.hasE)).setCell ⟨B4, 3, none⟩ (.string v)).setCell ⟨B4, 4, none⟩ (.bool true)).setCell ⟨B4, 5, none⟩ (.string x.x.delivered)).setCell ⟨B4, 6, none⟩ (.bool x.x.hasD)).setCell ⟨B4, 7, none⟩ (.slice x.ae x.x.echoes.length x.ce)).setCell ⟨B4, 8, none⟩ (.slice x.ar x.x.readies.length x.cr)) = V2 at *
      refine hK.out _ _ ?_ (fun hHeld => ?_)
      · exact (HB2.out.keep J).c9
      clear hK K
      (try simp only [Act.put]); (try simp only [List.setIfInBounds_toArray]); (try simp only [List.set_cons_succ]); (try simp only [List.set_cons_zero])
      refine wpAnyH_take (i := 7) (oi := ⟨_, _, _, _, _, _⟩) (v := ?_) rfl (by kernel_rfl) (by kernel_rfl) (by kernel_rfl) (fun _ _ _ h => h) (Or.inl ⟨by rfl, ?_⟩) (by assumption) ?_
      rotate_left 1
      · intro w hSw; (try dsimp only at hSw); go_simp <;> with_reducible rfl
      (try simp only [Act.put]); (try simp only [List.setIfInBounds_toArray]); (try simp only [List.set_cons_succ]); (try simp only [List.set_cons_zero])
      refine wpAnyH_done (by kernel_rfl) ?_ _
      go_wp2_with fail
      go_meet
      case rel => exact ⟨Lib.hid hn4, hO⟩
    · obtain ⟨c0, c1, c2, c3, c4, c5, c6, c7, c8⟩ := hn4.c9
      obtain ⟨g0, g1, g2, g3, g4, g5, g6, g7, g8⟩ := hn4.f9
      go_simp
      clear c0 c1 c2 c3 c4 c5 c6 c7 c8 g0 g1 g2 g3 g4 g5 g6 g7 g8
      replace hn4 := hn4.set9 (.int .i64 x.x.id) (.string x.x.echoed) (.bool x.x.hasE) (.string v) (.bool true) (.string x.x.delivered) (.bool x.x.hasD) (.slice x.ae x.x.echoes.length x.ce) (.slice x.ar x.x.readies.length x.cr)
      replace J := keeps_set9 J HLE2.out (.int .i64 x.x.id) (.string x.x.echoed) (.bool x.x.hasE) (.string v) (.bool true) (.string x.x.delivered) (.bool x.x.hasD) (.slice x.ae x.x.echoes.length x.ce) (.slice x.ar x.x.readies.length x.cr)
      generalize (((((((((V0.setCell ⟨B4, 0, none⟩ (.int .i64 x.x.id)).setCell ⟨B4, 1, none⟩ (.string x.x.echoed)).setCell ⟨B4, 2, none⟩ (.bool x.x.hasE)).setCell ⟨B4, 3, none⟩ (.string v)).setCell ⟨B4, 4, none⟩ (.bool true)).setCell ⟨B4, 5, none⟩ (.string x.x.delivered)).setCell ⟨B4, 6, none⟩ (.bool x.x.hasD)).setCell ⟨B4, 7, none⟩ (.slice x.ae x.x.echoes.length x.ce)).setCell ⟨B4, 8, none⟩ (.slice x.ar x.x.readies.length x.cr)) = V1 at *
      refine hK.out _ _ ?_ (fun hHeld => ?_)
      · exact (HB2.out.keep J).c9
      clear hK K
      (try simp only [Act.put]); (try simp only [List.setIfInBounds_toArray]); (try simp only [List.set_cons_succ]); (try simp only [List.set_cons_zero])
      refine wpAnyH_ready (rs := [5]) (by kernel_rfl) (by simp) ?_
      refine AllReadyH.cons (o := ⟨_, _, _, _, _, _⟩) rfl (fun K hK => ?_) AllReadyH.nil
      go_simp
      have hO := Own.made (e := 53) (sz := 4) (HK0.out.trans J) [.int .i64 3, .int .i64 x.x.id, .int .i64 (-1), .string v] 1 (by decide) rfl
      have KA := (Keeps.refl V1).alloc (.cells #[.int .i64 3, .int .i64 x.x.id, .int .i64 (-1), .string v] 53)
      replace hn4 := hn4.keep KA
      replace J := J.trans KA
      clear KA
      generalize V1.alloc (.cells #[.int .i64 3, .int .i64 x.x.id, .int .i64 (-1), .string v] 53) = V2 at *
      generalize V1.heap.size = BS at *
      refine hK.out _ _ ?_ (fun hHeld => ?_)
      · exact (HB2.out.keep J).c9
      clear hK K
      (try simp only [Act.put]); (try simp only [List.setIfInBounds_toArray]); (try simp only [List.set_cons_succ]); (try simp only [List.set_cons_zero])
      refine wpAnyH_take (i := 7) (oi := ⟨_, _, _, _, _, _⟩) (v := ?_) rfl (by kernel_rfl) (by kernel_rfl) (by kernel_rfl) (fun _ _ _ h => h) (Or.inl ⟨by rfl, ?_⟩) (by assumption) ?_
      rotate_left 1
      · intro w hSw; (try dsimp only at hSw); go_simp <;> with_reducible rfl
      (try simp only [Act.put]); (try simp only [List.setIfInBounds_toArray]); (try simp only [List.set_cons_succ]); (try simp only [List.set_cons_zero])
      refine wpAnyH_done (by kernel_rfl) ?_ _
      go_wp2_with fail
      go_meet
      case rel => exact ⟨Lib.hid hn4, hO⟩
  case rest =>
    obtain ⟨HN, hO⟩ := hcut
    go_wp2_with fail
    refine bodyPost_ret (resNode (z := ⟨{ x.x with hasR := true, readied := v }, x.ae, x.ce, x.ar, x.cr⟩) rfl HN.out rfl rfl) rfl ?_
    exact ⟨_, rfl, hO⟩
end Go.Proofs.YtbcfkgolhklkaaaDoor
namespace Go.Proofs.YtbcfkgolhklkaaaDoor
open Go.RowKit Go.Lib Go.Shelf

theorem Blk.c7 {w : World} {B : Nat} {T : TypeId} {v0 v1 v2 v3 v4 v5 v6 : Value} (h : Blk w B T #[v0, v1, v2, v3, v4, v5, v6]) : w.cell? ⟨B, 0, none⟩ = some v0 ∧ w.cell? ⟨B, 1, none⟩ = some v1 ∧ w.cell? ⟨B, 2, none⟩ = some v2 ∧ w.cell? ⟨B, 3, none⟩ = some v3 ∧ w.cell? ⟨B, 4, none⟩ = some v4 ∧ w.cell? ⟨B, 5, none⟩ = some v5 ∧ w.cell? ⟨B, 6, none⟩ = some v6 :=
  ⟨h.cell 0 rfl, h.cell 1 rfl, h.cell 2 rfl, h.cell 3 rfl, h.cell 4 rfl, h.cell 5 rfl, h.cell 6 rfl⟩
/-- correct as the program computes it -/
def corrI (n : Nat) (byz : S) (i : Int) : Bool := decide (0 ≤ i) && corr n byz i.toNat
theorem bit0_S (s : S) (i : Nat) : (s >>> i &&& 1#16 == 0#16) = !s.getLsbD i := by
  show _ = !s.toNat.testBit i
  rw [← hbT s i]
  cases h : (s >>> i &&& 1#16 == 1#16) with
  | true =>
    have := beq_iff_eq.1 h
    rw [this]; rfl
  | false =>
    have h1 := beq_eq_false_iff_ne.1 h
    have : s >>> i &&& 1#16 = 0#16 := by
      apply BitVec.eq_of_getLsbD_eq
      intro j hj
      by_cases h0 : j = 0
      · subst h0
        cases hb : (s >>> i &&& 1#16).getLsbD 0 with
        | false => simp
        | true =>
          exfalso
          apply h1
          apply BitVec.eq_of_getLsbD_eq
          intro k hk
          by_cases hk0 : k = 0
          · subst hk0; rw [hb]; rfl
          · simp [BitVec.getLsbD_one, hk0]
      · simp [BitVec.getLsbD_one, h0]
    rw [this]; rfl
set_option maxHeartbeats 1000000 in
theorem correct39_any (n : Nat) (hn : n ≤ 16) (byz : S) (i : Int) (B : Nat) (fv bv sv' nv gv : Value) (w : World) (hB : Blk w B 76 #[fv, bv, .int .i64 n, .int .u16 (sv byz), sv', nv, gv]) :
    Calls Tryd.prog 41 #[.pointer (some ⟨B, 0, none⟩), .int .i64 i] w fun e w' => e = .returned (.bool (corrI n byz i)) ∧ w = w' := by
  obtain ⟨c0, c1, c2, c3, c4, c5, c6⟩ := hB.c7
  clear c0 c1 c4 c5 c6
  by_cases h0 : 0 ≤ i
  · obtain ⟨k, rfl⟩ : ∃ k : Nat, i = (k : Int) := ⟨i.toNat, by omega⟩
    by_cases h1 : k < n
    · have e1 : corrI n byz (k : Int) = (byz >>> k &&& 1#16 == 0#16) := by
        unfold corrI corr
        rw [bit0_S, Int.toNat_natCast]
        simp [h0, h1]
      rw [e1]
      have hmin : min k 16 = k := by omega
      go_enter Tryd.func41, Tryd.ntmps41
      go_wp2_with fail
      go_ret
      exact ⟨rfl, rfl⟩
    · have e1 : corrI n byz (k : Int) = false := by
        unfold corrI corr
        rw [Int.toNat_natCast]
        simp [h1]
      rw [e1]
      go_enter Tryd.func41, Tryd.ntmps41
      go_wp2_with fail
      go_ret
      exact ⟨by simp, rfl⟩
  · have e1 : corrI n byz i = false := by
      unfold corrI
      simp [h0]
    rw [e1]
    go_enter Tryd.func41, Tryd.ntmps41
    go_wp2_with fail
    go_ret
    exact ⟨by simp, rfl⟩
end Go.Proofs.YtbcfkgolhklkaaaDoor
