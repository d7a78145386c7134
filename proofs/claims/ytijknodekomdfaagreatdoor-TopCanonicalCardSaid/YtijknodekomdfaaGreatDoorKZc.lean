/- Texts joined into one (wip/bin/pack.py): JFlt2. -/
import Derived.Test.YtijknodekomdfaaGreatDoorKZb
/- joint.Faults. -/
namespace Go.Proofs.YtijknodekomdfaaGreatDoor
open Go.RowKit Go.Lib Go.Shelf

theorem box2 (w : World) (x y : CA) :
    Blk ((w.alloc (.cells #[.string x.c.nm, .int .i64 x.c.kd, .int .u16 (sv x.c.M), .slice x.ar x.c.R.length x.cr, .slice x.aw x.c.Q.length x.cw, .slice x.af x.c.F.length x.cf] 36)).alloc (.cells #[.string y.c.nm, .int .i64 y.c.kd, .int .u16 (sv y.c.M), .slice y.ar y.c.R.length y.cr, .slice y.aw y.c.Q.length y.cw, .slice y.af y.c.F.length y.cf] 36)) w.heap.size 36 #[.string x.c.nm, .int .i64 x.c.kd, .int .u16 (sv x.c.M), .slice x.ar x.c.R.length x.cr, .slice x.aw x.c.Q.length x.cw, .slice x.af x.c.F.length x.cf] ∧
    Blk ((w.alloc (.cells #[.string x.c.nm, .int .i64 x.c.kd, .int .u16 (sv x.c.M), .slice x.ar x.c.R.length x.cr, .slice x.aw x.c.Q.length x.cw, .slice x.af x.c.F.length x.cf] 36)).alloc (.cells #[.string y.c.nm, .int .i64 y.c.kd, .int .u16 (sv y.c.M), .slice y.ar y.c.R.length y.cr, .slice y.aw y.c.Q.length y.cw, .slice y.af y.c.F.length y.cf] 36)) (w.heap.size + 1) 36 #[.string y.c.nm, .int .i64 y.c.kd, .int .u16 (sv y.c.M), .slice y.ar y.c.R.length y.cr, .slice y.aw y.c.Q.length y.cw, .slice y.af y.c.F.length y.cf] := by
  have hs : ∀ o, (w.alloc o).heap.size = w.heap.size + 1 := fun o => World.size_alloc ..
  constructor
  · exact (Blk.new ..).keep ((Keeps.refl _).alloc _)
  · rw [← hs (.cells #[.string x.c.nm, .int .i64 x.c.kd, .int .u16 (sv x.c.M), .slice x.ar x.c.R.length x.cr, .slice x.aw x.c.Q.length x.cw, .slice x.af x.c.F.length x.cf] 36)]
    exact Blk.new ..
theorem vld2 (x y : CA) : vldL [x, y] = if cvf x.c ≠ 0 then cvf x.c else if cvf y.c ≠ 0 then cvf y.c else 0 := rfl
theorem jn_snoc (a b : Cf) (i : Nat) (h : i < a.F.length) : (a.F.take (i + 1)).flatMap (fun x => b.F.map (jnF a b x)) = (a.F.take i).flatMap (fun x => b.F.map (jnF a b x)) ++ b.F.map (jnF a b (fa a.F i)) := by
  rw [take_fa a.F i h, List.flatMap_append]; simp
set_option maxRecDepth 20000 in
set_option maxHeartbeats 6000000 in
theorem jfaults_any (x y : CA) (w : World) (hx : RdG w x) (hy : RdG w y) :
    Calls Tryz.prog 66 #[vg x, vg y] w fun e w' => ∃ v, e = .returned (.tuple #[v, .int .i64 (jfltE x.c y.c)]) ∧ Own 34 2 w w' v (jfltL x.c y.c).length (fl (jfltL x.c y.c)) := by
  obtain ⟨hbx, hby⟩ := box2 w x y
  have K2 := ((Keeps.refl w).alloc (.cells #[.string x.c.nm, .int .i64 x.c.kd, .int .u16 (sv x.c.M), .slice x.ar x.c.R.length x.cr, .slice x.aw x.c.Q.length x.cw, .slice x.af x.c.F.length x.cf] 36)).alloc (.cells #[.string y.c.nm, .int .i64 y.c.kd, .int .u16 (sv y.c.M), .slice y.ar y.c.R.length y.cr, .slice y.aw y.c.Q.length y.cw, .slice y.af y.c.F.length y.cf] 36)
  have hv := fun W (k : Keeps w W) => jvalid_any (some ⟨W.heap.size, 0, none⟩) 2 2 [x, y] (W.alloc (.cells (gl [x, y]).toArray 36)) (rd_new 36 6 W (gl [x, y]) 2 (by decide) rfl) (fun z hz => by
    have k2 := k.alloc (.cells (gl [x, y]).toArray 36)
    rcases List.mem_cons.1 hz with rfl | hz
    · exact hx.keep k2
    · rw [List.mem_singleton] at hz; subst hz; exact hy.keep k2)
  have hv2 := hv _ K2
  have hs1 : ∀ o1 o2, ((w.alloc o1).alloc o2).heap.size = w.heap.size + 1 + 1 := fun o1 o2 => by rw [World.size_alloc, World.size_alloc]
  rw [hs1] at hv2
  obtain ⟨c0, c1, c2, c3, c4, c5⟩ := hbx.c6
  obtain ⟨d0, d1, d2, d3, d4, d5⟩ := hby.c6
  rw [vld2] at hv2
  unfold vg
  by_cases h1 : cvf x.c = 0
  · rw [if_neg (by simp [h1])] at hv2
    by_cases h2 : cvf y.c = 0
    · rw [if_neg (by simp [h2])] at hv2
      have f1 := (cv_parts (cvf_cv h1).2).2.2.2.2
      have f2 := (cv_parts (cvf_cv h2).2).2.2.2.2
      have l1 := fv_len f1
      have l2 := fv_len f2
      have hjl := jn_len x.c y.c
      have hjm : (jnL x.c y.c).length ≤ 10000 := by rw [hjl]; exact Nat.le_trans (Nat.mul_le_mul l1 l2) (by decide)
      have e1 : jfltE x.c y.c = nmzE (jnL x.c y.c) := by unfold jfltE; rw [if_neg (by simp [h1]), if_neg (by simp [h2])]
      have e2 : jfltL x.c y.c = nmzL (jnL x.c y.c) := by
        unfold jfltL nmzL
        rw [e1]
        by_cases h0 : nmzE (jnL x.c y.c) = 0
        · rw [if_neg (by simp [h0])]
        · rw [if_pos h0, if_pos h0]
      rw [e1, e2]
      have hnz := fun A C W (hR : Rd W A (jnL x.c y.c).length C 2 (fl (jnL x.c y.c))) => normalize_any A C (jnL x.c y.c) W hR (by omega)
      have hlen : ∀ i k, i < x.c.F.length → k ≤ y.c.F.length → ((x.c.F.take i).flatMap (fun u => y.c.F.map (jnF x.c y.c u)) ++ (y.c.F.take k).map (jnF x.c y.c (fa x.c.F i))).length + 1 ≤ 30000 := fun i k hi hk => by
        rw [List.length_append, flatMap_count _ _ y.c.F.length (fun _ => List.length_map ..), List.length_map, List.length_take, List.length_take]
        have : min i x.c.F.length * y.c.F.length ≤ 100 * 100 := Nat.mul_le_mul (by omega) l2
        omega
      have hjf : jnL x.c y.c = (x.c.F.take x.c.F.length).flatMap (fun u => y.c.F.map (jnF x.c y.c u)) := by rw [List.take_length]; rfl
      have hsn := jn_snoc x.c y.c
      have sx := hx.f.small; have sy := hy.f.small
      have HV := Lib.hid hv2; have HNZ := Lib.hid hnz; have HLE := Lib.hid hlen; have HJF := Lib.hid hjf; have HSN := Lib.hid hsn
      have HXF := Lib.hid hx.f; have HYF := Lib.hid hy.f
      have HBX := Lib.hid hbx; have HBY := Lib.hid hby; have HK2 := Lib.hid K2
      obtain ⟨JL, hJL⟩ : ∃ L, L = jnL x.c y.c := ⟨_, rfl⟩
      rw [← hJL] at HNZ HJF ⊢
      clear hv hv2 hnz hlen hjf hsn hJL hbx hby K2 f1 f2 hjl hjm e1 e2 h1 h2 hx hy
      go_enter Tryz.func66, Tryz.ntmps66
      go_wp2_with fail
      refine HV.out.mono ?_
      rintro e w1 ⟨rfl, K1⟩
      have K3 := (Keeps.refl _).alloc (.cells (gl [x, y]).toArray 36) |>.trans K1
      have bx := HBX.out.keep K3
      have by_ := HBY.out.keep K3
      have KK := HK2.out.trans K3
      have HBX1 := Lib.hid bx; have HBY1 := Lib.hid by_; have HKK := Lib.hid KK
      clear c0 c1 c2 c3 c4 c5 d0 d1 d2 d3 d4 d5 HBX HBY HK2 K1 K3 HV
      obtain ⟨c0, c1, c2, c3, c4, c5⟩ := bx.c6
      obtain ⟨d0, d1, d2, d3, d4, d5⟩ := by_.c6
      clear bx by_ KK
      go_wp2_with fail
      clear c0 c1 c2 c3 c4 c5 d0 d1 d2 d3 d4 d5
      go_loopw [8, 32] (fun u v wr => ∃ i : Nat, i ≤ x.c.F.length ∧ v = .int .i64 i ∧ Own 34 2 w1 wr u ((x.c.F.take i).flatMap (fun u => y.c.F.map (jnF x.c y.c u))).length (fl ((x.c.F.take i).flatMap (fun u => y.c.F.map (jnF x.c y.c u))))) (fun _ v _ => x.c.F.length - (RowKit.intOf v).toNat)
      case atStart => exact ⟨0, Nat.zero_le _, rfl, Own.nil _ _ (Keeps.refl _)⟩
      case round =>
        obtain ⟨i, hi, rfl, hO⟩ := hrel
        obtain ⟨ao, co, rfl, hRo⟩ := hO.rd
        by_cases hlt : i < x.c.F.length
        · have KO := hO.2
          have g0 := (HXF.out.keep (HKK.out.trans KO)).f0 hlt
          have g1 := (HXF.out.keep (HKK.out.trans KO)).f1' hlt
          have hs := HXF.out.isSome (by omega)
          have hle := fun k hk => HLE.out i k hlt hk
          have hsn := HSN.out i hlt
          generalize fa x.c.F i = f at *
          have hal := fun W => allowed_any x f (x.c.M ||| y.c.M) W
          unfold vg at hal
          have hnw : ∀ g : F2, jnF x.c y.c f g = (byJ y.c.kd y.c.M (x.c.M ||| y.c.M) g &&& byJ x.c.kd x.c.M (x.c.M ||| y.c.M) f, (faJ y.c.M (x.c.M ||| y.c.M) g &&& faJ x.c.M (x.c.M ||| y.c.M) f) &&& ~~~(byJ y.c.kd y.c.M (x.c.M ||| y.c.M) g &&& byJ x.c.kd x.c.M (x.c.M ||| y.c.M) f)) := fun g => rfl
          generalize byJ x.c.kd x.c.M (x.c.M ||| y.c.M) f = bqx at *
          generalize faJ x.c.M (x.c.M ||| y.c.M) f = fqx at *
          have HNW := Lib.hid hnw
          clear hnw
          obtain ⟨q0, q1⟩ := newF' f wr
          have KB := (Keeps.refl wr).alloc (.cells #[.int .u16 (sv f.1), .int .u16 (sv f.2)] 34)
          obtain ⟨c0, c1, c2, c3, c4, c5⟩ := (HBX1.out.keep (KO.trans KB)).c6
          generalize (x.c.F.take i).flatMap (fun u => y.c.F.map (jnF x.c y.c u)) = pre at *
          have HO := Lib.hid hO; have HAL := Lib.hid hal; have HLE2 := Lib.hid hle; have HSN2 := Lib.hid hsn
          clear hO hRo hle hsn hal
          have hlt' : (i : Int) < (x.c.F.length : Int) := by omega
          go_wp2_with fail
          refine (HAL.out _).mono ?_
          rintro e w2 ⟨rfl, K5⟩
          clear g0 g1 q0 q1 c0 c1 c2 c3 c4 c5
          have K6 := KB.trans K5
          have HO2 := Lib.hid (HO.out.keep K6)
          obtain ⟨d0, d1, d2, d3, d4, d5⟩ := (HBY1.out.keep (KO.trans K6)).c6
          clear KB K5 HO
          go_wp2_with fail
          clear d0 d1 d2 d3 d4 d5
          go_loopw [8, 46] (fun u v wr => ∃ k : Nat, k ≤ y.c.F.length ∧ v = .int .i64 k ∧ Own 34 2 w1 wr u (pre ++ (y.c.F.take k).map (jnF x.c y.c f)).length (fl (pre ++ (y.c.F.take k).map (jnF x.c y.c f)))) (fun _ v _ => y.c.F.length - (RowKit.intOf v).toNat)
          case atStart => exact ⟨0, Nat.zero_le _, rfl, by rw [List.take_zero, List.map_nil, List.append_nil]; exact HO2.out⟩
          case round =>
            obtain ⟨k, hk, rfl, hO3⟩ := hrel
            obtain ⟨ap, cp, rfl, _⟩ := hO3.rd
            by_cases hltk : k < y.c.F.length
            · have KP := hO3.2
              have g0 := (HYF.out.keep (HKK.out.trans KP)).f0 hltk
              have g1 := (HYF.out.keep (HKK.out.trans KP)).f1' hltk
              have hs2 := HYF.out.isSome (by omega)
              have hle := HLE2.out k hk
              have hst : (y.c.F.take (k + 1)).map (jnF x.c y.c f) = (y.c.F.take k).map (jnF x.c y.c f) ++ [jnF x.c y.c f (fa y.c.F k)] := by rw [take_fa y.c.F k hltk, List.map_append]; rfl
              rw [HNW.out] at hst
              generalize fa y.c.F k = g at *
              have hal := fun W => allowed_any y g (x.c.M ||| y.c.M) W
              unfold vg at hal
              obtain ⟨q0, q1⟩ := newF' g wr
              have KB := (Keeps.refl wr).alloc (.cells #[.int .u16 (sv g.1), .int .u16 (sv g.2)] 34)
              obtain ⟨c0, c1, c2, c3, c4, c5⟩ := (HBY1.out.keep (KP.trans KB)).c6
              generalize hcur : pre ++ (y.c.F.take k).map (jnF x.c y.c f) = cur at hO3 hle ⊢
              have HO3 := Lib.hid hO3; have HAL := Lib.hid hal; have HST := Lib.hid hst; have HLC := Lib.hid hle; have HCU := Lib.hid hcur
              have hltk' : (k : Int) < (y.c.F.length : Int) := by omega
              clear hO3 hal hst hle hcur
              go_wp2_with fail
              refine (HAL.out _).mono ?_
              rintro e w3 ⟨rfl, K5⟩
              clear g0 g1 q0 q1 c0 c1 c2 c3 c4 c5
              have HO4 := Lib.hid (HO3.out.keep (KB.trans K5))
              clear KB K5 HO3
              generalize byJ y.c.kd y.c.M (x.c.M ||| y.c.M) g = bqy at *
              generalize faJ y.c.M (x.c.M ||| y.c.M) g = fqy at *
              go_wp2_with (at_builtin; refine wp_app tyF rfl _ _ rfl (HO4.out.alloc _) rfl rfl (rd_new 34 2 _ [.int .u16 (sv (bqy &&& bqx)), .int .u16 (sv ((fqy &&& fqx) &&& ~~~(bqy &&& bqx)))] 1 (by decide) rfl) (fl_oneCell [(bqy &&& bqx, (fqy &&& fqx) &&& ~~~(bqy &&& bqx))]) (by have := HLC.out; omega) ?_)
              intro v4 w4 hO5 _
              have HO5 := Lib.hid hO5
              clear hO5
              go_wp2_with fail
              go_roundw
              case rel => exact ⟨k + 1, by omega, by go_num, by rw [HST.out, ← List.append_assoc, HCU.out, fl_append, List.length_append]; exact HO5.out⟩
              case measure => simp [RowKit.intOf]; omega
            · have hkk : (y.c.F.take k) = y.c.F := List.take_of_length_le (by omega)
              rw [hkk, ← HSN2.out] at hO3
              rw [hkk, ← HSN2.out]
              have HO3 := Lib.hid hO3
              clear hO3 hkk
              go_wp2_with fail
              go_roundw
              case rel => exact ⟨i + 1, by omega, by go_num, HO3.out⟩
              case measure => simp [RowKit.intOf]; omega
        · have hii : i = x.c.F.length := by omega
          subst hii
          rw [← HJF.out] at hO hRo ⊢
          have hcall := HNZ.out ao co _ hRo
          have HC := Lib.hid hcall
          have KW := hO.2
          clear hcall hO hRo
          go_wp2_with fail
          refine HC.out.mono ?_
          rintro e w4 ⟨v4, rfl, hO4⟩
          go_wp2_with fail
          go_ret2
          exact ⟨_, rfl, hO4.since (HKK.out.trans KW)⟩
    · rw [if_pos h2] at hv2
      have e1 : jfltE x.c y.c = cvf y.c := by unfold jfltE; rw [if_neg (by simp [h1]), if_pos h2]
      have e2 : jfltL x.c y.c = [] := by unfold jfltL; rw [e1, if_pos h2]
      rw [e1, e2]
      have hz : (cvf y.c != 0) = true := by simpa using h2
      generalize cvf y.c = z at *
      have HV := Lib.hid hv2; have HK2 := Lib.hid K2
      clear hv hv2 e1 e2 h1 h2 hbx hby K2 hx hy
      go_enter Tryz.func66, Tryz.ntmps66
      go_wp2_with fail
      refine HV.out.mono ?_
      rintro e w1 ⟨rfl, K1⟩
      clear c0 c1 c2 c3 c4 c5 d0 d1 d2 d3 d4 d5 hs1
      go_wp2_with fail
      go_ret2
      exact ⟨_, rfl, Own.nil _ _ (HK2.out.trans (((Keeps.refl _).alloc (.cells (gl [x, y]).toArray 36)).trans K1))⟩
  · rw [if_pos h1] at hv2
    have e1 : jfltE x.c y.c = cvf x.c := by unfold jfltE; rw [if_pos h1]
    have e2 : jfltL x.c y.c = [] := by unfold jfltL; rw [e1, if_pos h1]
    rw [e1, e2]
    have hz : (cvf x.c != 0) = true := by simpa using h1
    generalize cvf x.c = z at *
    have HV := Lib.hid hv2; have HK2 := Lib.hid K2
    clear hv hv2 e1 e2 h1 hbx hby K2 hx hy
    go_enter Tryz.func66, Tryz.ntmps66
    go_wp2_with fail
    refine HV.out.mono ?_
    rintro e w1 ⟨rfl, K1⟩
    clear c0 c1 c2 c3 c4 c5 d0 d1 d2 d3 d4 d5 hs1
    go_wp2_with fail
    go_ret2
    exact ⟨_, rfl, Own.nil _ _ (HK2.out.trans (((Keeps.refl _).alloc (.cells (gl [x, y]).toArray 36)).trans K1))⟩
end Go.Proofs.YtijknodekomdfaaGreatDoor
