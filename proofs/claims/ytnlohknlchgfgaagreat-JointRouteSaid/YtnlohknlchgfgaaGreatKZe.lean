/- Texts joined into one (wip/bin/pack.py): RJ29, RJ29b. -/
import Derived.Test.YtnlohknlchgfgaaGreatKZd
import Derived.Deep.RegionHeld3
import Derived.Lib.QuietBelow
/- The reference's allowed, both, Faults, Of (layer 29). -/
namespace Go.Proofs.YtnlohknlchgfgaaGreat
open Go.RowKit Go.Lib Go.Shelf

theorem bits_xor_u16_nat' (a b : Nat) (ha : a < 65536) (hb : b < 65536) : bits .xor .u16 (a : Int) (b : Int) = ((a ^^^ b : Nat) : Int) := by
  have hx : a ^^^ b < 2 ^ 16 := Nat.xor_lt_two_pow (by omega) (by omega)
  have h1 : (BitVec.ofInt 16 (a : Int)).toNat = a := by
    rw [BitVec.ofInt_natCast, BitVec.toNat_ofNat]; exact Nat.mod_eq_of_lt (by omega)
  have h2 : (BitVec.ofInt 16 (b : Int)).toNat = b := by
    rw [BitVec.ofInt_natCast, BitVec.toNat_ofNat]; exact Nat.mod_eq_of_lt (by omega)
  show IntKind.u16.wrap ((BitVec.ofInt 16 (a : Int) ^^^ BitVec.ofInt 16 (b : Int)).toNat : Int) = _
  rw [BitVec.toNat_xor, h1, h2, IntKind.wrap_u16]
  omega
@[go_sem] theorem u16_signed : IntKind.u16.signed = false := rfl
@[go_sem] theorem sv_compl (x : S) : bits .xor .u16 IntKind.u16.max (sv x) = sv (~~~x) := by
  have e : (IntKind.u16.max : Int) = ((65535 : Nat) : Int) := rfl
  have h := bits_xor_u16_nat' 65535 x.toNat (by decide) x.isLt
  rw [e]
  unfold sv
  rw [h, BitVec.toNat_not]
  have : 65535 ^^^ x.toNat = (65535#16 ^^^ x).toNat := by rw [BitVec.toNat_xor]; rfl
  rw [this]
  have h2 : (65535#16 ^^^ x) = ~~~x := by
    apply BitVec.eq_of_getLsbD_eq
    intro i hi
    have h3 : (65535#16).getLsbD i = true := by
      have : ∀ j : Fin 16, (65535#16).getLsbD j.val = true := by decide
      exact this ⟨i, hi⟩
    rw [BitVec.getLsbD_xor, BitVec.getLsbD_not, h3]
    simp [hi]
  rw [h2, BitVec.toNat_not]
theorem jn_ref (a b : Cf) (x y : F2) : ((jfB a.kd x ||| ~~~a.M) &&& (jfB b.kd y ||| ~~~b.M) &&& (a.M ||| b.M), (facF x ||| ~~~a.M) &&& (facF y ||| ~~~b.M) &&& (a.M ||| b.M) &&& ~~~((jfB a.kd x ||| ~~~a.M) &&& (jfB b.kd y ||| ~~~b.M))) = jnF a b x y := by
  unfold jnF byJ faJ
  dsimp only
  generalize jfB a.kd x = u
  generalize jfB b.kd y = v
  generalize facF x = p
  generalize facF y = q
  generalize a.M = m
  generalize b.M = k
  refine Prod.ext ?_ ?_
  · apply BitVec.eq_of_getLsbD_eq
    intro i hi
    simp only [BitVec.getLsbD_and, BitVec.getLsbD_or, BitVec.getLsbD_not, hi, decide_true, Bool.true_and]
    cases u.getLsbD i <;> cases v.getLsbD i <;> cases m.getLsbD i <;> cases k.getLsbD i <;> rfl
  · apply BitVec.eq_of_getLsbD_eq
    intro i hi
    simp only [BitVec.getLsbD_and, BitVec.getLsbD_or, BitVec.getLsbD_not, hi, decide_true, Bool.true_and]
    cases u.getLsbD i <;> cases v.getLsbD i <;> cases m.getLsbD i <;> cases k.getLsbD i <;> cases p.getLsbD i <;> cases q.getLsbD i <;> rfl
set_option maxRecDepth 20000 in
set_option maxHeartbeats 2000000 in
theorem rallowed_any (x : CA) (f : F2) (w : World) :
    Calls Tryz.prog 38 #[vg x, .agg #[.int .u16 (sv f.1), .int .u16 (sv f.2)]] w fun e w' => e = .returned (.tuple #[.int .u16 (sv (jfB x.c.kd f ||| ~~~x.c.M)), .int .u16 (sv (facF f ||| ~~~x.c.M))]) ∧ Keeps w w' := by
  unfold vg
  have hs : ∀ o, (w.alloc o).heap.size = w.heap.size + 1 := fun o => World.size_alloc ..
  have K1 := (Keeps.refl w).alloc (.cells #[.string x.c.nm, .int .i64 x.c.kd, .int .u16 (sv x.c.M), .slice x.ar x.c.R.length x.cr, .slice x.aw x.c.Q.length x.cw, .slice x.af x.c.F.length x.cf] 32)
  have hb := boxG' w x _ rfl
  generalize hW1 : w.alloc (.cells #[.string x.c.nm, .int .i64 x.c.kd, .int .u16 (sv x.c.M), .slice x.ar x.c.R.length x.cr, .slice x.aw x.c.Q.length x.cw, .slice x.af x.c.F.length x.cf] 32) = W1 at *
  have hs1 : W1.heap.size = w.heap.size + 1 := by rw [← hW1]; exact hs _
  have K2 := (Keeps.refl W1).alloc (.cells #[.int .u16 (sv f.1), .int .u16 (sv f.2)] 59)
  have hf := Blk.new W1 59 #[.int .u16 (sv f.1), .int .u16 (sv f.2)]
  have hb2 := hb.keep K2
  have KW0 := K1.trans K2
  rw [hs1] at hf
  rw [← hW1] at hb2 hf KW0
  clear hb K1 K2 hs1 hW1 hs
  obtain ⟨c0, c1, c2, c3, c4, c5⟩ := hb2.c6
  obtain ⟨f0, f1⟩ := cB2' hf
  have HF := Lib.hid hf; have HB2 := Lib.hid hb2
  unfold jfB facF
  have HKW0 := Lib.hid KW0
  clear KW0 hf hb2
  by_cases hk : x.c.kd = 2
  · rw [if_pos hk]
    have hkb : (x.c.kd == 2) = true := by simpa using hk
    clear hk
    go_enter Tryz.func38, Tryz.ntmps38
    go_wp2_with fail
    clear c0 c1 c2 c3 c4 c5 f0 f1
    generalize ((w.alloc (.cells #[.string x.c.nm, .int .i64 x.c.kd, .int .u16 (sv x.c.M), .slice x.ar x.c.R.length x.cr, .slice x.aw x.c.Q.length x.cw, .slice x.af x.c.F.length x.cf] 32)).alloc (.cells #[.int .u16 (sv f.1), .int .u16 (sv f.2)] 59)) = W at *
    obtain ⟨c0, c1, c2, c3, c4, c5⟩ := (HB2.out.keep (Keeps.refl _).drew).c6
    obtain ⟨f0, f1⟩ := cB2' (HF.out.keep (Keeps.refl _).drew)
    clear c0 c1 c3 c4 c5
    go_region_held3 (fun w' => w'.cell? ⟨w.heap.size, 2, none⟩ = some (.int .u16 (sv x.c.M)) ∧ w'.cell? ⟨w.heap.size + 1, 0, none⟩ = some (.int .u16 (sv f.1)) ∧ w'.cell? ⟨w.heap.size + 1, 1, none⟩ = some (.int .u16 (sv f.2))) (with_reducible exact ⟨c2, f0, f1⟩) (fail)
    clear c2 f0 f1 HF HB2
    rename_i hh
    clear hh
    go_wp2_with fail
    go_ret2
    exact ⟨rfl, HKW0.out.drew⟩
  · rw [if_neg hk]
    have hkb : (x.c.kd == 2) = false := by simpa using hk
    have hz2 : ∀ z : S, bits .or .u16 0 (sv z) = sv z := fun z => by rw [← sv_zero, sv_or, BitVec.zero_or]
    rw [show (0#16 ||| ~~~x.c.M : S) = ~~~x.c.M from BitVec.zero_or]
    clear hk
    go_enter Tryz.func38, Tryz.ntmps38
    go_wp2_with fail
    clear c0 c1 c2 c3 c4 c5 f0 f1
    generalize ((w.alloc (.cells #[.string x.c.nm, .int .i64 x.c.kd, .int .u16 (sv x.c.M), .slice x.ar x.c.R.length x.cr, .slice x.aw x.c.Q.length x.cw, .slice x.af x.c.F.length x.cf] 32)).alloc (.cells #[.int .u16 (sv f.1), .int .u16 (sv f.2)] 59)) = W at *
    obtain ⟨c0, c1, c2, c3, c4, c5⟩ := (HB2.out.keep (Keeps.refl _).drew).c6
    obtain ⟨f0, f1⟩ := cB2' (HF.out.keep (Keeps.refl _).drew)
    clear c0 c1 c3 c4 c5
    go_region_held3 (fun w' => w'.cell? ⟨w.heap.size, 2, none⟩ = some (.int .u16 (sv x.c.M)) ∧ w'.cell? ⟨w.heap.size + 1, 0, none⟩ = some (.int .u16 (sv f.1)) ∧ w'.cell? ⟨w.heap.size + 1, 1, none⟩ = some (.int .u16 (sv f.2))) (with_reducible exact ⟨c2, f0, f1⟩) (fail)
    clear c2 f0 f1 HF HB2
    rename_i hh
    clear hh
    go_wp2_with fail
    go_ret2
    exact ⟨rfl, HKW0.out.drew⟩
end Go.Proofs.YtnlohknlchgfgaaGreat
/- The reference's both and Faults (layer 29). -/
namespace Go.Proofs.YtnlohknlchgfgaaGreat
open Go.RowKit Go.Lib Go.Shelf

theorem blk1 {w : World} {B : Nat} {T : TypeId} {cs : Array Value} (h : Blk w B T cs) (o : Obj) : Blk (w.alloc o) B T cs := h.keep ((Keeps.refl w).alloc o)
set_option maxRecDepth 20000 in
theorem rboth29_any (x y : CA) (w : World) (hx : RdG w x) (hy : RdG w y) :
    Calls Tryz.prog 34 #[vg x, vg y] w fun e w' => e = .returned (.int .i64 (vldL [x, y])) ∧ Keeps w w' := by
  obtain ⟨hbx, hby⟩ := box2 w x y
  have K2 := ((Keeps.refl w).alloc (.cells #[.string x.c.nm, .int .i64 x.c.kd, .int .u16 (sv x.c.M), .slice x.ar x.c.R.length x.cr, .slice x.aw x.c.Q.length x.cw, .slice x.af x.c.F.length x.cf] 32)).alloc (.cells #[.string y.c.nm, .int .i64 y.c.kd, .int .u16 (sv y.c.M), .slice y.ar y.c.R.length y.cr, .slice y.aw y.c.Q.length y.cw, .slice y.af y.c.F.length y.cf] 32)
  have h1 := fun W (k : Keeps w W) => rvalidG_any x W (hx.keep k)
  have h2 := fun W (k : Keeps w W) => rvalidG_any y W (hy.keep k)
  obtain ⟨c0, c1, c2, c3, c4, c5⟩ := hbx.c6
  rw [vld2]
  unfold vg at *
  generalize cvf x.c = e1 at *
  generalize cvf y.c = e2 at *
  have H1 := Lib.hid h1; have H2 := Lib.hid h2; have HBY := Lib.hid hby; have HK2 := Lib.hid K2
  clear h1 h2 hbx hby K2 hx hy
  by_cases hz : e1 = 0
  · subst hz
    rw [if_neg (by simp)]
    have he : (if e2 ≠ 0 then e2 else 0) = e2 := by
      by_cases h : e2 = 0
      · rw [if_neg (by simp [h]), h]
      · rw [if_pos h]
    rw [he]
    clear he
    go_enter Tryz.func34, Tryz.ntmps34
    go_wp2_with fail
    refine (H1.out _ HK2.out).mono ?_
    rintro e w1 ⟨rfl, K1⟩
    clear c0 c1 c2 c3 c4 c5
    obtain ⟨d0, d1, d2, d3, d4, d5⟩ := (HBY.out.keep K1).c6
    have KK := HK2.out.trans K1
    have HKK := Lib.hid KK
    clear KK K1
    go_wp2_with fail
    refine (H2.out _ HKK.out).mono ?_
    rintro e w2 ⟨rfl, K2⟩
    clear d0 d1 d2 d3 d4 d5
    go_wp2_with fail
    go_ret
    exact ⟨rfl, HKK.out.trans K2⟩
  · rw [if_pos hz]
    have hb : (e1 != 0) = true := by simpa using hz
    go_enter Tryz.func34, Tryz.ntmps34
    go_wp2_with fail
    refine (H1.out _ HK2.out).mono ?_
    rintro e w1 ⟨rfl, K1⟩
    clear c0 c1 c2 c3 c4 c5
    go_wp2_with fail
    go_ret
    exact ⟨rfl, HK2.out.trans K1⟩
set_option maxRecDepth 20000 in
set_option maxHeartbeats 8000000 in
theorem rfaults_any (x y : CA) (w : World) (hx : RdG w x) (hy : RdG w y) :
    Calls Tryz.prog 12 #[vg x, vg y] w fun e w' => ∃ v, e = .returned (.tuple #[v, .int .i64 (jfltE x.c y.c)]) ∧ Own 59 2 w w' v (jfltL x.c y.c).length (fl (jfltL x.c y.c)) := by
  obtain ⟨hbx, hby⟩ := box2 w x y
  have K2 := ((Keeps.refl w).alloc (.cells #[.string x.c.nm, .int .i64 x.c.kd, .int .u16 (sv x.c.M), .slice x.ar x.c.R.length x.cr, .slice x.aw x.c.Q.length x.cw, .slice x.af x.c.F.length x.cf] 32)).alloc (.cells #[.string y.c.nm, .int .i64 y.c.kd, .int .u16 (sv y.c.M), .slice y.ar y.c.R.length y.cr, .slice y.aw y.c.Q.length y.cw, .slice y.af y.c.F.length y.cf] 32)
  have hv2 := rboth29_any x y _ (hx.keep K2) (hy.keep K2)
  obtain ⟨c0, c1, c2, c3, c4, c5⟩ := hbx.c6
  obtain ⟨d0, d1, d2, d3, d4, d5⟩ := hby.c6
  rw [vld2] at hv2
  unfold vg at *
  by_cases hv0 : cvf x.c = 0 ∧ cvf y.c = 0
  · obtain ⟨h1, h2⟩ := hv0
    rw [if_neg (by simp [h1]), if_neg (by simp [h2])] at hv2
    have f1 := (cv_parts (cvf_cv h1).2).2.2.2.2
    have f2 := (cv_parts (cvf_cv h2).2).2.2.2.2
    have l1 := fv_len f1
    have l2 := fv_len f2
    have hjl := jn_len x.c y.c
    have hjm : (jnL x.c y.c).length ≤ 10000 := by rw [hjl]; exact Nat.le_trans (Nat.mul_le_mul l1 l2) (by decide)
    have e1 : jfltE x.c y.c = nmzE (jnL x.c y.c) := by unfold jfltE; rw [if_neg (by simp [h1]), if_neg (by simp [h2])]
    have e2 : jfltL x.c y.c = nmzL (jnL x.c y.c) := by
      unfold jfltL nmzL
      rw [e1]
      by_cases h0 : nmzE (jnL x.c y.c) = 0
      · rw [if_neg (by simp [h0])]
      · rw [if_pos h0, if_pos h0]
    rw [e1, e2]
    have hnz := fun A C W (hR : Rd W A (jnL x.c y.c).length C 2 (fl (jnL x.c y.c))) => rNormalize_any A C (jnL x.c y.c) W hR (by omega)
    have hlen : ∀ i k, i < x.c.F.length → k ≤ y.c.F.length → ((x.c.F.take i).flatMap (fun u => y.c.F.map (jnF x.c y.c u)) ++ (y.c.F.take k).map (jnF x.c y.c (fa x.c.F i))).length + 1 ≤ 30000 := fun i k hi hk => by
      rw [List.length_append, flatMap_count _ _ y.c.F.length (fun _ => List.length_map ..), List.length_map, List.length_take, List.length_take]
      have : min i x.c.F.length * y.c.F.length ≤ 100 * 100 := Nat.mul_le_mul (by omega) l2
      omega
    have hjf : jnL x.c y.c = (x.c.F.take x.c.F.length).flatMap (fun u => y.c.F.map (jnF x.c y.c u)) := by rw [List.take_length]; rfl
    have hsn := jn_snoc x.c y.c
    have sx := hx.f.small; have sy := hy.f.small
    have HV := Lib.hid hv2; have HNZ := Lib.hid hnz; have HLE := Lib.hid hlen; have HJF := Lib.hid hjf; have HSN := Lib.hid hsn
    have HXF := Lib.hid hx.f; have HYF := Lib.hid hy.f
    have HBX := Lib.hid hbx; have HBY := Lib.hid hby; have HK2 := Lib.hid K2
    obtain ⟨JL, hJL⟩ : ∃ L, L = jnL x.c y.c := ⟨_, rfl⟩
    rw [← hJL] at HNZ HJF ⊢
    clear hv2 hnz hlen hjf hsn hJL hbx hby K2 f1 f2 hjl hjm e1 e2 h1 h2 hx hy
    go_enter Tryz.func12, Tryz.ntmps12
    go_wp2_with fail
    refine HV.out.mono ?_
    rintro e w1 ⟨rfl, K1⟩
    have bx := HBX.out.keep K1
    have by_ := HBY.out.keep K1
    have KK := HK2.out.trans K1
    have HBX1 := Lib.hid bx; have HBY1 := Lib.hid by_; have HKK := Lib.hid KK
    clear c0 c1 c2 c3 c4 c5 d0 d1 d2 d3 d4 d5 HBX HBY HK2 K1 HV bx by_ KK
    go_wp2_with fail
    go_loopw [7, 8] (fun u v wr => ∃ i : Nat, i ≤ x.c.F.length ∧ v = .int .i64 i ∧ Own 59 2 w1 wr u ((x.c.F.take i).flatMap (fun u => y.c.F.map (jnF x.c y.c u))).length (fl ((x.c.F.take i).flatMap (fun u => y.c.F.map (jnF x.c y.c u))))) (fun _ v _ => x.c.F.length - (RowKit.intOf v).toNat)
    case atStart => exact ⟨0, Nat.zero_le _, rfl, Own.nil _ _ (Keeps.refl _)⟩
    case round =>
      obtain ⟨i, hi, rfl, hO⟩ := hrel
      obtain ⟨ao, co, rfl, hRo⟩ := hO.rd
      have KO := hO.2
      obtain ⟨c0, c1, c2, c3, c4, c5⟩ := (HBX1.out.keep KO).c6
      by_cases hlt : i < x.c.F.length
      · have hle := fun k hk => HLE.out i k hlt hk
        have hsn := HSN.out i hlt
        have hnw : ∀ g : F2, _ := fun g => jn_ref x.c y.c (fa x.c.F i) g
        have hfx := fun W (k : Keeps w1 W) => And.intro ((HXF.out.keep (HKK.out.trans k)).f0 hlt) ((HXF.out.keep (HKK.out.trans k)).f1' hlt)
        have hs := HXF.out.isSome (by omega)
        generalize fa x.c.F i = f at *
        generalize (x.c.F.take i).flatMap (fun u => y.c.F.map (jnF x.c y.c u)) = pre at *
        have HO := Lib.hid hO; have HLE2 := Lib.hid hle; have HSN2 := Lib.hid hsn; have HFX := Lib.hid hfx; have HNW := Lib.hid hnw
        clear hO hRo hle hsn hfx hnw
        have hlt' : (i : Int) < (x.c.F.length : Int) := by omega
        go_wp2_with fail
        clear c0 c1 c2 c3 c4 c5
        go_loopw [7, 9] (fun u v wr => ∃ k : Nat, k ≤ y.c.F.length ∧ v = .int .i64 k ∧ Own 59 2 w1 wr u (pre ++ (y.c.F.take k).map (jnF x.c y.c f)).length (fl (pre ++ (y.c.F.take k).map (jnF x.c y.c f)))) (fun _ v _ => y.c.F.length - (RowKit.intOf v).toNat)
        case atStart => exact ⟨0, Nat.zero_le _, rfl, by rw [List.take_zero, List.map_nil, List.append_nil]; exact HO.out⟩
        case round =>
          obtain ⟨k, hk, rfl, hO3⟩ := hrel
          obtain ⟨ap, cp, rfl, _⟩ := hO3.rd
          have KP := hO3.2
          obtain ⟨d0, d1, d2, d3, d4, d5⟩ := (HBY1.out.keep KP).c6
          by_cases hltk : k < y.c.F.length
          · have hs2 := HYF.out.isSome (by omega)
            have hle := HLE2.out k hk
            have hst : (y.c.F.take (k + 1)).map (jnF x.c y.c f) = (y.c.F.take k).map (jnF x.c y.c f) ++ [jnF x.c y.c f (fa y.c.F k)] := by rw [take_fa y.c.F k hltk, List.map_append]; rfl
            rw [← HNW.out] at hst
            have hfy := fun W (k : Keeps w1 W) => And.intro ((HYF.out.keep (HKK.out.trans k)).f0 hltk) ((HYF.out.keep (HKK.out.trans k)).f1' hltk)
            generalize fa y.c.F k = g at *
            generalize hcur : pre ++ (y.c.F.take k).map (jnF x.c y.c f) = cur at hO3 hle ⊢
            have HO3 := Lib.hid hO3; have HST := Lib.hid hst; have HLC := Lib.hid hle; have HCU := Lib.hid hcur; have HFY := Lib.hid hfy
            have hltk' : (k : Int) < (y.c.F.length : Int) := by omega
            clear hO3 hst hle hcur hfy
            go_wp2_with fail
            clear d0 d1 d2 d3 d4 d5
            have r1 := fun d os => Calls.regrown_of (rallowed_any x f (Sort.grow (redrawn wr d) os))
            unfold vg at r1
            have R1 := Lib.hid r1
            clear r1
            obtain ⟨x0, x1, x2, x3, x4, x5⟩ := (HBX1.out.keep KP).c6
            obtain ⟨y0, y1⟩ := HFX.out _ KP
            have c0 := cell_regrown x0; have c1 := cell_regrown x1; have c2 := cell_regrown x2; have c3 := cell_regrown x3; have c4 := cell_regrown x4; have c5 := cell_regrown x5
            have g0 := cell_regrown y0; have g1 := cell_regrown y1
            clear x0 x1 x2 x3 x4 x5 y0 y1
            refine wp_region_quiet_below (by kernel_rfl) (by kernel_rfl) ?_
            repeat (first | go_big_quiet_step (exact R1.out _ _) | quiet_step (exact R1.out _ _))
            refine wpQuiet_nil ?_
            intro _ hw'
            obtain ⟨⟨dq, osq⟩, hw''⟩ := hw'
            subst hw''
            have KF := grow_keeps (w := wr) dq osq
            clear c0 c1 c2 c3 c4 c5 g0 g1
            generalize Sort.grow (redrawn wr dq) osq = wz at *
            go_wp2_with fail
            clear R1
            have KP2 := KP.trans KF
            have r1 := fun d os => Calls.regrown_of (rallowed_any y g (Sort.grow (redrawn wz d) os))
            unfold vg at r1
            have R1 := Lib.hid r1
            clear r1
            obtain ⟨x0, x1, x2, x3, x4, x5⟩ := (HBY1.out.keep KP2).c6
            obtain ⟨y0, y1⟩ := HFY.out _ KP2
            have c0 := cell_regrown x0; have c1 := cell_regrown x1; have c2 := cell_regrown x2; have c3 := cell_regrown x3; have c4 := cell_regrown x4; have c5 := cell_regrown x5
            have g0 := cell_regrown y0; have g1 := cell_regrown y1
            clear x0 x1 x2 x3 x4 x5 y0 y1
            refine wp_region_quiet_below (by kernel_rfl) (by kernel_rfl) ?_
            repeat (first | go_big_quiet_step (exact R1.out _ _) | quiet_step (exact R1.out _ _))
            refine wpQuiet_nil ?_
            intro _ hw'
            obtain ⟨⟨dq, osq⟩, hw''⟩ := hw'
            subst hw''
            have KG := grow_keeps (w := wz) dq osq
            clear c0 c1 c2 c3 c4 c5 g0 g1 R1
            generalize Sort.grow (redrawn wz dq) osq = wy at *
            have HO4 := Lib.hid (HO3.out.keep (KF.trans KG))
            obtain ⟨c0, c1, c2, c3, c4, c5⟩ := (HBX1.out.keep (KP2.trans KG)).c6
            obtain ⟨d0, d1, d2, d3, d4, d5⟩ := (HBY1.out.keep (KP2.trans KG)).c6
            clear HO3 KF KG KP2
            generalize (jfB x.c.kd f ||| ~~~x.c.M) = bq at *
            generalize (facF f ||| ~~~x.c.M) = fq at *
            generalize (jfB y.c.kd g ||| ~~~y.c.M) = br at *
            generalize (facF g ||| ~~~y.c.M) = fr at *
            go_wp2_with (at_builtin; refine wp_app tyF rfl _ _ rfl (HO4.out.alloc _) rfl rfl (rd_new 59 2 _ [.int .u16 (sv (bq &&& br &&& (x.c.M ||| y.c.M))), .int .u16 (sv (fq &&& fr &&& (x.c.M ||| y.c.M) &&& ~~~(bq &&& br)))] 1 (by decide) rfl) (fl_oneCell [(bq &&& br &&& (x.c.M ||| y.c.M), fq &&& fr &&& (x.c.M ||| y.c.M) &&& ~~~(bq &&& br))]) (by have := HLC.out; omega) ?_)
            intro v4 w4 hO5 _
            have HO5 := Lib.hid hO5
            clear hO5 c0 c1 c2 c3 c4 c5 d0 d1 d2 d3 d4 d5
            go_wp2_with fail
            go_roundw
            case rel => exact ⟨k + 1, by omega, by go_num, by rw [HST.out, ← List.append_assoc, HCU.out, fl_append, List.length_append]; exact HO5.out⟩
            case measure => simp [RowKit.intOf]; omega
          · have hkk : (y.c.F.take k) = y.c.F := List.take_of_length_le (by omega)
            rw [hkk, ← HSN2.out] at hO3
            rw [hkk, ← HSN2.out]
            have HO3 := Lib.hid hO3
            have hltk' : ¬ (k : Int) < (y.c.F.length : Int) := by omega
            clear hO3 hkk
            go_wp2_with fail
            go_roundw
            case rel => exact ⟨i + 1, by omega, by go_num, HO3.out⟩
            case measure => simp [RowKit.intOf]; omega
      · have hii : i = x.c.F.length := by omega
        subst hii
        rw [← HJF.out] at hO hRo ⊢
        have hcall := HNZ.out ao co _ hRo
        have HC := Lib.hid hcall
        clear hcall hO hRo
        go_wp2_with fail
        refine HC.out.mono ?_
        rintro e w4 ⟨v4, rfl, hO4⟩
        go_wp2_with fail
        go_ret2
        exact ⟨_, rfl, hO4.since (HKK.out.trans KO)⟩
  · obtain ⟨er, her, he0, he1⟩ : ∃ er, er ≠ 0 ∧ (if cvf x.c ≠ 0 then cvf x.c else if cvf y.c ≠ 0 then cvf y.c else 0) = er ∧ jfltE x.c y.c = er := by
      by_cases h1 : cvf x.c = 0
      · have h2 : cvf y.c ≠ 0 := fun h2 => hv0 ⟨h1, h2⟩
        exact ⟨cvf y.c, h2, by rw [if_neg (by simp [h1]), if_pos h2], by unfold jfltE; rw [if_neg (by simp [h1]), if_pos h2]⟩
      · exact ⟨cvf x.c, h1, if_pos h1, by unfold jfltE; rw [if_pos h1]⟩
    have e2 : jfltL x.c y.c = [] := by unfold jfltL; rw [he1, if_pos her]
    rw [he0] at hv2
    rw [he1, e2]
    have hz : (er != 0) = true := by simpa using her
    have HV := Lib.hid hv2; have HK2 := Lib.hid K2
    clear hv2 he0 he1 e2 hbx hby K2 hx hy hv0 her
    go_enter Tryz.func12, Tryz.ntmps12
    go_wp2_with fail
    refine HV.out.mono ?_
    rintro e w1 ⟨rfl, K1⟩
    clear c0 c1 c2 c3 c4 c5 d0 d1 d2 d3 d4 d5
    go_wp2_with fail
    go_ret2
    exact ⟨_, rfl, Own.nil _ _ (HK2.out.trans K1)⟩
end Go.Proofs.YtnlohknlchgfgaaGreat
