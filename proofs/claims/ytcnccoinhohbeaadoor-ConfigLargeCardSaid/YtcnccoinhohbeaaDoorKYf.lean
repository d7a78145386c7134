/- Texts joined into one (wip/bin/pack.py): Prove2M, CProve. -/
import Derived.Test.YtcnccoinhohbeaaDoorKYe
import Derived.Test.YtcnccoinhohbeaaDoorKI
/- Layer 27: Prove of the reference is the program's (plain laws). -/
namespace Go.Proofs.YtcnccoinhohbeaaDoor
open Go.RowKit Go.Lib Go.Shelf

def nzc (byz : List S) : Nat := (byz.filter fun b => b != 0#16).length
theorem rowC_count (byz : List S) (p q : S) : (rowC byz p q).length = nzc byz := by unfold rowC nzc; rw [List.length_map]
theorem flatMap_count {α β : Type} (l : List α) (f : α → List β) (K : Nat) (h : ∀ x, (f x).length = K) : (l.flatMap f).length = l.length * K := by
  induction l with
  | nil => simp
  | cons x xs ih => rw [List.flatMap_cons, List.length_append, h, ih, List.length_cons, Nat.add_mul, Nat.one_mul, Nat.add_comm]
theorem rows2_count (byz : List S) : ∀ Q : List S, 2 * (rows2 byz Q).length = Q.length * (Q.length + 1) * nzc byz
  | [] => by simp [rows2]
  | p :: ps => by
    have ih := rows2_count byz ps
    rw [rows2, List.length_append, flatMap_count (p :: ps) (rowC byz p) (nzc byz) (rowC_count byz p), List.length_cons, Nat.mul_add, ih]
    generalize ps.length = n
    generalize nzc byz = z
    rw [← Nat.mul_assoc, ← Nat.add_mul]
    congr 1
    simp only [Nat.mul_add, Nat.add_mul, Nat.one_mul, Nat.mul_one]
    omega
theorem tri (n z x : Nat) (h : 2 * x = n * (n + 1) * z) : x = n * (n + 1) / 2 * z := by
  have he : 2 ∣ n * (n + 1) := by
    rcases Nat.mod_two_eq_zero_or_one n with h0 | h0
    · exact Nat.dvd_trans (Nat.dvd_of_mod_eq_zero h0) (Nat.dvd_mul_right _ _)
    · exact Nat.dvd_trans (Nat.dvd_of_mod_eq_zero (by omega)) (Nat.dvd_mul_left _ _)
  obtain ⟨k, hk⟩ := he
  rw [hk] at h ⊢
  rw [Nat.mul_div_cancel_left _ (by omega)]
  rw [Nat.mul_assoc] at h
  omega
/-- the number of rows, as the program counts them -/
def cntR (byz R Q : List S) : Nat := R.length * Q.length * byz.length + Q.length * (Q.length + 1) / 2 * (if at_ byz 0 = 0#16 then 0 else byz.length)
theorem rows_count (byz R Q : List S) (h : (if at_ byz 0 = 0#16 then 0 else byz.length) = nzc byz) : (rowsR byz R Q).length = cntR byz R Q := by
  unfold cntR rowsR
  rw [h, List.length_append, ← tri _ _ _ (rows2_count byz Q)]
  congr 1
  unfold rows1
  rw [flatMap_count R _ (Q.length * byz.length) (fun r => flatMap_count Q _ byz.length (fun q => rowA_len byz r q)), Nat.mul_assoc]
theorem restr_pos {M : S} {F : List F2} (h : 0 < F.length) : 0 < (restrL M F).length := by
  rw [restr_eq, refGreatest_filter]
  have hx : (fa F 0).1 &&& M ∈ mskF M F := List.mem_map.2 ⟨_, fa_mem h, rfl⟩
  obtain ⟨y, hy, hl, _⟩ := above_lonG (sortS' (mskF M F)) (16 - cnt ((fa F 0).1 &&& M)) _ rfl (((sortS_asc _).2 _).2 hx)
  exact List.length_pos_of_mem (List.mem_filter.2 ⟨hy, hl⟩)
theorem sub_zero (x : S) : sub 0#16 x = true := (sub_iff _ _).2 fun i _ h => by simp at h
theorem bad_nz (kd : Int) (M : S) {F : List F2} (h : 0 < F.length) : 0 < (byz27 kd M F).length ∧ (if at_ (byz27 kd M F) 0 = 0#16 then 0 else (byz27 kd M F).length) = nzc (byz27 kd M F) := by
  unfold byz27
  by_cases hk : kd = 1
  · rw [if_pos hk]; exact ⟨by simp, by decide⟩
  · rw [if_neg hk]
    have hp := restr_pos (M := M) h
    refine ⟨hp, ?_⟩
    have hz : 0#16 ∈ restrL M F → ∀ x ∈ restrL M F, x = 0#16 := fun h0 x hx => by
      exact ((restr_mem' M F 0#16).1 h0).2 x ((restr_mem' M F x).1 hx).1 (sub_zero x)
    have h0m : at_ (restrL M F) 0 ∈ restrL M F := by simp [at_, List.getD, hp]
    unfold nzc
    by_cases e : at_ (restrL M F) 0 = 0#16
    · rw [if_pos e]
      rw [e] at h0m
      rw [filter_none (fun x hx => by rw [hz h0m x hx]; rfl)]; rfl
    · rw [if_neg e, filter_all (fun x hx => by
        have : x ≠ 0#16 := fun ex => by
          rw [ex] at hx
          exact e (hz hx _ h0m)
        simpa using this)]
/-- what the program's Prove gives -/
def proS (kd : Int) (wt M : S) (R Q : List S) (F : List F2) : List It × Int :=
  if cvS kd M R Q F ≠ 0 then ([], cvS kd M R Q F) else if 20000 < cntR (byz27 kd M F) R Q then ([], 3) else
    if (rowsP wt (byz27 kd M F) R Q).any negI = true then ([], 12) else (rowsP wt (byz27 kd M F) R Q, 0)
/-- a row of the reference, with its least server -/
def withM (wt : S) (x : CL) : It := (x.1, x.2.1, x.2.2.1, x.2.2.2, (((memTo (x.2.1 &&& x.2.2.1 &&& ~~~(badC wt x)) 16).getD 0 0 : Nat) : Int))
def rproS (kd : Int) (wt M : S) (R Q : List S) (F : List F2) : List It × Int :=
  if cvS kd M R Q F ≠ 0 then ([], cvS kd M R Q F) else if 20000 < (rowsR (byz27 kd M F) R Q).length then ([], 3) else
    if safe27 kd wt M R Q F = false then ([], 12) else ((rowsR (byz27 kd M F) R Q).map (withM wt), 0)
theorem hbT (s : S) (i : Nat) : ((s >>> i) &&& 1#16 == 1#16) = s.toNat.testBit i := by
    have e : ((s >>> i) &&& 1#16).toNat = s.toNat >>> i % 2 := by
      rw [BitVec.toNat_and, BitVec.toNat_ushiftRight]
      exact Nat.and_one_is_mod _
    have h2 := bit_eq s i
    rw [h2] at e
    rw [Bool.eq_iff_iff, beq_iff_eq]
    show _ ↔ s.getLsbD i = true
    constructor
    · intro g
      rw [g] at e
      cases hg : s.getLsbD i
      · rw [hg] at e; simp at e
      · rfl
    · intro g
      rw [if_pos g] at e
      exact BitVec.eq_of_toNat_eq e
theorem r16 : List.range 16 = List.range 12 ++ [12, 13, 14, 15] := by decide
theorem hiT {s : S} (h : small s) (i : Nat) (h12 : 12 ≤ i) : s.toNat.testBit i = false := by
  have h1 : s.toNat < 2 ^ 12 := h
  exact Nat.testBit_lt_two_pow (Nat.lt_of_lt_of_le h1 (Nat.pow_le_pow_right (by decide) h12))
theorem memTo_members {s : S} (h : small s) : memTo s 16 = members s := by
  unfold memTo members
  rw [r16, List.filter_append]
  have e : (fun i => (s >>> i) &&& 1#16 == 1#16) = fun i => s.toNat.testBit i := funext fun i => hbT s i
  rw [e]
  have h2 : [12, 13, 14, 15].filter (fun i => s.toNat.testBit i) = [] := by
    simp [hiT h]
  rw [h2, List.append_nil]
theorem mem_head {s : S} (h : small s) (h0 : s ≠ 0#16) : (((memTo s 16).getD 0 0 : Nat) : Int) = cmnS s := by
  rw [memTo_members h, (members_step h h0).1, List.getD_cons_zero]
  unfold cmnS
  rw [if_neg h0]
theorem rows_in {byz R Q : List S} {x : CL} (h : x ∈ rowsR byz R Q) : x.2.2.1 ∈ Q := by
  unfold rowsR at h
  rcases List.mem_append.1 h with h | h
  · unfold rows1 at h
    obtain ⟨r, _, h⟩ := List.mem_flatMap.1 h
    obtain ⟨q, hq, h⟩ := List.mem_flatMap.1 h
    obtain ⟨b, _, rfl⟩ := mem_rowA.1 h
    exact hq
  · have : ∀ Q : List S, ∀ x : CL, x ∈ rows2 byz Q → x.2.2.1 ∈ Q := by
      intro Q
      induction Q with
      | nil => intro x h; simp [rows2] at h
      | cons p ps ih =>
        intro x h
        rw [rows2] at h
        rcases List.mem_append.1 h with h | h
        · obtain ⟨q, hq, h⟩ := List.mem_flatMap.1 h
          obtain ⟨b, _, _, rfl⟩ := mem_rowC.1 h
          exact hq
        · exact List.mem_cons_of_mem _ (ih x h)
    exact this Q x h
theorem rpro_eq (kd : Int) (wt M : S) (R Q : List S) (F : List F2) : rproS kd wt M R Q F = proS kd wt M R Q F := by
  unfold rproS proS
  by_cases hc : cvS kd M R Q F = 0
  · have hcn : ¬ cvS kd M R Q F ≠ 0 := by simp [hc]
    rw [if_neg hcn, if_neg hcn]
    obtain ⟨_, _, _, hq, hfv⟩ := cv_parts hc
    have hM := cv_small hc
    have hb := bad_nz kd M (fv_pos hfv)
    rw [rows_count _ R Q hb.2]
    by_cases h2 : 20000 < cntR (byz27 kd M F) R Q
    · rw [if_pos h2, if_pos h2]
    · rw [if_neg h2, if_neg h2]
      have hnd := valid_nodup (cf_parts hq).1
      rw [rowsP_neg wt _ R Q hnd]
      have hs : safe27 kd wt M R Q F = (firstR wt (byz27 kd M F) R Q).isNone := by
        unfold safe27 clash27
        rw [if_neg (by simp [hc])]
        cases firstR wt (byz27 kd M F) R Q <;> rfl
      rw [hs]
      cases hf : firstR wt (byz27 kd M F) R Q with
      | some x => simp
      | none =>
        simp only [Option.isNone_none, Option.isSome_none, Bool.true_eq_false, Bool.false_eq_true, if_false]
        rw [rowsP_eq wt _ R Q hnd]
        congr 1
        refine List.map_congr_left (fun x hx => ?_)
        unfold firstR at hf
        have hv := List.find?_eq_none.1 hf x hx
        have h0 : x.2.1 &&& x.2.2.1 &&& ~~~(badC wt x) ≠ 0#16 := by
          intro e
          apply hv
          unfold violC
          rw [e]; rfl
        have hsm : small (x.2.1 &&& x.2.2.1 &&& ~~~(badC wt x)) := by
          refine small_of_sub ?_ hM
          refine sub_trans ?_ (cf_sub hq x.2.2.1 (rows_in hx))
          rw [sub_iff]
          intro i _ g
          rw [BitVec.getLsbD_and, BitVec.getLsbD_and, Bool.and_eq_true, Bool.and_eq_true] at g
          exact g.1.2
        unfold withM withS
        rw [mem_head hsm h0]
  · rw [if_pos hc, if_pos hc]
end Go.Proofs.YtcnccoinhohbeaaDoor
/- config.Prove. -/
namespace Go.Proofs.YtcnccoinhohbeaaDoor
open Go.RowKit Go.Lib Go.Shelf

theorem negPred (l : List It) (w : World) : PredK Tryd.prog 39 #[] vit negI l w := fun W x _ hk => by
  have K := (Keeps.refl W).alloc (.cells #[.int .i64 x.1, .int .u16 (sv x.2.1), .int .u16 (sv x.2.2.1), .int .u16 (sv x.2.2.2.1), .int .i64 x.2.2.2.2] 70)
  obtain ⟨d0, d1, d2, d3, d4⟩ := cB5 (Blk.new W 70 #[.int .i64 x.1, .int .u16 (sv x.2.1), .int .u16 (sv x.2.2.1), .int .u16 (sv x.2.2.2.1), .int .i64 x.2.2.2.2])
  obtain ⟨r, a, b, z, s⟩ := x
  unfold negI
  show Calls Tryd.prog 39 #[.agg #[.int .i64 r, .int .u16 (sv a), .int .u16 (sv b), .int .u16 (sv z), .int .i64 s]] W _
  go_enter Tryd.func39, Tryd.ntmps39
  go_wp2_with fail
  go_ret
  exact ⟨rfl, K⟩
theorem wrap_nat (n : Nat) (h : n ≤ 1000000000000000000) : IntKind.i64.wrap (n : Int) = n := by rw [IntKind.wrap_i64]; omega
theorem pro_eq (kd : Int) (wt M : S) (R Q : List S) (F : List F2) (e : Int) (he : e = cvS kd M R Q F) (byz : List S) (hb : byz = byz27 kd M F) (ps : List It) (hp : ps = rowsP wt byz R Q) (q : Bool) (hq : q = ps.any negI) :
    proS kd wt M R Q F = if e ≠ 0 then ([], e) else if 20000 < cntR byz R Q then ([], 3) else if q = true then ([], 12) else (ps, 0) := by
  subst he; subst hb; subst hp; subst hq; rfl
theorem all_len (wt : S) (byz R Q : List S) (hz : (if at_ byz 0 = 0#16 then 0 else byz.length) = nzc byz) (h : ¬ 20000 < cntR byz R Q) : (allL wt byz R Q).length ≤ 9000000 := by
  unfold cntR at h
  rw [hz] at h
  have h1 : (R.flatMap fun r => Q.flatMap (al1 wt byz r)).length = R.length * (Q.length * byz.length) := flatMap_count R _ _ (fun r => flatMap_count Q _ _ (fun q => by unfold al1; rw [List.length_map]))
  have h2 : (Q.flatMap fun p => Q.flatMap (al2 byz p)).length = Q.length * (Q.length * nzc byz) := flatMap_count Q _ _ (fun r => flatMap_count Q _ _ (fun q => by unfold al2 nzc; rw [List.length_map]))
  unfold allL
  rw [List.length_append, h1, h2, ← Nat.mul_assoc, ← Nat.mul_assoc]
  generalize R.length * Q.length * byz.length = x at *
  have h3 : Q.length * (Q.length + 1) / 2 * nzc byz ≤ 20000 := by omega
  have h4 : Q.length * Q.length * nzc byz ≤ 2 * (Q.length * (Q.length + 1) / 2 * nzc byz) := by
    rw [← Nat.mul_assoc]
    refine Nat.mul_le_mul_right _ ?_
    have : Q.length * (Q.length + 1) = Q.length * Q.length + Q.length := by rw [Nat.mul_add, Nat.mul_one]
    have he : 2 ∣ Q.length * (Q.length + 1) := by
      rcases Nat.mod_two_eq_zero_or_one Q.length with h0 | h0
      · exact Nat.dvd_trans (Nat.dvd_of_mod_eq_zero h0) (Nat.dvd_mul_right _ _)
      · exact Nat.dvd_trans (Nat.dvd_of_mod_eq_zero (by omega)) (Nat.dvd_mul_left _ _)
    omega
  omega
set_option maxRecDepth 20000 in
set_option maxHeartbeats 6000000 in
theorem cProve_any {nm : ByteArray} [NmOk nm] (kd : Int) (wt M : S) {ar : Option Addr} {cr : Nat} {R : List S} {aw : Option Addr} {cw : Nat} {Q : List S} {af : Option Addr} {cf : Nat} {F : List F2} (w : World) (hT : Tab w) (h : RowC w ar cr R aw cw Q af cf F) (hR : R.length ≤ 4096) (hQ : Q.length ≤ 4096) (hn : F.length ≤ 100000) :
    Calls Tryd.prog 15 #[.agg #[.string nm, .int .i64 kd, .int .u16 (sv M), .slice ar R.length cr, .slice aw Q.length cw, .slice af F.length cf], .int .u16 (sv wt)] w fun e w' => RetPr w (proS kd wt M R Q F) e w' := by
  have K0 := (Keeps.refl w).alloc (.cells #[.string nm, .int .i64 kd, .int .u16 (sv M), .slice ar R.length cr, .slice aw Q.length cw, .slice af F.length cf] 31)
  have hb := BoxC.new w 31 nm kd M ar R.length cr aw Q.length cw af F.length cf
  obtain ⟨W1, hW1⟩ : ∃ W0, W0 = w.alloc (.cells #[.string nm, .int .i64 kd, .int .u16 (sv M), .slice ar R.length cr, .slice aw Q.length cw, .slice af F.length cf] 31) := ⟨_, rfl⟩
  rw [← hW1] at hb K0
  have h1 := fun W (k : Keeps w W) => configValid_any (nm := nm) kd M W (h.keep k).rd
  have h2 := fun W (k : Keeps w W) => cByz_any nm kd M (ar := ar) (cr := cr) (R := R) (aw := aw) (cw := cw) (Q := Q) W ((h.keep k).f.rd) (by omega)
  have h3 := fun hbig W (k : Keeps w W) => cRows_any nm kd wt M W (hT.keep k) (h.keep k) (by omega) hbig
  have h4 := fun A C (l : List It) W (hl : Rd W A l.length C 5 (itl l)) => containsFuncI_any A l.length C l W 39 #[] negI hl (enters_of Tryd.func39 (by kernel_rfl) rfl) (negPred l W)
  have hzz : cvS kd M R Q F = 0 → 0 < (byz27 kd M F).length ∧ (if at_ (byz27 kd M F) 0 = 0#16 then 0 else (byz27 kd M F).length) = nzc (byz27 kd M F) := fun hc => bad_nz kd M (fv_pos (cv_parts hc).2.2.2.2)
  have hbl := byz27_le kd M F
  obtain ⟨er, her⟩ : ∃ e, e = cvS kd M R Q F := ⟨_, rfl⟩
  obtain ⟨byz, hby⟩ : ∃ e, e = byz27 kd M F := ⟨_, rfl⟩
  obtain ⟨ps, hps⟩ : ∃ e, e = rowsP wt byz R Q := ⟨_, rfl⟩
  obtain ⟨q, hq⟩ : ∃ e, e = ps.any negI := ⟨_, rfl⟩
  rw [pro_eq kd wt M R Q F er her byz hby ps hps q hq]
  have h4' := fun A C W (hl : Rd W A ps.length C 5 (itl ps)) => h4 A C ps W hl
  rw [← hq] at h4'
  rw [← her] at hzz
  simp only [← her] at h1
  simp only [← hby] at h2 h3 hzz hbl
  simp only [← hps] at h3
  have hal := fun hz hc => all_len wt byz R Q hz hc
  have hcn : cntR byz R Q = R.length * Q.length * byz.length + Q.length * (Q.length + 1) / 2 * (if at_ byz 0 = 0#16 then 0 else byz.length) := rfl
  generalize cntR byz R Q = cn at *
  generalize allL wt byz R Q = al at *
  clear h4 hps hq hby her h hT
  have H1 := Lib.hid h1; have H2 := Lib.hid h2; have H3 := Lib.hid h3; have H4 := Lib.hid h4'; have HAL := Lib.hid hal; have HCN := Lib.hid hcn; have HZZ := Lib.hid hzz
  have HFA := Lib.hid (fun (W : World) (k : Keeps W1 W) => (hb.keep k).conj)
  clear h1 h2 h3 h4' hal hcn hzz
  generalize R.length = nr at *
  generalize Q.length = nq at *
  generalize F.length = nf at *
  obtain ⟨c0, c1, c2, c3, c4, c5⟩ := hb.conj
  clear hb
  have hcs : er = 0 ∨ er ≠ 0 ∧ (er != 0) = true ∧ (er == 0) = false := by
    by_cases hz : er = 0
    · exact .inl hz
    · exact .inr ⟨hz, by simpa using hz, by simpa using hz⟩
  rcases hcs with rfl | ⟨hne, hb1, hb2⟩
  rotate_left
  · rw [if_pos hne]
    go_enter Tryd.func15, Tryd.ntmps15
    go_wp2_with fail
    rw [← hW1]
    clear hW1 c0 c1 c2 c3 c4 c5 hne
    refine (H1.out _ K0).mono ?_
    rintro e w3 ⟨rfl, K1⟩
    go_wp2_with fail
    go_ret2
    exact ⟨_, rfl, Own.nil _ _ (K0.trans K1)⟩
  rw [if_neg (by simp)]
  obtain ⟨res, hres⟩ : ∃ r, r = if 20000 < cn then (([], 3) : List It × Int) else if q = true then ([], 12) else (ps, 0) := ⟨_, rfl⟩
  rw [← hres]
  have HRES := Lib.hid hres
  clear hres
  obtain ⟨hp, hz⟩ := HZZ.out rfl
  have HZ := Lib.hid hz
  clear hz HZZ
  go_enter Tryd.func15, Tryd.ntmps15
  go_wp2_with fail
  rw [← hW1]
  clear hW1 c0 c1 c2 c3 c4 c5
  refine (H1.out _ K0).mono ?_
  rintro e w3 ⟨rfl, J⟩
  obtain ⟨c0, c1, c2, c3, c4, c5⟩ := HFA.out _ J
  go_wp2_with fail
  clear c0 c1 c2 c3 c4 c5
  go_region_held3 (fun w' => w'.cell? ⟨w.heap.size, 0, none⟩ = some (.string nm) ∧ w'.cell? ⟨w.heap.size, 1, none⟩ = some (.int .i64 kd) ∧ w'.cell? ⟨w.heap.size, 2, none⟩ = some (.int .u16 (sv M)) ∧ w'.cell? ⟨w.heap.size, 3, none⟩ = some (.slice ar nr cr) ∧ w'.cell? ⟨w.heap.size, 4, none⟩ = some (.slice aw nq cw) ∧ w'.cell? ⟨w.heap.size, 5, none⟩ = some (.slice af nf cf)) (first | with_reducible exact HFA.out _ J.drew | with_reducible exact HFA.out _ J | go_keep) ((go_at_call 36; refine (H2.out _ (K0.trans J.drew)).mono ?_; rintro e W7 ⟨v7, rfl, hO7⟩; obtain ⟨a7, c7, rfl, hR7⟩ := hO7.rd; replace J := Keeps.trans J.drew hO7.2))
  have x0 := hR7.at hp
  have y0 := hR7.isSome hp
  have hp' : (0 : Int) < (byz.length : Int) := by omega
  have HC := Lib.hid (HFA.out _ J)
  obtain ⟨c0, c1, c2, c3, c4, c5⟩ := HC.out
  -- the count
  have w1 : IntKind.i64.wrap ((nr : Int) * (nq : Int)) = ((nr * nq : Nat) : Int) := by
    have := Nat.mul_le_mul hR hQ
    rw [← Int.natCast_mul]; exact wrap_nat _ (by omega)
  have b1 : nr * nq ≤ 4096 * 4096 := Nat.mul_le_mul hR hQ
  have b2 : nr * nq * byz.length ≤ 4096 * 4096 * 100001 := Nat.mul_le_mul b1 (by omega)
  have b3 : nq * (nq + 1) ≤ 4096 * 4097 := Nat.mul_le_mul hQ (by omega)
  have w2 : IntKind.i64.wrap (((nr * nq : Nat) : Int) * (byz.length : Int)) = ((nr * nq * byz.length : Nat) : Int) := by
    rw [← Int.natCast_mul]; exact wrap_nat _ (by omega)
  have w3 : IntKind.i64.wrap ((nq : Int) + 1) = ((nq + 1 : Nat) : Int) := by
    rw [show ((nq : Int) + 1) = ((nq + 1 : Nat) : Int) by omega]; exact wrap_nat _ (by omega)
  have w4 : IntKind.i64.wrap ((nq : Int) * ((nq + 1 : Nat) : Int)) = ((nq * (nq + 1) : Nat) : Int) := by
    rw [← Int.natCast_mul]; exact wrap_nat _ (by omega)
  have w5 : IntKind.i64.wrap (((nq * (nq + 1) : Nat) : Int).tdiv 2) = ((nq * (nq + 1) / 2 : Nat) : Int) := by
    rw [show ((nq * (nq + 1) : Nat) : Int).tdiv 2 = ((nq * (nq + 1) / 2 : Nat) : Int) from rfl]; exact wrap_nat _ (by omega)
  have b5 : ∀ bad, bad ≤ byz.length → nq * (nq + 1) / 2 * bad ≤ 4096 * 4097 * 100001 := fun bad hb => Nat.mul_le_mul (by omega) (by omega)
  have w6 : ∀ bad, bad ≤ byz.length → IntKind.i64.wrap (((nq * (nq + 1) / 2 : Nat) : Int) * (bad : Int)) = ((nq * (nq + 1) / 2 * bad : Nat) : Int) := fun bad hb => by
    have := b5 bad hb
    rw [← Int.natCast_mul]; exact wrap_nat _ (by omega)
  have w7 : ∀ bad, bad ≤ byz.length → IntKind.i64.wrap (((nr * nq * byz.length : Nat) : Int) + ((nq * (nq + 1) / 2 * bad : Nat) : Int)) = ((nr * nq * byz.length + nq * (nq + 1) / 2 * bad : Nat) : Int) := fun bad hb => by
    have := b5 bad hb
    rw [← Int.natCast_add]; exact wrap_nat _ (by omega)
  obtain ⟨p1, hp1⟩ : ∃ p : Int, p = ((nr * nq : Nat) : Int) := ⟨_, rfl⟩
  obtain ⟨p2, hp2⟩ : ∃ p : Int, p = ((nr * nq * byz.length : Nat) : Int) := ⟨_, rfl⟩
  obtain ⟨p3, hp3⟩ : ∃ p : Int, p = ((nq + 1 : Nat) : Int) := ⟨_, rfl⟩
  obtain ⟨p4, hp4⟩ : ∃ p : Int, p = ((nq * (nq + 1) : Nat) : Int) := ⟨_, rfl⟩
  obtain ⟨p5, hp5⟩ : ∃ p : Int, p = ((nq * (nq + 1) / 2 : Nat) : Int) := ⟨_, rfl⟩
  rw [← hp1] at w1 w2
  rw [← hp2] at w2 w7
  rw [← hp3] at w3 w4
  rw [← hp4] at w4 w5
  rw [← hp5] at w5 w6
  have W6 := Lib.hid w6; have W7 := Lib.hid w7
  clear w6 w7 b1 b2 b3 b5 hp1 hp2 hp3 hp4 hp5
  have cont : ∀ bad : Nat, bad ≤ byz.length → (if at_ byz 0 = 0#16 then 0 else byz.length) = bad → cn = nr * nq * byz.length + nq * (nq + 1) / 2 * bad := fun bad _ hb => by rw [HCN.out, hb]
  have CONT := Lib.hid cont
  clear cont
  have fin : ∀ bad : Nat, bad ≤ byz.length → (if at_ byz 0 = 0#16 then 0 else byz.length) = bad → ∃ p6 : Int, IntKind.i64.wrap (p5 * (bad : Int)) = p6 ∧ IntKind.i64.wrap (p2 + p6) = (cn : Int) := fun bad hb he => ⟨_, W6.out bad hb, by rw [W7.out bad hb, CONT.out bad hb he]⟩
  have FIN := Lib.hid fin
  clear fin W6 W7 CONT HCN
  have KK := K0.trans J
  cases hz0 : (at_ byz 0 == 0#16)
  · have hz1 : ¬ at_ byz 0 = 0#16 := by simpa using hz0
    obtain ⟨p6, e6, e7⟩ := FIN.out byz.length (Nat.le_refl _) (by rw [if_neg hz1])
    have HZ1 := Lib.hid hz1
    clear hz1
    by_cases hc : 20000 < cn
    · have hr : res = ([], 3) := by rw [HRES.out, if_pos hc]
      have HR := Lib.hid hr
      clear hr HRES
      have hd : decide ((20000 : Int) < (cn : Int)) = true := by simp; omega
      clear hc
      go_wp2_with fail
      go_ret2
      rw [HR.out]
      exact ⟨_, rfl, Own.nil _ _ KK⟩
    · have hr : res = if q = true then ([], 12) else (ps, 0) := by rw [HRES.out, if_neg hc]
      have HR := Lib.hid hr
      clear hr HRES
      have hd : decide ((20000 : Int) < (cn : Int)) = false := by simp; omega
      have hcall := H3.out (HAL.out HZ.out hc) _ KK
      have HCA := Lib.hid hcall
      clear hcall hc
      go_wp2_with fail
      clear c0 c1 c2 c3 c4 c5 x0 y0
      refine HCA.out.mono ?_
      rintro e w9 ⟨v9, rfl, hO9⟩
      obtain ⟨a9, c9, rfl, hR9⟩ := hO9.rd
      have hcf := H4.out _ _ _ hR9
      have HO := Lib.hid hO9; have HCF := Lib.hid hcf
      clear hO9 hR9 hcf
      cases q
      all_goals
        go_wp2_with fail
        refine HCF.out.mono ?_
        rintro e w10 ⟨rfl, K10⟩
        go_wp2_with fail
        go_ret2
      · rw [HR.out, if_neg (by simp)]
        exact ⟨_, rfl, (HO.out.keep K10).since KK⟩
      · rw [HR.out]; first | rw [if_pos trivial] | rw [if_pos rfl]
        exact ⟨_, rfl, Own.nil _ _ (KK.trans (HO.out.2.trans K10))⟩
  · have hz1 : at_ byz 0 = 0#16 := by simpa using hz0
    obtain ⟨p6, e6, e7⟩ := FIN.out 0 (Nat.zero_le _) (by rw [if_pos hz1])
    have e6' : IntKind.i64.wrap (p5 * 0) = p6 := e6
    have HZ1 := Lib.hid hz1
    have hp6 : p6 = 0 := by rw [← e6', Int.mul_zero]; rfl
    subst hp6
    have e8 : IntKind.i64.wrap p2 = (cn : Int) := by rw [← e7, Int.add_zero]
    clear hz1 e6 e6'
    by_cases hc : 20000 < cn
    · have hr : res = ([], 3) := by rw [HRES.out, if_pos hc]
      have HR := Lib.hid hr
      clear hr HRES
      have hd : decide ((20000 : Int) < (cn : Int)) = true := by simp; omega
      clear hc
      go_wp2_with fail
      go_ret2
      rw [HR.out]
      exact ⟨_, rfl, Own.nil _ _ KK⟩
    · have hr : res = if q = true then ([], 12) else (ps, 0) := by rw [HRES.out, if_neg hc]
      have HR := Lib.hid hr
      clear hr HRES
      have hd : decide ((20000 : Int) < (cn : Int)) = false := by simp; omega
      have hcall := H3.out (HAL.out HZ.out hc) _ KK
      have HCA := Lib.hid hcall
      clear hcall hc
      go_wp2_with fail
      clear c0 c1 c2 c3 c4 c5 x0 y0
      refine HCA.out.mono ?_
      rintro e w9 ⟨v9, rfl, hO9⟩
      obtain ⟨a9, c9, rfl, hR9⟩ := hO9.rd
      have hcf := H4.out _ _ _ hR9
      have HO := Lib.hid hO9; have HCF := Lib.hid hcf
      clear hO9 hR9 hcf
      cases q
      all_goals
        go_wp2_with fail
        refine HCF.out.mono ?_
        rintro e w10 ⟨rfl, K10⟩
        go_wp2_with fail
        go_ret2
      · rw [HR.out, if_neg (by simp)]
        exact ⟨_, rfl, (HO.out.keep K10).since KK⟩
      · rw [HR.out]; first | rw [if_pos trivial] | rw [if_pos rfl]
        exact ⟨_, rfl, Own.nil _ _ (KK.trans (HO.out.2.trans K10))⟩
end Go.Proofs.YtcnccoinhohbeaaDoor
