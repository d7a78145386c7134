/- Texts joined into one, what is needed of them (a program of ours). -/
import Derived.Test.YtijknodekomdfaaGreatDoorBKH
namespace Go.Proofs.YtijknodekomdfaaGreatDoor
open Go.RowKit Go.Lib Go.Shelf

def bl (l : List Nat) : List Value := l.map fun (c : Nat) => .int .u8 (c : Int)
theorem bl_at {w : World} {a : Option Addr} {n c : Nat} {l : List Nat} (h : Rd w a n c 1 (bl l)) {i : Nat} (hi : i < l.length) : w.cell? (adr a i) = some (.int .u8 ((l.getD i 0 : Nat) : Int)) :=
  h.cell i _ (by simp [bl, List.getD, hi])
theorem drop_ch (l : List Nat) (k : Nat) (h : k < l.length) : l.drop k = l.getD k 0 :: l.drop (k + 1) := by
  rw [List.drop_eq_getElem_cons h]; simp [List.getD, h]
theorem c5 {W : World} {B : Nat} {T : TypeId} {v0 v1 v2 v3 v4 : Value} (h : Blk W B T #[v0, v1, v2, v3, v4]) : W.cell? ⟨B, 0, none⟩ = some v0 ∧ W.cell? ⟨B, 1, none⟩ = some v1 ∧ W.cell? ⟨B, 2, none⟩ = some v2 ∧ W.cell? ⟨B, 3, none⟩ = some v3 ∧ W.cell? ⟨B, 4, none⟩ = some v4 :=
  ⟨h.cell 0 rfl, h.cell 1 rfl, h.cell 2 rfl, h.cell 3 rfl, h.cell 4 rfl⟩
theorem f5 {W : World} {B : Nat} {T : TypeId} {cs : Array Value} (h : Blk W B T cs) : W.frozen? ⟨B, 0, none⟩ = false ∧ W.frozen? ⟨B, 1, none⟩ = false ∧ W.frozen? ⟨B, 2, none⟩ = false ∧ W.frozen? ⟨B, 3, none⟩ = false ∧ W.frozen? ⟨B, 4, none⟩ = false :=
  ⟨h.frozen 0, h.frozen 1, h.frozen 2, h.frozen 3, h.frozen 4⟩
abbrev st5 (W : World) (B : Nat) (u0 u1 u2 u3 u4 : Value) : World := ((((W.setCell ⟨B, 0, none⟩ u0).setCell ⟨B, 1, none⟩ u1).setCell ⟨B, 2, none⟩ u2).setCell ⟨B, 3, none⟩ u3).setCell ⟨B, 4, none⟩ u4
theorem set5 {W : World} {B : Nat} {T : TypeId} {v0 v1 v2 v3 v4 : Value} (h : Blk W B T #[v0, v1, v2, v3, v4]) (u0 u1 u2 u3 u4 : Value) : Blk (st5 W B u0 u1 u2 u3 u4) B T #[u0, u1, u2, u3, u4] :=
  ((((h.set 0 u0).set 1 u1).set 2 u2).set 3 u3).set 4 u4
/-- a run as a value -/
def vCast (n : Int) (byz : S) (source : Int) (nv gv : Value) : Value := .agg #[.int .i64 n, .int .u16 (sv byz), .int .i64 source, nv, gv]
theorem resCast {fn : Func} {p u : Tmp} (h : fn.results = #[.cell p 75, .tmp u]) {tmps : Array Value} {W : World} {B : Nat} {n : Int} {byz : S} {source : Int} {nv gv v : Value}
    (hB : Blk W B 75 #[.int .i64 n, .int .u16 (sv byz), .int .i64 source, nv, gv]) (tp : tmps.getD p undef = .pointer (some ⟨B, 0, none⟩)) (tu : tmps.getD u undef = v) :
    (results fn tmps).run Tryz.prog W = .ok (.tuple #[vCast n byz source nv gv, v]) W := by
  rw [results_cell_tmp h, tp, tu]
  obtain ⟨k0, k1, k2, k3, k4⟩ := c5 hB
  simp [go_sem, vCast, asAddr, loadVar, loadCells, loadCellsFrom, k0, k1, k2, k3, k4]
section
variable {w0 W W' : World} {B : Nat} {fv bv : Value} {n : Nat} {byz : S} {source : Int} {nv : Value} {nas : List NA} {gv : Value} {fl : List Ct} {lv : Value} {ls : List Ct}
theorem RunW.lies (h : RunW w0 W B fv bv n byz source nv nas gv fl lv ls) {ov : Value} {LL : List Ct} (hO : Own 145 4 W W' ov LL.length (cl LL)) : RunW w0 W' B fv bv n byz source nv nas gv fl ov LL := by
  have h2 := h.keep hO.2
  refine ⟨h2.box, h2.lo, h2.own, h2.fli, hO.since h.keeps, ?_, h2.rows⟩
  cases he : ov.ownBlock with
  | none => exact .inl rfl
  | some k =>
    right
    intro e
    have h3 := (hO.1.lt k he).1
    have h4 := (h.fli.1.lt k e.symm).2
    omega
/-- the run is copied into the result's box -/
theorem RunW.cast (h : RunW w0 W B fv bv n byz source nv nas gv fl lv ls) {w : World} {C : Nat} {cs : Array Value} (hC : Blk w0 C 75 cs) (hlo : w.heap.size ≤ C) (hk : Keeps w w0) (N : Int) (z : S) (s : Int) (nv' gv' : Value) :
    Own 153 9 w (st5 W C (.int .i64 N) (.int .u16 (sv z)) (.int .i64 s) nv' gv') nv nas.length (nl nas) ∧ Own 145 4 w (st5 W C (.int .i64 N) (.int .u16 (sv z)) (.int .i64 s) nv' gv') gv fl.length (cl fl) ∧ ∀ y ∈ nas, NOk (st5 W C (.int .i64 N) (.int .u16 (sv z)) (.int .i64 s) nv' gv') y := by
  have hB := hC.keep h.keeps
  have b1 := hB.set 0 (.int .i64 N); have b2 := b1.set 1 (.int .u16 (sv z)); have b3 := b2.set 2 (.int .i64 s); have b4 := b3.set 3 nv'
  refine ⟨?_, ?_, fun y hy => ?_⟩
  · exact own_oth9 (own_oth9 (own_oth9 (own_oth9 (own_oth9 (h.own.since hk) hB (by decide) hlo 0 _) b1 (by decide) hlo 1 _) b2 (by decide) hlo 2 _) b3 (by decide) hlo 3 _) b4 (by decide) hlo 4 _
  · exact own_oth9 (own_oth9 (own_oth9 (own_oth9 (own_oth9 (h.fli.since hk) hB (by decide) hlo 0 _) b1 (by decide) hlo 1 _) b2 (by decide) hlo 2 _) b3 (by decide) hlo 3 _) b4 (by decide) hlo 4 _
  · have hN := h.rows y hy
    exact ⟨((((hN.1.set hB (by decide) 0 _).set b1 (by decide) 1 _).set b2 (by decide) 2 _).set b3 (by decide) 3 _).set b4 (by decide) 4 _, ((((hN.2.set hB (by decide) 0 _).set b1 (by decide) 1 _).set b2 (by decide) 2 _).set b3 (by decide) 3 _).set b4 (by decide) 4 _⟩
end
theorem dst9 {n : Nat} {nas : List NA} {fl : List Ct} (h : DstOk n ⟨nas.map NA.x, fl⟩) {i : Nat} (hi : i < fl.length) : ∃ d : Nat, (ctA fl i).dst = (d : Int) ∧ d < n := h.2 _ (ctA_mem hi)
theorem small9 {nas : List NA} {fl : List Ct} (h : SmallS ⟨nas.map NA.x, fl⟩) : ∀ z ∈ nas, z.x.echoes.length ≤ 1000 ∧ z.x.readies.length ≤ 1000 := fun z hz => by
  have := (h z.x (List.mem_map.2 ⟨z, hz, rfl⟩)).len
  omega
theorem run_stuck {f b : List S} {n : Nat} {byz : S} {lies : List Ct} {st : St} (h : st.flight.length + lies.length = 0) : ∀ chs, runS f b n byz lies st chs = st
  | [] => rfl
  | c :: t => by
    show runS f b n byz lies (stepS f b n byz lies st c) t = st
    rw [show stepS f b n byz lies st c = st by unfold stepS; rw [if_pos h]]
    exact run_stuck h t
theorem flatMap_le9 {α β : Type} (g : α → List β) (m : Nat) (h : ∀ a, (g a).length ≤ m) : ∀ l : List α, (l.flatMap g).length ≤ l.length * m
  | [] => by simp
  | a :: t => by
    have := flatMap_le9 g m h t
    have := h a
    rw [List.flatMap_cons, List.length_append, List.length_cons, Nat.add_mul]
    omega
theorem lieL_len (n : Nat) (byz : S) (source : Nat) (hn : n ≤ 8) : (lieL n byz source strX strY).length ≤ 2000 := by
  have hc : (corrL n byz).length ≤ 8 := by
    unfold corrL
    exact Nat.le_trans (List.length_filter_le _ _) (by simp; exact hn)
  unfold lieL
  refine Nat.le_trans (flatMap_le9 _ 48 (fun s => ?_) _) (by rw [List.length_range]; omega)
  split
  · simp
  · refine flatMap_le9 _ 16 (fun k => ?_) [1, 2, 3]
    split
    · simp
    · exact flatMap_le9 _ 8 (fun v => by rw [List.length_map]; exact hc) [strX, strY]
theorem start9 {n : Nat} {byz : S} {source : Nat} (hn : n ≤ 8) (fl : List Ct) (h : fl = if corr n byz source then toAll n byz ⟨1, source, 0, strX⟩ else []) :
    startS n byz source strX 0 = ⟨(startNA n).map NA.x, fl⟩ ∧ SmallS ⟨(startNA n).map NA.x, fl⟩ ∧ DstOk n ⟨(startNA n).map NA.x, fl⟩ ∧ measS n ⟨(startNA n).map NA.x, fl⟩ ≤ 200 := by
  rw [startNA_x]
  refine ⟨by subst h; rfl, fun x hx => ?_, ⟨by simp [startN], fun c hc => ?_⟩, ?_⟩
  · obtain ⟨i, _, rfl⟩ := List.mem_map.1 hx
    exact small_of (by simp [nd0]) (by simp [nd0])
  · subst h
    dsimp only at hc
    split at hc
    · obtain ⟨i, hi, rfl⟩ := (mem_toAll _ _).1 hc
      exact ⟨i, rfl, corr_lt hi⟩
    · simp at hc
  · have h1 : fl.length ≤ n := by
      subst h
      split
      · exact toAll_len n byz _
      · simp
    have h2 : ((startN n).map unS).sum = n * 2 := by
      unfold startN
      rw [List.map_map]
      have : (unS ∘ fun (i : Nat) => ({ nd0 with id := (i : Int) } : Nd)) = fun _ => 2 := by funext i; rfl
      rw [this]
      simp [List.map_const']
    unfold measS measN
    dsimp only
    rw [h2]
    have : n * (n * 2) ≤ 8 * (8 * 2) := Nat.mul_le_mul hn (Nat.mul_le_mul_right _ hn)
    omega
theorem step_del {f b : List S} {n : Nat} {byz : S} {lies : List Ct} {st : St} {T i c : Nat} (h0 : st.flight.length + lies.length ≠ 0) (hT : T = st.flight.length + lies.length) (hi : i = c % T) (h1 : i < st.flight.length) : stepS f b n byz lies st c = deliv f b n byz st i := by
  unfold stepS
  rw [if_neg h0, ← hT, ← hi, if_pos h1]
theorem step_lie {f b : List S} {n : Nat} {byz : S} {lies : List Ct} {st : St} {T i c : Nat} (h0 : st.flight.length + lies.length ≠ 0) (hT : T = st.flight.length + lies.length) (hi : i = c % T) (h1 : ¬ i < st.flight.length) : stepS f b n byz lies st c = ⟨st.nodes, st.flight ++ [lies.getD (i - st.flight.length) ct0]⟩ := by
  unfold stepS
  rw [if_neg h0, ← hT, ← hi, if_neg h1]
theorem lie_at {W : World} {base : Nat} {al : Option Addr} {cl9 : Nat} {LL : List Ct} (h : W.ownsRow base 145 4 (.slice al LL.length cl9) LL.length (cl LL)) {j : Nat} (hj : j < LL.length) :
    W.cell? (adr al (j * 4)) = some (.int .i64 (ctA LL j).kind) ∧ W.cell? ⟨(adr al (j * 4)).block, (adr al (j * 4)).off + 1, none⟩ = some (.int .i64 (ctA LL j).src) ∧ W.cell? ⟨(adr al (j * 4)).block, (adr al (j * 4)).off + 2, none⟩ = some (.int .i64 (ctA LL j).dst) ∧ W.cell? ⟨(adr al (j * 4)).block, (adr al (j * 4)).off + 3, none⟩ = some (.string (ctA LL j).v) := by
  obtain ⟨a, c, e, hr⟩ := own_rd h
  injection e with e1 e2 e3
  subst e1
  exact cl_at hr hj
theorem dst_snoc {n : Nat} {nodes : List Nd} {fl : List Ct} {byz : S} {source : Nat} {x : Ct} (h : DstOk n ⟨nodes, fl⟩) (hx : LieOk n byz source x) : DstOk n ⟨nodes, fl ++ [x]⟩ := by
  refine ⟨h.1, fun c hc => ?_⟩
  rcases List.mem_append.1 hc with hc | hc
  · exact h.2 c hc
  · have e := List.mem_singleton.1 hc
    subst e
    obtain ⟨d, _, h1, h2, _⟩ := hx
    exact ⟨d, h1, corr_lt h2⟩
set_option maxRecDepth 200000 in
set_option maxHeartbeats 4000000 in
theorem runOk39_any (w : World) (fa : Option Addr) (fm fc : Nat) (f : List S) (ba : Option Addr) (bm bc : Nat) (b : List S) (n : Nat) (byz : S) (source : Nat) (ca : Option Addr) (cm cc : Nat) (chs : List Nat)
    (hf : Rd w fa fm fc 1 (sl f)) (hb : Rd w ba bm bc 1 (sl b)) (hch : Rd w ca cm cc 1 (bl chs)) (hn1 : 1 ≤ n) (hn2 : n ≤ 8) (hbz : byz >>> n = 0#16) (hsn : source < n) (hck : chk39 f b n = 0) (hcl : chs.length ≤ 200) (h256 : ∀ c ∈ chs, c < 256) :
    Calls Tryz.prog 30 #[.slice fa fm fc, .slice ba bm bc, .int .i64 n, .int .u16 (sv byz), .int .i64 source, .slice ca cm cc] w fun e w' => ∃ nv nas gv fl, e = .returned (.tuple #[vCast n byz source nv gv, .int .i64 0]) ∧
      Own 153 9 w w' nv nas.length (nl nas) ∧ Own 145 4 w w' gv fl.length (cl fl) ∧ (∀ z ∈ nas, NOk w' z) ∧ runS f b n byz (lieL n byz source strX strY) (startS n byz source strX 0) chs = ⟨nas.map NA.x, fl⟩ := by
  have hcm : chs.length = cm := by have := hch.len; simpa [bl] using this
  subst hcm
  have HC256 := Lib.hid (fun k : Nat => show chs.getD k 0 < 256 by
    rw [List.getD]
    cases h : chs[k]? with
    | none => simp
    | some c => exact h256 c (List.mem_of_getElem? h))
  have hmin : min n 16 = n := by omega
  have hbz2 : (byz >>> n != 0#16) = false := by rw [hbz]; rfl
  have kC := (Keeps.refl w).alloc (.cells #[.int .i64 0, .int .u16 0, .int .i64 0, .slice none 0 0, .slice none 0 0] 75)
  have hcast := Blk.new w 75 #[.int .i64 0, .int .u16 0, .int .i64 0, .slice none 0 0, .slice none 0 0]
  have hchk := check9_any n (by omega) fa fm fc f ba bm bc b _ (hf.keep kC) (hb.keep kC)
  rw [hck] at hchk
  have HCK := Lib.hid hchk; have HKC := Lib.hid kC; have HC0 := Lib.hid hcast
  have HFR := Lib.hid hf; have HBR := Lib.hid hb; have HCH := Lib.hid hch
  obtain ⟨m, hm⟩ : ∃ m, m = chs.length := ⟨_, rfl⟩
  rw [← hm] at hcl
  have HM := Lib.hid hm
  clear hchk kC hcast hck hf hb hch hbz h256
  rw [← hm]
  clear hm
  go_enter Tryz.func30, Tryz.ntmps30
  go_wp2_with fail
  clear hbz2
  refine HCK.out.mono ?_
  rintro e w1 ⟨rfl, k1⟩
  have HK01 := Lib.hid (HKC.out.trans k1)
  have HCAST := Lib.hid (HC0.out.keep k1)
  have HCLO : Hid (w.heap.size ≤ w.heap.size) := Lib.hid (Nat.le_refl _)
  clear k1 HCK HKC HC0
  have hnew := newRun39_any w1 fa fm fc ba bm bc n byz source (by omega)
  have HNEW := Lib.hid hnew
  clear hnew
  go_wp2_with fail
  refine HNEW.out.mono ?_
  rintro e w2 ⟨B, nv0, rfl, k2, hR⟩
  clear HNEW k2
  have hcor := correct39_any n (by omega) byz source B (.slice fa fm fc) (.slice ba bm bc) (.int .i64 source) nv0 (.slice none 0 0) w2 hR.box
  rw [corrI_nat] at hcor
  have HCOR := Lib.hid hcor
  clear hcor
  cases hq : corr n byz source with
  | true =>
    rw [hq] at HCOR
    have hst := start9 hn2 (toAll n byz ⟨1, source, 0, strX⟩) (by rw [hq]; rfl)
    have hall := all39_any w1 w2 B (.slice fa fm fc) (.slice ba bm bc) n byz source nv0 (startNA n) (.slice none 0 0) [] (.slice none 0 0) [] ⟨1, source, 0, strX⟩ (by omega) (by simp) hR
    rw [List.nil_append] at hall
    unfold vc at hall
    have HALL := Lib.hid hall
    clear hall hR hq
    go_wp2_with fail
    refine HCOR.out.mono ?_
    rintro e w' ⟨rfl, rfl⟩
    clear HCOR
    go_wp2_with fail
    refine HALL.out.mono ?_
    rintro e w3 ⟨rfl, gv1, hR, _, _⟩
    clear HALL
    generalize toAll n byz ⟨1, source, 0, strX⟩ = F1 at *
    have HS1 := Lib.hid hst.1
    have HG1 := Lib.hid hst.2
    clear hst
    have hlie := lies39_any w1 w3 B (.slice fa fm fc) (.slice ba bm bc) n byz source nv0 (startNA n) gv1 F1 (.slice none 0 0) [] (by omega) hR
    have HLIE := Lib.hid hlie
    clear hlie
    go_wp2_with fail
    refine HLIE.out.mono ?_
    rintro e w4 ⟨ov, rfl, hL⟩
    clear HLIE
    obtain ⟨LL, hLL⟩ : ∃ l, l = lieL n byz source strX strY := ⟨_, rfl⟩
    rw [← hLL] at hL
    have hll : LL.length ≤ 2000 := by rw [hLL]; exact lieL_len n byz source hn2
    have hlok : ∀ c ∈ LL, LieOk n byz source c := fun c hc => lieL_ok (hLL ▸ hc)
    have HLL := Lib.hid hLL
    have HLOK := Lib.hid hlok
    clear hLL hlok
    obtain ⟨al, cl9, rfl, _⟩ := hL.rd
    have hR := hR.lies hL
    have HR := Lib.hid hR
    clear hR hL
    go_wp2_with fail
    go_loopw [72] (fun v wr => ∃ (k : Nat) (nv : Value) (nas : List NA) (gv : Value) (fl : List Ct), k ≤ m ∧ v = .int .i64 k ∧ RunW w1 wr B (.slice fa fm fc) (.slice ba bm bc) n byz source nv nas gv fl (.slice al LL.length cl9) LL ∧ Hid (runS f b n byz LL (startS n byz source strX 0) chs = runS f b n byz LL ⟨nas.map NA.x, fl⟩ (chs.drop k)) ∧ Hid (SmallS ⟨nas.map NA.x, fl⟩) ∧ Hid (DstOk n ⟨nas.map NA.x, fl⟩) ∧ Hid (measS n ⟨nas.map NA.x, fl⟩ ≤ 200 + k)) (fun v _ => m - (RowKit.intOf v).toNat)
    case atStart => exact ⟨0, nv0, startNA n, gv1, F1, Nat.zero_le _, rfl, HR.out, Lib.hid (by rw [List.drop_zero]; show runS _ _ _ _ _ _ _ = _; rw [HS1.out]), Lib.hid HG1.out.1, Lib.hid HG1.out.2.1, Lib.hid HG1.out.2.2⟩
    case round =>
      clear HR
      obtain ⟨k, nv, nas, gv, fl, hk, rfl, hR, HRUN, HSM, HDS, HME⟩ := hrel
      have hnl : nas.length = n := by have := HDS.out.1; simpa using this
      have hfl : fl.length ≤ 400 := by have h := HME.out; unfold measS at h; dsimp only at h; omega
      obtain ⟨ag, cg, rfl, _⟩ := hR.fli.rd
      obtain ⟨an, cn, rfl, _⟩ := hR.own.rd
      have HNL := Lib.hid hnl
      clear hnl
      by_cases hlt : k < m
      · obtain ⟨c, hc⟩ : ∃ c, c = chs.getD k 0 := ⟨_, rfl⟩
        have hcc := bl_at (HCH.out.keep (HK01.out.trans hR.keeps)) (HM.out ▸ hlt)
        rw [← hc] at hcc
        have hcl : c < 256 := by rw [hc]; exact HC256.out k
        have hds := drop_ch chs k (HM.out ▸ hlt)
        rw [← hc] at hds
        have HDR := Lib.hid hds
        have hao := (HCH.out.keep (HK01.out.trans hR.keeps)).isSome (by rw [← HM.out]; omega)
        clear hc hds
        have e6 := hR.box.cell 6 (v := .slice ag fl.length cg) rfl
        obtain ⟨T, hT⟩ : ∃ T, T = fl.length + LL.length := ⟨_, rfl⟩
        have hTI : (fl.length : Int) + (LL.length : Int) = (T : Int) := by omega
        have hTb : T ≤ 2400 := by omega
        have HT := Lib.hid hT
        clear hT
        by_cases hT0 : T = 0
        · subst hT0
          clear e6
          skip
          have HRE := Lib.hid hR
          clear hR
          skip
          obtain ⟨e0, e1, e2, e3, e4, e5, e6⟩ := HRE.out.box.c7
          obtain ⟨d0, d1, d2, d3, d4⟩ := c5 (HCAST.out.keep HRE.out.keeps)
          obtain ⟨g0, g1, g2, g3, g4⟩ := f5 (HCAST.out.keep HRE.out.keeps)
          go_wp2_with fail
          clear e0 e1 e2 e3 e4 e5 e6 d0 d1 d2 d3 d4 g0 g1 g2 g3 g4
          refine bodyPost_ret (resCast (n := n) (byz := byz) (source := source) (nv := .slice an nas.length cn) (gv := .slice ag fl.length cg) rfl (set5 (HCAST.out.keep HRE.out.keeps) _ _ _ _ _) rfl rfl) rfl ?_
          have hR := HRE.out.cast HCAST.out HCLO.out HK01.out n byz source (.slice an nas.length cn) (.slice ag fl.length cg)
          exact ⟨_, nas, _, fl, rfl, hR.1, hR.2.1, hR.2.2, by rw [← HLL.out, HRUN.out, HDR.out]; exact run_stuck (by dsimp only; have := HT.out; omega) _⟩
        · have hrem : ((c : Int).tmod (T : Int)) = ((c % T : Nat) : Int) := by rw [Int.tmod_eq_emod_of_nonneg (by omega)]; omega
          obtain ⟨i, hi⟩ : ∃ i, i = c % T := ⟨_, rfl⟩
          rw [← hi] at hrem
          have hit : i < T := by rw [hi]; exact Nat.mod_lt _ (by omega)
          have HI := Lib.hid hi
          clear hi
          have hTz : (T : Int) ≠ 0 := by omega
          by_cases hif : i < fl.length
          · have hd := dst9 HDS.out hif
            have hdel := deliver39_any w1 wr B fa fm fc f ba bm bc b n byz source (.slice an nas.length cn) nas (.slice ag fl.length cg) fl (.slice al LL.length cl9) LL i (HFR.out.keep HK01.out) (HBR.out.keep HK01.out) (by omega) (by omega) hif (by rw [HNL.out]; exact hd) (small9 HSM.out) hR
            have HDEL := Lib.hid hdel
            have HIF := Lib.hid hif
            clear hdel hd hR
            go_wp2_with fail
            refine HDEL.out.mono ?_
            rintro e W5 ⟨rfl, nas2, gv2, fl2, hR2, _, hst⟩
            have HR2 := Lib.hid hR2
            have HST := Lib.hid hst
            clear hR2 hst HDEL
            have hstep := step_del (f := f) (b := b) (n := n) (byz := byz) (st := ⟨nas.map NA.x, fl⟩) (lies := LL) (by have := HT.out; dsimp only; omega) HT.out HI.out (c := c) HIF.out
            have HSTEP := Lib.hid hstep
            clear hstep
            go_wp2_with fail
            go_roundw
            case rel => exact ⟨k + 1, _, nas2, gv2, fl2, by omega, by go_num, HR2.out, Lib.hid (by rw [HRUN.out, HDR.out, HST.out]; show runS f b n byz LL (stepS f b n byz LL _ c) _ = _; rw [HSTEP.out]), Lib.hid (by rw [HST.out]; exact deliv_small HSM.out i), Lib.hid (by rw [HST.out]; exact deliv_dst HDS.out i), Lib.hid (by rw [HST.out]; have h1 := deliv_meas (f := f) (b := b) (n := n) (byz := byz) HIF.out (dst_at HDS.out HIF.out); have h2 := HME.out; omega)⟩
            case measure => simp [RowKit.intOf]; omega
          · obtain ⟨j, hj⟩ : ∃ j, j = i - fl.length := ⟨_, rfl⟩
            have hij : (i : Int) - (fl.length : Int) = (j : Int) := by omega
            have hjl : j < LL.length := by have := HT.out; omega
            have hjw : IntKind.i64.wrap (j : Int) = (j : Int) := by rw [IntKind.wrap_i64]; omega
            have hstep := step_lie (f := f) (b := b) (n := n) (byz := byz) (st := ⟨nas.map NA.x, fl⟩) (lies := LL) (by have := HT.out; dsimp only; omega) HT.out HI.out (c := c) hif
            dsimp only at hstep
            rw [← hj] at hstep
            have hx0 : LL.getD j ct0 = ctA LL j := rfl
            rw [hx0] at hstep
            have HXD := Lib.hid (HLOK.out _ (ctA_mem hjl))
            have HCT := Lib.hid (fun (W : World) (h : W.ownsRow w1.heap.size 145 4 (.slice al LL.length cl9) LL.length (cl LL)) => lie_at h hjl)
            have hao2 : al.isSome = true := by obtain ⟨a', c', e', h'⟩ := own_rd hR.lie.1; injection e' with e1 e2 e3; subst e1; exact h'.isSome (by omega)
            generalize ctA LL j = x at *
            have HSTEP := Lib.hid hstep
            have HHJ := Lib.hid hj
            clear hstep hx0 hj
            have hni : ¬ ((i : Int) < (fl.length : Int)) := by omega
            go_wp2_with fail
            clear e6 hcc
            replace hR := hR.keep ((Keeps.refl wr).drew)
            have hL := hR.lie.1
            refine wp_region_held_drew (S := (fun w' => w'.cell? (adr al (j * 4)) = some (.int .i64 x.kind) ∧ w'.cell? ⟨(adr al (j * 4)).block, (adr al (j * 4)).off + 1, none⟩ = some (.int .i64 x.src) ∧ w'.cell? ⟨(adr al (j * 4)).block, (adr al (j * 4)).off + 2, none⟩ = some (.int .i64 x.dst) ∧ w'.cell? ⟨(adr al (j * 4)).block, (adr al (j * 4)).off + 3, none⟩ = some (.string x.v))) (by kernel_rfl) ?_ (fun hHeld => ?_)
            · exact HCT.out _ hL
            generalize wr.drew = V0 at *
            refine wpAnyH_take (i := 0) (oi := ⟨_, _, _, _, _, _⟩) (v := ?_) rfl (by kernel_rfl) (by kernel_rfl) (by kernel_rfl) (fun _ _ _ h => h) (Or.inl ⟨by rfl, ?_⟩) (by assumption) ?_
            rotate_left 1
            · intro w hSw; (try dsimp only at hSw); go_simp <;> with_reducible rfl
            (try simp only [Act.put]); (try simp only [List.setIfInBounds_toArray]); (try simp only [List.set_cons_succ]); (try simp only [List.set_cons_zero])
            refine wpAnyH_take (i := 1) (oi := ⟨_, _, _, _, _, _⟩) (v := ?_) rfl (by kernel_rfl) (by kernel_rfl) (by kernel_rfl) (fun _ _ _ h => h) (Or.inl ⟨by rfl, ?_⟩) (by assumption) ?_
            rotate_left 1
            · intro w hSw; (try dsimp only at hSw); go_simp <;> with_reducible rfl
            (try simp only [Act.put]); (try simp only [List.setIfInBounds_toArray]); (try simp only [List.set_cons_succ]); (try simp only [List.set_cons_zero])
            refine wpAnyH_take (i := 2) (oi := ⟨_, _, _, _, _, _⟩) (v := ?_) rfl (by kernel_rfl) (by kernel_rfl) (by kernel_rfl) (fun _ _ _ h => h) (Or.inl ⟨by rfl, ?_⟩) (by assumption) ?_
            rotate_left 1
            · intro w hSw; (try dsimp only at hSw); go_simp <;> with_reducible rfl
            (try simp only [Act.put]); (try simp only [List.setIfInBounds_toArray]); (try simp only [List.set_cons_succ]); (try simp only [List.set_cons_zero])
            refine wpAnyH_take (i := 3) (oi := ⟨_, _, _, _, _, _⟩) (v := ?_) rfl (by kernel_rfl) (by kernel_rfl) (by kernel_rfl) (fun _ _ _ h => h) (Or.inl ⟨by rfl, ?_⟩) (by assumption) ?_
            rotate_left 1
            · intro w hSw; (try dsimp only at hSw); go_simp <;> with_reducible rfl
            (try simp only [Act.put]); (try simp only [List.setIfInBounds_toArray]); (try simp only [List.set_cons_succ]); (try simp only [List.set_cons_zero])
            refine wpAnyH_take (i := 4) (oi := ⟨_, _, _, _, _, _⟩) (v := ?_) rfl (by kernel_rfl) (by kernel_rfl) (by kernel_rfl) (fun _ _ _ h => h) (Or.inl ⟨by rfl, ?_⟩) (by assumption) ?_
            rotate_left 1
            · intro w hSw; (try dsimp only at hSw); go_simp <;> with_reducible rfl
            (try simp only [Act.put]); (try simp only [List.setIfInBounds_toArray]); (try simp only [List.set_cons_succ]); (try simp only [List.set_cons_zero])
            refine wpAnyH_take (i := 6) (oi := ⟨_, _, _, _, _, _⟩) (v := ?_) rfl (by kernel_rfl) (by kernel_rfl) (by kernel_rfl) (fun _ _ _ h => h) (Or.inl ⟨by rfl, ?_⟩) (by assumption) ?_
            rotate_left 1
            · intro w hSw; (try dsimp only at hSw); go_simp <;> with_reducible rfl
            (try simp only [Act.put]); (try simp only [List.setIfInBounds_toArray]); (try simp only [List.set_cons_succ]); (try simp only [List.set_cons_zero])
            refine wpAnyH_take (i := 7) (oi := ⟨_, _, _, _, _, _⟩) (v := ?_) rfl (by kernel_rfl) (by kernel_rfl) (by kernel_rfl) (fun _ _ _ h => h) (Or.inl ⟨by rfl, ?_⟩) (by assumption) ?_
            rotate_left 1
            · intro w hSw; (try dsimp only at hSw); go_simp <;> with_reducible rfl
            (try simp only [Act.put]); (try simp only [List.setIfInBounds_toArray]); (try simp only [List.set_cons_succ]); (try simp only [List.set_cons_zero])
            refine wpAnyH_take (i := 8) (oi := ⟨_, _, _, _, _, _⟩) (v := ?_) rfl (by kernel_rfl) (by kernel_rfl) (by kernel_rfl) (fun _ _ _ h => h) (Or.inl ⟨by rfl, ?_⟩) (by assumption) ?_
            rotate_left 1
            · intro w hSw; (try dsimp only at hSw); go_simp <;> with_reducible rfl
            (try simp only [Act.put]); (try simp only [List.setIfInBounds_toArray]); (try simp only [List.set_cons_succ]); (try simp only [List.set_cons_zero])
            refine wpAnyH_take (i := 9) (oi := ⟨_, _, _, _, _, _⟩) (v := ?_) rfl (by kernel_rfl) (by kernel_rfl) (by kernel_rfl) (fun _ _ _ h => h) (Or.inl ⟨by rfl, ?_⟩) (by assumption) ?_
            rotate_left 1
            · intro w hSw; (try dsimp only at hSw); go_simp <;> with_reducible rfl
            (try simp only [Act.put]); (try simp only [List.setIfInBounds_toArray]); (try simp only [List.set_cons_succ]); (try simp only [List.set_cons_zero])
            refine wpAnyH_take (i := 10) (oi := ⟨_, _, _, _, _, _⟩) (v := ?_) rfl (by kernel_rfl) (by kernel_rfl) (by kernel_rfl) (fun _ _ _ h => h) (Or.inl ⟨by rfl, ?_⟩) (by assumption) ?_
            rotate_left 1
            · intro w hSw; (try dsimp only at hSw); go_simp <;> with_reducible rfl
            (try simp only [Act.put]); (try simp only [List.setIfInBounds_toArray]); (try simp only [List.set_cons_succ]); (try simp only [List.set_cons_zero])
            refine wpAnyH_take (i := 11) (oi := ⟨_, _, _, _, _, _⟩) (v := ?_) rfl (by kernel_rfl) (by kernel_rfl) (by kernel_rfl) (fun _ _ _ h => h) (Or.inl ⟨by rfl, ?_⟩) (by assumption) ?_
            rotate_left 1
            · intro w hSw; (try dsimp only at hSw); go_simp <;> with_reducible rfl
            (try simp only [Act.put]); (try simp only [List.setIfInBounds_toArray]); (try simp only [List.set_cons_succ]); (try simp only [List.set_cons_zero])
            refine wpAnyH_ready (rs := [5, 12]) (by kernel_rfl) (by simp) ?_
            refine AllReadyH.cons (o := ⟨_, _, _, _, _, _⟩) rfl (fun K hK => ?_) (AllReadyH.cons (o := ⟨_, _, _, _, _, _⟩) rfl (fun K hK => ?_) AllReadyH.nil)
            · have c6 := hR.box.cell 6 (v := .slice ag fl.length cg) rfl
              go_simp
              clear c6
              refine hK.out _ _ ?_ (fun hHeld => ?_)
              · exact HCT.out _ hL
              clear hK K
              (try simp only [Act.put]); (try simp only [List.setIfInBounds_toArray]); (try simp only [List.set_cons_succ]); (try simp only [List.set_cons_zero])
              refine wpAnyH_ready (rs := [12]) (by kernel_rfl) (by simp) ?_
              refine AllReadyH.cons (o := ⟨_, _, _, _, _, _⟩) rfl (fun K hK => ?_) AllReadyH.nil
              have c6 := hR.box.cell 6 (v := .slice ag fl.length cg) rfl
              go_simp
              clear c6
              refine hK.out _ _ ?_ (fun hHeld => ?_)
              · exact HCT.out _ hL
              clear hK K
              (try simp only [Act.put]); (try simp only [List.setIfInBounds_toArray]); (try simp only [List.set_cons_succ]); (try simp only [List.set_cons_zero])
              refine wpAnyH_take (i := 13) (oi := ⟨_, _, _, _, _, _⟩) (v := ?_) rfl (by kernel_rfl) (by kernel_rfl) (by kernel_rfl) (fun _ _ _ h => h) (Or.inl ⟨by rfl, ?_⟩) (by assumption) ?_
              rotate_left 1
              · intro w hSw; (try dsimp only at hSw); go_simp <;> with_reducible rfl
              (try simp only [Act.put]); (try simp only [List.setIfInBounds_toArray]); (try simp only [List.set_cons_succ]); (try simp only [List.set_cons_zero])
              refine wpAnyH_take (i := 14) (oi := ⟨_, _, _, _, _, _⟩) (v := ?_) rfl (by kernel_rfl) (by kernel_rfl) (by kernel_rfl) (fun _ _ _ h => h) (Or.inl ⟨by rfl, ?_⟩) (by assumption) ?_
              rotate_left 1
              · intro w hSw; (try dsimp only at hSw); go_simp <;> with_reducible rfl
              (try simp only [Act.put]); (try simp only [List.setIfInBounds_toArray]); (try simp only [List.set_cons_succ]); (try simp only [List.set_cons_zero])
              refine wpAnyH_take (i := 15) (oi := ⟨_, _, _, _, _, _⟩) (v := ?_) rfl (by kernel_rfl) (by kernel_rfl) (by kernel_rfl) (fun _ _ _ h => h) (Or.inl ⟨by rfl, ?_⟩) (by assumption) ?_
              rotate_left 1
              · intro w hSw; (try dsimp only at hSw); go_simp <;> with_reducible rfl
              (try simp only [Act.put]); (try simp only [List.setIfInBounds_toArray]); (try simp only [List.set_cons_succ]); (try simp only [List.set_cons_zero])
              refine wpAnyH_take (i := 16) (oi := ⟨_, _, _, _, _, _⟩) (v := ?_) rfl (by kernel_rfl) (by kernel_rfl) (by kernel_rfl) (fun _ _ _ h => h) (Or.inl ⟨by rfl, ?_⟩) (by assumption) ?_
              rotate_left 1
              · intro w hSw; (try dsimp only at hSw); go_simp <;> with_reducible rfl
              (try simp only [Act.put]); (try simp only [List.setIfInBounds_toArray]); (try simp only [List.set_cons_succ]); (try simp only [List.set_cons_zero])
              refine wpAnyH_ready (rs := [17]) (by kernel_rfl) (by simp) ?_
              refine AllReadyH.cons (o := ⟨_, _, _, _, _, _⟩) rfl (fun K hK => ?_) AllReadyH.nil
              go_simp
              have r1 : Rd (V0.alloc (.cells #[.int .i64 x.kind, .int .i64 x.src, .int .i64 x.dst, .string x.v] 145)) (some ⟨V0.heap.size, 0, none⟩) 1 1 4 (cl [x]) := rd_new 145 4 V0 _ 1 (by decide) rfl
              have kA := (Keeps.refl V0).alloc (.cells #[.int .i64 x.kind, .int .i64 x.src, .int .i64 x.dst, .string x.v] 145)
              replace hR := hR.keep kA
              replace hL := kA.own hL
              clear kA
              generalize V0.alloc (.cells #[.int .i64 x.kind, .int .i64 x.src, .int .i64 x.dst, .string x.v] 145) = V1 at *
              generalize V0.heap.size = BS at *
              refine hK.out _ _ ?_ (fun hHeld => ?_)
              · exact HCT.out _ hL
              clear hK K
              (try simp only [Act.put]); (try simp only [List.setIfInBounds_toArray]); (try simp only [List.set_cons_succ]); (try simp only [List.set_cons_zero])
              refine wpAnyH_ready (rs := [18]) (by kernel_rfl) (by simp) ?_
              refine AllReadyH.cons (o := ⟨_, _, _, _, _, _⟩) rfl (fun K hK => ?_) AllReadyH.nil
              have HO := Lib.hid hR.fli
              refine step_app3 ty_cl rfl _ _ rfl HO.out rfl rfl r1 (cl_cells _) (by omega) ?_
              intro v' V2 hO' hgr hb'
              dsimp only
              obtain ⟨a9, c9, rfl, _⟩ := hO'.rd
              rw [← cl_append] at hO'
              obtain ⟨L', hL'⟩ : ∃ L', L' = fl ++ [x] := ⟨_, rfl⟩
              rw [len_snoc9 fl x, ← hL'] at hO' hb' ⊢
              have HL' := Lib.hid hL'
              clear hL'
              replace hL := hL.kept hgr hR.apart
              have hbx := hR.boxg hgr
              have hap := (hR.append hO' hgr hb').1
              have HAP := Lib.hid hap
              clear hap hO' hgr hb' HO r1 hR
              refine hK.out _ _ ?_ (fun hHeld => ?_)
              · exact HCT.out _ hL
              clear hK K
              (try simp only [Act.put]); (try simp only [List.setIfInBounds_toArray]); (try simp only [List.set_cons_succ]); (try simp only [List.set_cons_zero])
              refine wpAnyH_take (i := 19) (oi := ⟨_, _, _, _, _, _⟩) (v := ?_) rfl (by kernel_rfl) (by kernel_rfl) (by kernel_rfl) (fun _ _ _ h => h) (Or.inl ⟨by rfl, ?_⟩) (by assumption) ?_
              rotate_left 1
              · intro w hSw; (try dsimp only at hSw); go_simp <;> with_reducible rfl
              (try simp only [Act.put]); (try simp only [List.setIfInBounds_toArray]); (try simp only [List.set_cons_succ]); (try simp only [List.set_cons_zero])
              refine wpAnyH_take (i := 20) (oi := ⟨_, _, _, _, _, _⟩) (v := ?_) rfl (by kernel_rfl) (by kernel_rfl) (by kernel_rfl) (fun _ _ _ h => h) (Or.inl ⟨by rfl, ?_⟩) (by assumption) ?_
              rotate_left 1
              · intro w hSw; (try dsimp only at hSw); go_simp <;> with_reducible rfl
              (try simp only [Act.put]); (try simp only [List.setIfInBounds_toArray]); (try simp only [List.set_cons_succ]); (try simp only [List.set_cons_zero])
              refine wpAnyH_take (i := 21) (oi := ⟨_, _, _, _, _, _⟩) (v := ?_) rfl (by kernel_rfl) (by kernel_rfl) (by kernel_rfl) (fun _ _ _ h => h) (Or.inl ⟨by rfl, ?_⟩) (by assumption) ?_
              rotate_left 1
              · intro w hSw; (try dsimp only at hSw); go_simp <;> with_reducible rfl
              (try simp only [Act.put]); (try simp only [List.setIfInBounds_toArray]); (try simp only [List.set_cons_succ]); (try simp only [List.set_cons_zero])
              refine wpAnyH_ready (rs := [22]) (by kernel_rfl) (by simp) ?_
              refine AllReadyH.cons (o := ⟨_, _, _, _, _, _⟩) rfl (fun K hK => ?_) AllReadyH.nil
              have c6 := hbx.cell 6 (v := .slice ag fl.length cg) rfl
              have g6 := hbx.frozen 6
              go_simp
              clear c6 g6
              have hR := HAP.out
              replace hL := hR.lie.1
              generalize V2.setCell ⟨B, 6, none⟩ (.slice a9 L'.length c9) = V3 at *
              refine hK.out _ _ ?_ (fun hHeld => ?_)
              · exact HCT.out _ hL
              clear hK K
              (try simp only [Act.put]); (try simp only [List.setIfInBounds_toArray]); (try simp only [List.set_cons_succ]); (try simp only [List.set_cons_zero])
              refine wpAnyH_done (by kernel_rfl) ?_ _
              have HR := Lib.hid hR
              clear hR hL hbx HAP
              go_wp2_with fail
              go_roundw
              case rel => exact ⟨k + 1, _, nas, _, L', by omega, by go_num, HR.out, Lib.hid (by rw [HRUN.out, HDR.out]; show runS f b n byz LL (stepS f b n byz LL _ c) _ = _; rw [HSTEP.out, HL'.out]), Lib.hid (HSM.out), Lib.hid (by rw [HL'.out]; exact dst_snoc HDS.out HXD.out), Lib.hid (by rw [HL'.out]; have h2 := HME.out; unfold measS at *; dsimp only at *; rw [List.length_append, List.length_singleton]; omega)⟩
              case measure => simp [RowKit.intOf]; omega
            · have c6 := hR.box.cell 6 (v := .slice ag fl.length cg) rfl
              go_simp
              clear c6
              refine hK.out _ _ ?_ (fun hHeld => ?_)
              · exact HCT.out _ hL
              clear hK K
              (try simp only [Act.put]); (try simp only [List.setIfInBounds_toArray]); (try simp only [List.set_cons_succ]); (try simp only [List.set_cons_zero])
              refine wpAnyH_take (i := 13) (oi := ⟨_, _, _, _, _, _⟩) (v := ?_) rfl (by kernel_rfl) (by kernel_rfl) (by kernel_rfl) (fun _ _ _ h => h) (Or.inl ⟨by rfl, ?_⟩) (by assumption) ?_
              rotate_left 1
              · intro w hSw; (try dsimp only at hSw); go_simp <;> with_reducible rfl
              (try simp only [Act.put]); (try simp only [List.setIfInBounds_toArray]); (try simp only [List.set_cons_succ]); (try simp only [List.set_cons_zero])
              refine wpAnyH_take (i := 14) (oi := ⟨_, _, _, _, _, _⟩) (v := ?_) rfl (by kernel_rfl) (by kernel_rfl) (by kernel_rfl) (fun _ _ _ h => h) (Or.inl ⟨by rfl, ?_⟩) (by assumption) ?_
              rotate_left 1
              · intro w hSw; (try dsimp only at hSw); go_simp <;> with_reducible rfl
              (try simp only [Act.put]); (try simp only [List.setIfInBounds_toArray]); (try simp only [List.set_cons_succ]); (try simp only [List.set_cons_zero])
              refine wpAnyH_take (i := 15) (oi := ⟨_, _, _, _, _, _⟩) (v := ?_) rfl (by kernel_rfl) (by kernel_rfl) (by kernel_rfl) (fun _ _ _ h => h) (Or.inl ⟨by rfl, ?_⟩) (by assumption) ?_
              rotate_left 1
              · intro w hSw; (try dsimp only at hSw); go_simp <;> with_reducible rfl
              (try simp only [Act.put]); (try simp only [List.setIfInBounds_toArray]); (try simp only [List.set_cons_succ]); (try simp only [List.set_cons_zero])
              refine wpAnyH_take (i := 16) (oi := ⟨_, _, _, _, _, _⟩) (v := ?_) rfl (by kernel_rfl) (by kernel_rfl) (by kernel_rfl) (fun _ _ _ h => h) (Or.inl ⟨by rfl, ?_⟩) (by assumption) ?_
              rotate_left 1
              · intro w hSw; (try dsimp only at hSw); go_simp <;> with_reducible rfl
              (try simp only [Act.put]); (try simp only [List.setIfInBounds_toArray]); (try simp only [List.set_cons_succ]); (try simp only [List.set_cons_zero])
              refine wpAnyH_ready (rs := [5, 17]) (by kernel_rfl) (by simp) ?_
              refine AllReadyH.cons (o := ⟨_, _, _, _, _, _⟩) rfl (fun K hK => ?_) (AllReadyH.cons (o := ⟨_, _, _, _, _, _⟩) rfl (fun K hK => ?_) AllReadyH.nil)
              · have c6 := hR.box.cell 6 (v := .slice ag fl.length cg) rfl
                go_simp
                clear c6
                refine hK.out _ _ ?_ (fun hHeld => ?_)
                · exact HCT.out _ hL
                clear hK K
                (try simp only [Act.put]); (try simp only [List.setIfInBounds_toArray]); (try simp only [List.set_cons_succ]); (try simp only [List.set_cons_zero])
                refine wpAnyH_ready (rs := [17]) (by kernel_rfl) (by simp) ?_
                refine AllReadyH.cons (o := ⟨_, _, _, _, _, _⟩) rfl (fun K hK => ?_) AllReadyH.nil
                go_simp
                have r1 : Rd (V0.alloc (.cells #[.int .i64 x.kind, .int .i64 x.src, .int .i64 x.dst, .string x.v] 145)) (some ⟨V0.heap.size, 0, none⟩) 1 1 4 (cl [x]) := rd_new 145 4 V0 _ 1 (by decide) rfl
                have kA := (Keeps.refl V0).alloc (.cells #[.int .i64 x.kind, .int .i64 x.src, .int .i64 x.dst, .string x.v] 145)
                replace hR := hR.keep kA
                replace hL := kA.own hL
                clear kA
                generalize V0.alloc (.cells #[.int .i64 x.kind, .int .i64 x.src, .int .i64 x.dst, .string x.v] 145) = V1 at *
                generalize V0.heap.size = BS at *
                refine hK.out _ _ ?_ (fun hHeld => ?_)
                · exact HCT.out _ hL
                clear hK K
                (try simp only [Act.put]); (try simp only [List.setIfInBounds_toArray]); (try simp only [List.set_cons_succ]); (try simp only [List.set_cons_zero])
                refine wpAnyH_ready (rs := [18]) (by kernel_rfl) (by simp) ?_
                refine AllReadyH.cons (o := ⟨_, _, _, _, _, _⟩) rfl (fun K hK => ?_) AllReadyH.nil
                have HO := Lib.hid hR.fli
                refine step_app3 ty_cl rfl _ _ rfl HO.out rfl rfl r1 (cl_cells _) (by omega) ?_
                intro v' V2 hO' hgr hb'
                dsimp only
                obtain ⟨a9, c9, rfl, _⟩ := hO'.rd
                rw [← cl_append] at hO'
                obtain ⟨L', hL'⟩ : ∃ L', L' = fl ++ [x] := ⟨_, rfl⟩
                rw [len_snoc9 fl x, ← hL'] at hO' hb' ⊢
                have HL' := Lib.hid hL'
                clear hL'
                replace hL := hL.kept hgr hR.apart
                have hbx := hR.boxg hgr
                have hap := (hR.append hO' hgr hb').1
                have HAP := Lib.hid hap
                clear hap hO' hgr hb' HO r1 hR
                refine hK.out _ _ ?_ (fun hHeld => ?_)
                · exact HCT.out _ hL
                clear hK K
                (try simp only [Act.put]); (try simp only [List.setIfInBounds_toArray]); (try simp only [List.set_cons_succ]); (try simp only [List.set_cons_zero])
                refine wpAnyH_take (i := 19) (oi := ⟨_, _, _, _, _, _⟩) (v := ?_) rfl (by kernel_rfl) (by kernel_rfl) (by kernel_rfl) (fun _ _ _ h => h) (Or.inl ⟨by rfl, ?_⟩) (by assumption) ?_
                rotate_left 1
                · intro w hSw; (try dsimp only at hSw); go_simp <;> with_reducible rfl
                (try simp only [Act.put]); (try simp only [List.setIfInBounds_toArray]); (try simp only [List.set_cons_succ]); (try simp only [List.set_cons_zero])
                refine wpAnyH_take (i := 20) (oi := ⟨_, _, _, _, _, _⟩) (v := ?_) rfl (by kernel_rfl) (by kernel_rfl) (by kernel_rfl) (fun _ _ _ h => h) (Or.inl ⟨by rfl, ?_⟩) (by assumption) ?_
                rotate_left 1
                · intro w hSw; (try dsimp only at hSw); go_simp <;> with_reducible rfl
                (try simp only [Act.put]); (try simp only [List.setIfInBounds_toArray]); (try simp only [List.set_cons_succ]); (try simp only [List.set_cons_zero])
                refine wpAnyH_take (i := 21) (oi := ⟨_, _, _, _, _, _⟩) (v := ?_) rfl (by kernel_rfl) (by kernel_rfl) (by kernel_rfl) (fun _ _ _ h => h) (Or.inl ⟨by rfl, ?_⟩) (by assumption) ?_
                rotate_left 1
                · intro w hSw; (try dsimp only at hSw); go_simp <;> with_reducible rfl
                (try simp only [Act.put]); (try simp only [List.setIfInBounds_toArray]); (try simp only [List.set_cons_succ]); (try simp only [List.set_cons_zero])
                refine wpAnyH_ready (rs := [22]) (by kernel_rfl) (by simp) ?_
                refine AllReadyH.cons (o := ⟨_, _, _, _, _, _⟩) rfl (fun K hK => ?_) AllReadyH.nil
                have c6 := hbx.cell 6 (v := .slice ag fl.length cg) rfl
                have g6 := hbx.frozen 6
                go_simp
                clear c6 g6
                have hR := HAP.out
                replace hL := hR.lie.1
                generalize V2.setCell ⟨B, 6, none⟩ (.slice a9 L'.length c9) = V3 at *
                refine hK.out _ _ ?_ (fun hHeld => ?_)
                · exact HCT.out _ hL
                clear hK K
                (try simp only [Act.put]); (try simp only [List.setIfInBounds_toArray]); (try simp only [List.set_cons_succ]); (try simp only [List.set_cons_zero])
                refine wpAnyH_done (by kernel_rfl) ?_ _
                have HR := Lib.hid hR
                clear hR hL hbx HAP
                go_wp2_with fail
                go_roundw
                case rel => exact ⟨k + 1, _, nas, _, L', by omega, by go_num, HR.out, Lib.hid (by rw [HRUN.out, HDR.out]; show runS f b n byz LL (stepS f b n byz LL _ c) _ = _; rw [HSTEP.out, HL'.out]), Lib.hid (HSM.out), Lib.hid (by rw [HL'.out]; exact dst_snoc HDS.out HXD.out), Lib.hid (by rw [HL'.out]; have h2 := HME.out; unfold measS at *; dsimp only at *; rw [List.length_append, List.length_singleton]; omega)⟩
                case measure => simp [RowKit.intOf]; omega
              · go_simp
                have r1 : Rd (V0.alloc (.cells #[.int .i64 x.kind, .int .i64 x.src, .int .i64 x.dst, .string x.v] 145)) (some ⟨V0.heap.size, 0, none⟩) 1 1 4 (cl [x]) := rd_new 145 4 V0 _ 1 (by decide) rfl
                have kA := (Keeps.refl V0).alloc (.cells #[.int .i64 x.kind, .int .i64 x.src, .int .i64 x.dst, .string x.v] 145)
                replace hR := hR.keep kA
                replace hL := kA.own hL
                clear kA
                generalize V0.alloc (.cells #[.int .i64 x.kind, .int .i64 x.src, .int .i64 x.dst, .string x.v] 145) = V1 at *
                generalize V0.heap.size = BS at *
                refine hK.out _ _ ?_ (fun hHeld => ?_)
                · exact HCT.out _ hL
                clear hK K
                (try simp only [Act.put]); (try simp only [List.setIfInBounds_toArray]); (try simp only [List.set_cons_succ]); (try simp only [List.set_cons_zero])
                refine wpAnyH_ready (rs := [5]) (by kernel_rfl) (by simp) ?_
                refine AllReadyH.cons (o := ⟨_, _, _, _, _, _⟩) rfl (fun K hK => ?_) AllReadyH.nil
                have c6 := hR.box.cell 6 (v := .slice ag fl.length cg) rfl
                go_simp
                clear c6
                refine hK.out _ _ ?_ (fun hHeld => ?_)
                · exact HCT.out _ hL
                clear hK K
                (try simp only [Act.put]); (try simp only [List.setIfInBounds_toArray]); (try simp only [List.set_cons_succ]); (try simp only [List.set_cons_zero])
                refine wpAnyH_ready (rs := [18]) (by kernel_rfl) (by simp) ?_
                refine AllReadyH.cons (o := ⟨_, _, _, _, _, _⟩) rfl (fun K hK => ?_) AllReadyH.nil
                have HO := Lib.hid hR.fli
                refine step_app3 ty_cl rfl _ _ rfl HO.out rfl rfl r1 (cl_cells _) (by omega) ?_
                intro v' V2 hO' hgr hb'
                dsimp only
                obtain ⟨a9, c9, rfl, _⟩ := hO'.rd
                rw [← cl_append] at hO'
                obtain ⟨L', hL'⟩ : ∃ L', L' = fl ++ [x] := ⟨_, rfl⟩
                rw [len_snoc9 fl x, ← hL'] at hO' hb' ⊢
                have HL' := Lib.hid hL'
                clear hL'
                replace hL := hL.kept hgr hR.apart
                have hbx := hR.boxg hgr
                have hap := (hR.append hO' hgr hb').1
                have HAP := Lib.hid hap
                clear hap hO' hgr hb' HO r1 hR
                refine hK.out _ _ ?_ (fun hHeld => ?_)
                · exact HCT.out _ hL
                clear hK K
                (try simp only [Act.put]); (try simp only [List.setIfInBounds_toArray]); (try simp only [List.set_cons_succ]); (try simp only [List.set_cons_zero])
                refine wpAnyH_take (i := 19) (oi := ⟨_, _, _, _, _, _⟩) (v := ?_) rfl (by kernel_rfl) (by kernel_rfl) (by kernel_rfl) (fun _ _ _ h => h) (Or.inl ⟨by rfl, ?_⟩) (by assumption) ?_
                rotate_left 1
                · intro w hSw; (try dsimp only at hSw); go_simp <;> with_reducible rfl
                (try simp only [Act.put]); (try simp only [List.setIfInBounds_toArray]); (try simp only [List.set_cons_succ]); (try simp only [List.set_cons_zero])
                refine wpAnyH_take (i := 20) (oi := ⟨_, _, _, _, _, _⟩) (v := ?_) rfl (by kernel_rfl) (by kernel_rfl) (by kernel_rfl) (fun _ _ _ h => h) (Or.inl ⟨by rfl, ?_⟩) (by assumption) ?_
                rotate_left 1
                · intro w hSw; (try dsimp only at hSw); go_simp <;> with_reducible rfl
                (try simp only [Act.put]); (try simp only [List.setIfInBounds_toArray]); (try simp only [List.set_cons_succ]); (try simp only [List.set_cons_zero])
                refine wpAnyH_take (i := 21) (oi := ⟨_, _, _, _, _, _⟩) (v := ?_) rfl (by kernel_rfl) (by kernel_rfl) (by kernel_rfl) (fun _ _ _ h => h) (Or.inl ⟨by rfl, ?_⟩) (by assumption) ?_
                rotate_left 1
                · intro w hSw; (try dsimp only at hSw); go_simp <;> with_reducible rfl
                (try simp only [Act.put]); (try simp only [List.setIfInBounds_toArray]); (try simp only [List.set_cons_succ]); (try simp only [List.set_cons_zero])
                refine wpAnyH_ready (rs := [22]) (by kernel_rfl) (by simp) ?_
                refine AllReadyH.cons (o := ⟨_, _, _, _, _, _⟩) rfl (fun K hK => ?_) AllReadyH.nil
                have c6 := hbx.cell 6 (v := .slice ag fl.length cg) rfl
                have g6 := hbx.frozen 6
                go_simp
                clear c6 g6
                have hR := HAP.out
                replace hL := hR.lie.1
                generalize V2.setCell ⟨B, 6, none⟩ (.slice a9 L'.length c9) = V3 at *
                refine hK.out _ _ ?_ (fun hHeld => ?_)
                · exact HCT.out _ hL
                clear hK K
                (try simp only [Act.put]); (try simp only [List.setIfInBounds_toArray]); (try simp only [List.set_cons_succ]); (try simp only [List.set_cons_zero])
                refine wpAnyH_done (by kernel_rfl) ?_ _
                have HR := Lib.hid hR
                clear hR hL hbx HAP
                go_wp2_with fail
                go_roundw
                case rel => exact ⟨k + 1, _, nas, _, L', by omega, by go_num, HR.out, Lib.hid (by rw [HRUN.out, HDR.out]; show runS f b n byz LL (stepS f b n byz LL _ c) _ = _; rw [HSTEP.out, HL'.out]), Lib.hid (HSM.out), Lib.hid (by rw [HL'.out]; exact dst_snoc HDS.out HXD.out), Lib.hid (by rw [HL'.out]; have h2 := HME.out; unfold measS at *; dsimp only at *; rw [List.length_append, List.length_singleton]; omega)⟩
                case measure => simp [RowKit.intOf]; omega
      · have e1 : k = m := by omega
        subst e1
        have HRE := Lib.hid hR
        clear hR
        skip
        obtain ⟨e0, e1, e2, e3, e4, e5, e6⟩ := HRE.out.box.c7
        obtain ⟨d0, d1, d2, d3, d4⟩ := c5 (HCAST.out.keep HRE.out.keeps)
        obtain ⟨g0, g1, g2, g3, g4⟩ := f5 (HCAST.out.keep HRE.out.keeps)
        go_wp2_with fail
        clear e0 e1 e2 e3 e4 e5 e6 d0 d1 d2 d3 d4 g0 g1 g2 g3 g4
        refine bodyPost_ret (resCast (n := n) (byz := byz) (source := source) (nv := .slice an nas.length cn) (gv := .slice ag fl.length cg) rfl (set5 (HCAST.out.keep HRE.out.keeps) _ _ _ _ _) rfl rfl) rfl ?_
        have hR := HRE.out.cast HCAST.out HCLO.out HK01.out n byz source (.slice an nas.length cn) (.slice ag fl.length cg)
        exact ⟨_, nas, _, fl, rfl, hR.1, hR.2.1, hR.2.2, by rw [← HLL.out, HRUN.out, HM.out, List.drop_length]; rfl⟩
  | false =>
    rw [hq] at HCOR
    obtain ⟨gv1, F1, hR, hst⟩ : ∃ gv1 F1, RunW w1 w2 B (.slice fa fm fc) (.slice ba bm bc) n byz source nv0 (startNA n) gv1 F1 (.slice none 0 0) [] ∧ startS n byz source strX 0 = ⟨(startNA n).map NA.x, F1⟩ ∧ SmallS ⟨(startNA n).map NA.x, F1⟩ ∧ DstOk n ⟨(startNA n).map NA.x, F1⟩ ∧ measS n ⟨(startNA n).map NA.x, F1⟩ ≤ 200 := ⟨_, _, hR, start9 hn2 [] (by rw [hq]; rfl)⟩
    clear hq
    go_wp2_with fail
    refine HCOR.out.mono ?_
    rintro e w' ⟨rfl, rfl⟩
    clear HCOR
    have HS1 := Lib.hid hst.1
    have HG1 := Lib.hid hst.2
    have hlie := lies39_any w1 w2 B (.slice fa fm fc) (.slice ba bm bc) n byz source nv0 (startNA n) gv1 F1 (.slice none 0 0) [] (by omega) hR
    have HLIE := Lib.hid hlie
    clear hlie hst
    go_wp2_with fail
    refine HLIE.out.mono ?_
    rintro e w4 ⟨ov, rfl, hL⟩
    clear HLIE
    obtain ⟨LL, hLL⟩ : ∃ l, l = lieL n byz source strX strY := ⟨_, rfl⟩
    rw [← hLL] at hL
    have hll : LL.length ≤ 2000 := by rw [hLL]; exact lieL_len n byz source hn2
    have hlok : ∀ c ∈ LL, LieOk n byz source c := fun c hc => lieL_ok (hLL ▸ hc)
    have HLL := Lib.hid hLL
    have HLOK := Lib.hid hlok
    clear hLL hlok
    obtain ⟨al, cl9, rfl, _⟩ := hL.rd
    have hR := hR.lies hL
    have HR := Lib.hid hR
    clear hR hL
    go_wp2_with fail
    go_loopw [72] (fun v wr => ∃ (k : Nat) (nv : Value) (nas : List NA) (gv : Value) (fl : List Ct), k ≤ m ∧ v = .int .i64 k ∧ RunW w1 wr B (.slice fa fm fc) (.slice ba bm bc) n byz source nv nas gv fl (.slice al LL.length cl9) LL ∧ Hid (runS f b n byz LL (startS n byz source strX 0) chs = runS f b n byz LL ⟨nas.map NA.x, fl⟩ (chs.drop k)) ∧ Hid (SmallS ⟨nas.map NA.x, fl⟩) ∧ Hid (DstOk n ⟨nas.map NA.x, fl⟩) ∧ Hid (measS n ⟨nas.map NA.x, fl⟩ ≤ 200 + k)) (fun v _ => m - (RowKit.intOf v).toNat)
    case atStart => exact ⟨0, nv0, startNA n, gv1, F1, Nat.zero_le _, rfl, HR.out, Lib.hid (by rw [List.drop_zero]; show runS _ _ _ _ _ _ _ = _; rw [HS1.out]), Lib.hid HG1.out.1, Lib.hid HG1.out.2.1, Lib.hid HG1.out.2.2⟩
    case round =>
      clear HR
      obtain ⟨k, nv, nas, gv, fl, hk, rfl, hR, HRUN, HSM, HDS, HME⟩ := hrel
      have hnl : nas.length = n := by have := HDS.out.1; simpa using this
      have hfl : fl.length ≤ 400 := by have h := HME.out; unfold measS at h; dsimp only at h; omega
      obtain ⟨ag, cg, rfl, _⟩ := hR.fli.rd
      obtain ⟨an, cn, rfl, _⟩ := hR.own.rd
      have HNL := Lib.hid hnl
      clear hnl
      by_cases hlt : k < m
      · obtain ⟨c, hc⟩ : ∃ c, c = chs.getD k 0 := ⟨_, rfl⟩
        have hcc := bl_at (HCH.out.keep (HK01.out.trans hR.keeps)) (HM.out ▸ hlt)
        rw [← hc] at hcc
        have hcl : c < 256 := by rw [hc]; exact HC256.out k
        have hds := drop_ch chs k (HM.out ▸ hlt)
        rw [← hc] at hds
        have HDR := Lib.hid hds
        have hao := (HCH.out.keep (HK01.out.trans hR.keeps)).isSome (by rw [← HM.out]; omega)
        clear hc hds
        have e6 := hR.box.cell 6 (v := .slice ag fl.length cg) rfl
        obtain ⟨T, hT⟩ : ∃ T, T = fl.length + LL.length := ⟨_, rfl⟩
        have hTI : (fl.length : Int) + (LL.length : Int) = (T : Int) := by omega
        have hTb : T ≤ 2400 := by omega
        have HT := Lib.hid hT
        clear hT
        by_cases hT0 : T = 0
        · subst hT0
          clear e6
          skip
          have HRE := Lib.hid hR
          clear hR
          skip
          obtain ⟨e0, e1, e2, e3, e4, e5, e6⟩ := HRE.out.box.c7
          obtain ⟨d0, d1, d2, d3, d4⟩ := c5 (HCAST.out.keep HRE.out.keeps)
          obtain ⟨g0, g1, g2, g3, g4⟩ := f5 (HCAST.out.keep HRE.out.keeps)
          go_wp2_with fail
          clear e0 e1 e2 e3 e4 e5 e6 d0 d1 d2 d3 d4 g0 g1 g2 g3 g4
          refine bodyPost_ret (resCast (n := n) (byz := byz) (source := source) (nv := .slice an nas.length cn) (gv := .slice ag fl.length cg) rfl (set5 (HCAST.out.keep HRE.out.keeps) _ _ _ _ _) rfl rfl) rfl ?_
          have hR := HRE.out.cast HCAST.out HCLO.out HK01.out n byz source (.slice an nas.length cn) (.slice ag fl.length cg)
          exact ⟨_, nas, _, fl, rfl, hR.1, hR.2.1, hR.2.2, by rw [← HLL.out, HRUN.out, HDR.out]; exact run_stuck (by dsimp only; have := HT.out; omega) _⟩
        · have hrem : ((c : Int).tmod (T : Int)) = ((c % T : Nat) : Int) := by rw [Int.tmod_eq_emod_of_nonneg (by omega)]; omega
          obtain ⟨i, hi⟩ : ∃ i, i = c % T := ⟨_, rfl⟩
          rw [← hi] at hrem
          have hit : i < T := by rw [hi]; exact Nat.mod_lt _ (by omega)
          have HI := Lib.hid hi
          clear hi
          have hTz : (T : Int) ≠ 0 := by omega
          by_cases hif : i < fl.length
          · have hd := dst9 HDS.out hif
            have hdel := deliver39_any w1 wr B fa fm fc f ba bm bc b n byz source (.slice an nas.length cn) nas (.slice ag fl.length cg) fl (.slice al LL.length cl9) LL i (HFR.out.keep HK01.out) (HBR.out.keep HK01.out) (by omega) (by omega) hif (by rw [HNL.out]; exact hd) (small9 HSM.out) hR
            have HDEL := Lib.hid hdel
            have HIF := Lib.hid hif
            clear hdel hd hR
            go_wp2_with fail
            refine HDEL.out.mono ?_
            rintro e W5 ⟨rfl, nas2, gv2, fl2, hR2, _, hst⟩
            have HR2 := Lib.hid hR2
            have HST := Lib.hid hst
            clear hR2 hst HDEL
            have hstep := step_del (f := f) (b := b) (n := n) (byz := byz) (st := ⟨nas.map NA.x, fl⟩) (lies := LL) (by have := HT.out; dsimp only; omega) HT.out HI.out (c := c) HIF.out
            have HSTEP := Lib.hid hstep
            clear hstep
            go_wp2_with fail
            go_roundw
            case rel => exact ⟨k + 1, _, nas2, gv2, fl2, by omega, by go_num, HR2.out, Lib.hid (by rw [HRUN.out, HDR.out, HST.out]; show runS f b n byz LL (stepS f b n byz LL _ c) _ = _; rw [HSTEP.out]), Lib.hid (by rw [HST.out]; exact deliv_small HSM.out i), Lib.hid (by rw [HST.out]; exact deliv_dst HDS.out i), Lib.hid (by rw [HST.out]; have h1 := deliv_meas (f := f) (b := b) (n := n) (byz := byz) HIF.out (dst_at HDS.out HIF.out); have h2 := HME.out; omega)⟩
            case measure => simp [RowKit.intOf]; omega
          · obtain ⟨j, hj⟩ : ∃ j, j = i - fl.length := ⟨_, rfl⟩
            have hij : (i : Int) - (fl.length : Int) = (j : Int) := by omega
            have hjl : j < LL.length := by have := HT.out; omega
            have hjw : IntKind.i64.wrap (j : Int) = (j : Int) := by rw [IntKind.wrap_i64]; omega
            have hstep := step_lie (f := f) (b := b) (n := n) (byz := byz) (st := ⟨nas.map NA.x, fl⟩) (lies := LL) (by have := HT.out; dsimp only; omega) HT.out HI.out (c := c) hif
            dsimp only at hstep
            rw [← hj] at hstep
            have hx0 : LL.getD j ct0 = ctA LL j := rfl
            rw [hx0] at hstep
            have HXD := Lib.hid (HLOK.out _ (ctA_mem hjl))
            have HCT := Lib.hid (fun (W : World) (h : W.ownsRow w1.heap.size 145 4 (.slice al LL.length cl9) LL.length (cl LL)) => lie_at h hjl)
            have hao2 : al.isSome = true := by obtain ⟨a', c', e', h'⟩ := own_rd hR.lie.1; injection e' with e1 e2 e3; subst e1; exact h'.isSome (by omega)
            generalize ctA LL j = x at *
            have HSTEP := Lib.hid hstep
            have HHJ := Lib.hid hj
            clear hstep hx0 hj
            have hni : ¬ ((i : Int) < (fl.length : Int)) := by omega
            go_wp2_with fail
            clear e6 hcc
            replace hR := hR.keep ((Keeps.refl wr).drew)
            have hL := hR.lie.1
            refine wp_region_held_drew (S := (fun w' => w'.cell? (adr al (j * 4)) = some (.int .i64 x.kind) ∧ w'.cell? ⟨(adr al (j * 4)).block, (adr al (j * 4)).off + 1, none⟩ = some (.int .i64 x.src) ∧ w'.cell? ⟨(adr al (j * 4)).block, (adr al (j * 4)).off + 2, none⟩ = some (.int .i64 x.dst) ∧ w'.cell? ⟨(adr al (j * 4)).block, (adr al (j * 4)).off + 3, none⟩ = some (.string x.v))) (by kernel_rfl) ?_ (fun hHeld => ?_)
            · exact HCT.out _ hL
            generalize wr.drew = V0 at *
            refine wpAnyH_take (i := 0) (oi := ⟨_, _, _, _, _, _⟩) (v := ?_) rfl (by kernel_rfl) (by kernel_rfl) (by kernel_rfl) (fun _ _ _ h => h) (Or.inl ⟨by rfl, ?_⟩) (by assumption) ?_
            rotate_left 1
            · intro w hSw; (try dsimp only at hSw); go_simp <;> with_reducible rfl
            (try simp only [Act.put]); (try simp only [List.setIfInBounds_toArray]); (try simp only [List.set_cons_succ]); (try simp only [List.set_cons_zero])
            refine wpAnyH_take (i := 1) (oi := ⟨_, _, _, _, _, _⟩) (v := ?_) rfl (by kernel_rfl) (by kernel_rfl) (by kernel_rfl) (fun _ _ _ h => h) (Or.inl ⟨by rfl, ?_⟩) (by assumption) ?_
            rotate_left 1
            · intro w hSw; (try dsimp only at hSw); go_simp <;> with_reducible rfl
            (try simp only [Act.put]); (try simp only [List.setIfInBounds_toArray]); (try simp only [List.set_cons_succ]); (try simp only [List.set_cons_zero])
            refine wpAnyH_take (i := 2) (oi := ⟨_, _, _, _, _, _⟩) (v := ?_) rfl (by kernel_rfl) (by kernel_rfl) (by kernel_rfl) (fun _ _ _ h => h) (Or.inl ⟨by rfl, ?_⟩) (by assumption) ?_
            rotate_left 1
            · intro w hSw; (try dsimp only at hSw); go_simp <;> with_reducible rfl
            (try simp only [Act.put]); (try simp only [List.setIfInBounds_toArray]); (try simp only [List.set_cons_succ]); (try simp only [List.set_cons_zero])
            refine wpAnyH_take (i := 3) (oi := ⟨_, _, _, _, _, _⟩) (v := ?_) rfl (by kernel_rfl) (by kernel_rfl) (by kernel_rfl) (fun _ _ _ h => h) (Or.inl ⟨by rfl, ?_⟩) (by assumption) ?_
            rotate_left 1
            · intro w hSw; (try dsimp only at hSw); go_simp <;> with_reducible rfl
            (try simp only [Act.put]); (try simp only [List.setIfInBounds_toArray]); (try simp only [List.set_cons_succ]); (try simp only [List.set_cons_zero])
            refine wpAnyH_take (i := 4) (oi := ⟨_, _, _, _, _, _⟩) (v := ?_) rfl (by kernel_rfl) (by kernel_rfl) (by kernel_rfl) (fun _ _ _ h => h) (Or.inl ⟨by rfl, ?_⟩) (by assumption) ?_
            rotate_left 1
            · intro w hSw; (try dsimp only at hSw); go_simp <;> with_reducible rfl
            (try simp only [Act.put]); (try simp only [List.setIfInBounds_toArray]); (try simp only [List.set_cons_succ]); (try simp only [List.set_cons_zero])
            refine wpAnyH_take (i := 6) (oi := ⟨_, _, _, _, _, _⟩) (v := ?_) rfl (by kernel_rfl) (by kernel_rfl) (by kernel_rfl) (fun _ _ _ h => h) (Or.inl ⟨by rfl, ?_⟩) (by assumption) ?_
            rotate_left 1
            · intro w hSw; (try dsimp only at hSw); go_simp <;> with_reducible rfl
            (try simp only [Act.put]); (try simp only [List.setIfInBounds_toArray]); (try simp only [List.set_cons_succ]); (try simp only [List.set_cons_zero])
            refine wpAnyH_take (i := 7) (oi := ⟨_, _, _, _, _, _⟩) (v := ?_) rfl (by kernel_rfl) (by kernel_rfl) (by kernel_rfl) (fun _ _ _ h => h) (Or.inl ⟨by rfl, ?_⟩) (by assumption) ?_
            rotate_left 1
            · intro w hSw; (try dsimp only at hSw); go_simp <;> with_reducible rfl
            (try simp only [Act.put]); (try simp only [List.setIfInBounds_toArray]); (try simp only [List.set_cons_succ]); (try simp only [List.set_cons_zero])
            refine wpAnyH_take (i := 8) (oi := ⟨_, _, _, _, _, _⟩) (v := ?_) rfl (by kernel_rfl) (by kernel_rfl) (by kernel_rfl) (fun _ _ _ h => h) (Or.inl ⟨by rfl, ?_⟩) (by assumption) ?_
            rotate_left 1
            · intro w hSw; (try dsimp only at hSw); go_simp <;> with_reducible rfl
            (try simp only [Act.put]); (try simp only [List.setIfInBounds_toArray]); (try simp only [List.set_cons_succ]); (try simp only [List.set_cons_zero])
            refine wpAnyH_take (i := 9) (oi := ⟨_, _, _, _, _, _⟩) (v := ?_) rfl (by kernel_rfl) (by kernel_rfl) (by kernel_rfl) (fun _ _ _ h => h) (Or.inl ⟨by rfl, ?_⟩) (by assumption) ?_
            rotate_left 1
            · intro w hSw; (try dsimp only at hSw); go_simp <;> with_reducible rfl
            (try simp only [Act.put]); (try simp only [List.setIfInBounds_toArray]); (try simp only [List.set_cons_succ]); (try simp only [List.set_cons_zero])
            refine wpAnyH_take (i := 10) (oi := ⟨_, _, _, _, _, _⟩) (v := ?_) rfl (by kernel_rfl) (by kernel_rfl) (by kernel_rfl) (fun _ _ _ h => h) (Or.inl ⟨by rfl, ?_⟩) (by assumption) ?_
            rotate_left 1
            · intro w hSw; (try dsimp only at hSw); go_simp <;> with_reducible rfl
            (try simp only [Act.put]); (try simp only [List.setIfInBounds_toArray]); (try simp only [List.set_cons_succ]); (try simp only [List.set_cons_zero])
            refine wpAnyH_take (i := 11) (oi := ⟨_, _, _, _, _, _⟩) (v := ?_) rfl (by kernel_rfl) (by kernel_rfl) (by kernel_rfl) (fun _ _ _ h => h) (Or.inl ⟨by rfl, ?_⟩) (by assumption) ?_
            rotate_left 1
            · intro w hSw; (try dsimp only at hSw); go_simp <;> with_reducible rfl
            (try simp only [Act.put]); (try simp only [List.setIfInBounds_toArray]); (try simp only [List.set_cons_succ]); (try simp only [List.set_cons_zero])
            refine wpAnyH_ready (rs := [5, 12]) (by kernel_rfl) (by simp) ?_
            refine AllReadyH.cons (o := ⟨_, _, _, _, _, _⟩) rfl (fun K hK => ?_) (AllReadyH.cons (o := ⟨_, _, _, _, _, _⟩) rfl (fun K hK => ?_) AllReadyH.nil)
            · have c6 := hR.box.cell 6 (v := .slice ag fl.length cg) rfl
              go_simp
              clear c6
              refine hK.out _ _ ?_ (fun hHeld => ?_)
              · exact HCT.out _ hL
              clear hK K
              (try simp only [Act.put]); (try simp only [List.setIfInBounds_toArray]); (try simp only [List.set_cons_succ]); (try simp only [List.set_cons_zero])
              refine wpAnyH_ready (rs := [12]) (by kernel_rfl) (by simp) ?_
              refine AllReadyH.cons (o := ⟨_, _, _, _, _, _⟩) rfl (fun K hK => ?_) AllReadyH.nil
              have c6 := hR.box.cell 6 (v := .slice ag fl.length cg) rfl
              go_simp
              clear c6
              refine hK.out _ _ ?_ (fun hHeld => ?_)
              · exact HCT.out _ hL
              clear hK K
              (try simp only [Act.put]); (try simp only [List.setIfInBounds_toArray]); (try simp only [List.set_cons_succ]); (try simp only [List.set_cons_zero])
              refine wpAnyH_take (i := 13) (oi := ⟨_, _, _, _, _, _⟩) (v := ?_) rfl (by kernel_rfl) (by kernel_rfl) (by kernel_rfl) (fun _ _ _ h => h) (Or.inl ⟨by rfl, ?_⟩) (by assumption) ?_
              rotate_left 1
              · intro w hSw; (try dsimp only at hSw); go_simp <;> with_reducible rfl
              (try simp only [Act.put]); (try simp only [List.setIfInBounds_toArray]); (try simp only [List.set_cons_succ]); (try simp only [List.set_cons_zero])
              refine wpAnyH_take (i := 14) (oi := ⟨_, _, _, _, _, _⟩) (v := ?_) rfl (by kernel_rfl) (by kernel_rfl) (by kernel_rfl) (fun _ _ _ h => h) (Or.inl ⟨by rfl, ?_⟩) (by assumption) ?_
              rotate_left 1
              · intro w hSw; (try dsimp only at hSw); go_simp <;> with_reducible rfl
              (try simp only [Act.put]); (try simp only [List.setIfInBounds_toArray]); (try simp only [List.set_cons_succ]); (try simp only [List.set_cons_zero])
              refine wpAnyH_take (i := 15) (oi := ⟨_, _, _, _, _, _⟩) (v := ?_) rfl (by kernel_rfl) (by kernel_rfl) (by kernel_rfl) (fun _ _ _ h => h) (Or.inl ⟨by rfl, ?_⟩) (by assumption) ?_
              rotate_left 1
              · intro w hSw; (try dsimp only at hSw); go_simp <;> with_reducible rfl
              (try simp only [Act.put]); (try simp only [List.setIfInBounds_toArray]); (try simp only [List.set_cons_succ]); (try simp only [List.set_cons_zero])
              refine wpAnyH_take (i := 16) (oi := ⟨_, _, _, _, _, _⟩) (v := ?_) rfl (by kernel_rfl) (by kernel_rfl) (by kernel_rfl) (fun _ _ _ h => h) (Or.inl ⟨by rfl, ?_⟩) (by assumption) ?_
              rotate_left 1
              · intro w hSw; (try dsimp only at hSw); go_simp <;> with_reducible rfl
              (try simp only [Act.put]); (try simp only [List.setIfInBounds_toArray]); (try simp only [List.set_cons_succ]); (try simp only [List.set_cons_zero])
              refine wpAnyH_ready (rs := [17]) (by kernel_rfl) (by simp) ?_
              refine AllReadyH.cons (o := ⟨_, _, _, _, _, _⟩) rfl (fun K hK => ?_) AllReadyH.nil
              go_simp
              have r1 : Rd (V0.alloc (.cells #[.int .i64 x.kind, .int .i64 x.src, .int .i64 x.dst, .string x.v] 145)) (some ⟨V0.heap.size, 0, none⟩) 1 1 4 (cl [x]) := rd_new 145 4 V0 _ 1 (by decide) rfl
              have kA := (Keeps.refl V0).alloc (.cells #[.int .i64 x.kind, .int .i64 x.src, .int .i64 x.dst, .string x.v] 145)
              replace hR := hR.keep kA
              replace hL := kA.own hL
              clear kA
              generalize V0.alloc (.cells #[.int .i64 x.kind, .int .i64 x.src, .int .i64 x.dst, .string x.v] 145) = V1 at *
              generalize V0.heap.size = BS at *
              refine hK.out _ _ ?_ (fun hHeld => ?_)
              · exact HCT.out _ hL
              clear hK K
              (try simp only [Act.put]); (try simp only [List.setIfInBounds_toArray]); (try simp only [List.set_cons_succ]); (try simp only [List.set_cons_zero])
              refine wpAnyH_ready (rs := [18]) (by kernel_rfl) (by simp) ?_
              refine AllReadyH.cons (o := ⟨_, _, _, _, _, _⟩) rfl (fun K hK => ?_) AllReadyH.nil
              have HO := Lib.hid hR.fli
              refine step_app3 ty_cl rfl _ _ rfl HO.out rfl rfl r1 (cl_cells _) (by omega) ?_
              intro v' V2 hO' hgr hb'
              dsimp only
              obtain ⟨a9, c9, rfl, _⟩ := hO'.rd
              rw [← cl_append] at hO'
              obtain ⟨L', hL'⟩ : ∃ L', L' = fl ++ [x] := ⟨_, rfl⟩
              rw [len_snoc9 fl x, ← hL'] at hO' hb' ⊢
              have HL' := Lib.hid hL'
              clear hL'
              replace hL := hL.kept hgr hR.apart
              have hbx := hR.boxg hgr
              have hap := (hR.append hO' hgr hb').1
              have HAP := Lib.hid hap
              clear hap hO' hgr hb' HO r1 hR
              refine hK.out _ _ ?_ (fun hHeld => ?_)
              · exact HCT.out _ hL
              clear hK K
              (try simp only [Act.put]); (try simp only [List.setIfInBounds_toArray]); (try simp only [List.set_cons_succ]); (try simp only [List.set_cons_zero])
              refine wpAnyH_take (i := 19) (oi := ⟨_, _, _, _, _, _⟩) (v := ?_) rfl (by kernel_rfl) (by kernel_rfl) (by kernel_rfl) (fun _ _ _ h => h) (Or.inl ⟨by rfl, ?_⟩) (by assumption) ?_
              rotate_left 1
              · intro w hSw; (try dsimp only at hSw); go_simp <;> with_reducible rfl
              (try simp only [Act.put]); (try simp only [List.setIfInBounds_toArray]); (try simp only [List.set_cons_succ]); (try simp only [List.set_cons_zero])
              refine wpAnyH_take (i := 20) (oi := ⟨_, _, _, _, _, _⟩) (v := ?_) rfl (by kernel_rfl) (by kernel_rfl) (by kernel_rfl) (fun _ _ _ h => h) (Or.inl ⟨by rfl, ?_⟩) (by assumption) ?_
              rotate_left 1
              · intro w hSw; (try dsimp only at hSw); go_simp <;> with_reducible rfl
              (try simp only [Act.put]); (try simp only [List.setIfInBounds_toArray]); (try simp only [List.set_cons_succ]); (try simp only [List.set_cons_zero])
              refine wpAnyH_take (i := 21) (oi := ⟨_, _, _, _, _, _⟩) (v := ?_) rfl (by kernel_rfl) (by kernel_rfl) (by kernel_rfl) (fun _ _ _ h => h) (Or.inl ⟨by rfl, ?_⟩) (by assumption) ?_
              rotate_left 1
              · intro w hSw; (try dsimp only at hSw); go_simp <;> with_reducible rfl
              (try simp only [Act.put]); (try simp only [List.setIfInBounds_toArray]); (try simp only [List.set_cons_succ]); (try simp only [List.set_cons_zero])
              refine wpAnyH_ready (rs := [22]) (by kernel_rfl) (by simp) ?_
              refine AllReadyH.cons (o := ⟨_, _, _, _, _, _⟩) rfl (fun K hK => ?_) AllReadyH.nil
              have c6 := hbx.cell 6 (v := .slice ag fl.length cg) rfl
              have g6 := hbx.frozen 6
              go_simp
              clear c6 g6
              have hR := HAP.out
              replace hL := hR.lie.1
              generalize V2.setCell ⟨B, 6, none⟩ (.slice a9 L'.length c9) = V3 at *
              refine hK.out _ _ ?_ (fun hHeld => ?_)
              · exact HCT.out _ hL
              clear hK K
              (try simp only [Act.put]); (try simp only [List.setIfInBounds_toArray]); (try simp only [List.set_cons_succ]); (try simp only [List.set_cons_zero])
              refine wpAnyH_done (by kernel_rfl) ?_ _
              have HR := Lib.hid hR
              clear hR hL hbx HAP
              go_wp2_with fail
              go_roundw
              case rel => exact ⟨k + 1, _, nas, _, L', by omega, by go_num, HR.out, Lib.hid (by rw [HRUN.out, HDR.out]; show runS f b n byz LL (stepS f b n byz LL _ c) _ = _; rw [HSTEP.out, HL'.out]), Lib.hid (HSM.out), Lib.hid (by rw [HL'.out]; exact dst_snoc HDS.out HXD.out), Lib.hid (by rw [HL'.out]; have h2 := HME.out; unfold measS at *; dsimp only at *; rw [List.length_append, List.length_singleton]; omega)⟩
              case measure => simp [RowKit.intOf]; omega
            · have c6 := hR.box.cell 6 (v := .slice ag fl.length cg) rfl
              go_simp
              clear c6
              refine hK.out _ _ ?_ (fun hHeld => ?_)
              · exact HCT.out _ hL
              clear hK K
              (try simp only [Act.put]); (try simp only [List.setIfInBounds_toArray]); (try simp only [List.set_cons_succ]); (try simp only [List.set_cons_zero])
              refine wpAnyH_take (i := 13) (oi := ⟨_, _, _, _, _, _⟩) (v := ?_) rfl (by kernel_rfl) (by kernel_rfl) (by kernel_rfl) (fun _ _ _ h => h) (Or.inl ⟨by rfl, ?_⟩) (by assumption) ?_
              rotate_left 1
              · intro w hSw; (try dsimp only at hSw); go_simp <;> with_reducible rfl
              (try simp only [Act.put]); (try simp only [List.setIfInBounds_toArray]); (try simp only [List.set_cons_succ]); (try simp only [List.set_cons_zero])
              refine wpAnyH_take (i := 14) (oi := ⟨_, _, _, _, _, _⟩) (v := ?_) rfl (by kernel_rfl) (by kernel_rfl) (by kernel_rfl) (fun _ _ _ h => h) (Or.inl ⟨by rfl, ?_⟩) (by assumption) ?_
              rotate_left 1
              · intro w hSw; (try dsimp only at hSw); go_simp <;> with_reducible rfl
              (try simp only [Act.put]); (try simp only [List.setIfInBounds_toArray]); (try simp only [List.set_cons_succ]); (try simp only [List.set_cons_zero])
              refine wpAnyH_take (i := 15) (oi := ⟨_, _, _, _, _, _⟩) (v := ?_) rfl (by kernel_rfl) (by kernel_rfl) (by kernel_rfl) (fun _ _ _ h => h) (Or.inl ⟨by rfl, ?_⟩) (by assumption) ?_
              rotate_left 1
              · intro w hSw; (try dsimp only at hSw); go_simp <;> with_reducible rfl
              (try simp only [Act.put]); (try simp only [List.setIfInBounds_toArray]); (try simp only [List.set_cons_succ]); (try simp only [List.set_cons_zero])
              refine wpAnyH_take (i := 16) (oi := ⟨_, _, _, _, _, _⟩) (v := ?_) rfl (by kernel_rfl) (by kernel_rfl) (by kernel_rfl) (fun _ _ _ h => h) (Or.inl ⟨by rfl, ?_⟩) (by assumption) ?_
              rotate_left 1
              · intro w hSw; (try dsimp only at hSw); go_simp <;> with_reducible rfl
              (try simp only [Act.put]); (try simp only [List.setIfInBounds_toArray]); (try simp only [List.set_cons_succ]); (try simp only [List.set_cons_zero])
              refine wpAnyH_ready (rs := [5, 17]) (by kernel_rfl) (by simp) ?_
              refine AllReadyH.cons (o := ⟨_, _, _, _, _, _⟩) rfl (fun K hK => ?_) (AllReadyH.cons (o := ⟨_, _, _, _, _, _⟩) rfl (fun K hK => ?_) AllReadyH.nil)
              · have c6 := hR.box.cell 6 (v := .slice ag fl.length cg) rfl
                go_simp
                clear c6
                refine hK.out _ _ ?_ (fun hHeld => ?_)
                · exact HCT.out _ hL
                clear hK K
                (try simp only [Act.put]); (try simp only [List.setIfInBounds_toArray]); (try simp only [List.set_cons_succ]); (try simp only [List.set_cons_zero])
                refine wpAnyH_ready (rs := [17]) (by kernel_rfl) (by simp) ?_
                refine AllReadyH.cons (o := ⟨_, _, _, _, _, _⟩) rfl (fun K hK => ?_) AllReadyH.nil
                go_simp
                have r1 : Rd (V0.alloc (.cells #[.int .i64 x.kind, .int .i64 x.src, .int .i64 x.dst, .string x.v] 145)) (some ⟨V0.heap.size, 0, none⟩) 1 1 4 (cl [x]) := rd_new 145 4 V0 _ 1 (by decide) rfl
                have kA := (Keeps.refl V0).alloc (.cells #[.int .i64 x.kind, .int .i64 x.src, .int .i64 x.dst, .string x.v] 145)
                replace hR := hR.keep kA
                replace hL := kA.own hL
                clear kA
                generalize V0.alloc (.cells #[.int .i64 x.kind, .int .i64 x.src, .int .i64 x.dst, .string x.v] 145) = V1 at *
                generalize V0.heap.size = BS at *
                refine hK.out _ _ ?_ (fun hHeld => ?_)
                · exact HCT.out _ hL
                clear hK K
                (try simp only [Act.put]); (try simp only [List.setIfInBounds_toArray]); (try simp only [List.set_cons_succ]); (try simp only [List.set_cons_zero])
                refine wpAnyH_ready (rs := [18]) (by kernel_rfl) (by simp) ?_
                refine AllReadyH.cons (o := ⟨_, _, _, _, _, _⟩) rfl (fun K hK => ?_) AllReadyH.nil
                have HO := Lib.hid hR.fli
                refine step_app3 ty_cl rfl _ _ rfl HO.out rfl rfl r1 (cl_cells _) (by omega) ?_
                intro v' V2 hO' hgr hb'
                dsimp only
                obtain ⟨a9, c9, rfl, _⟩ := hO'.rd
                rw [← cl_append] at hO'
                obtain ⟨L', hL'⟩ : ∃ L', L' = fl ++ [x] := ⟨_, rfl⟩
                rw [len_snoc9 fl x, ← hL'] at hO' hb' ⊢
                have HL' := Lib.hid hL'
                clear hL'
                replace hL := hL.kept hgr hR.apart
                have hbx := hR.boxg hgr
                have hap := (hR.append hO' hgr hb').1
                have HAP := Lib.hid hap
                clear hap hO' hgr hb' HO r1 hR
                refine hK.out _ _ ?_ (fun hHeld => ?_)
                · exact HCT.out _ hL
                clear hK K
                (try simp only [Act.put]); (try simp only [List.setIfInBounds_toArray]); (try simp only [List.set_cons_succ]); (try simp only [List.set_cons_zero])
                refine wpAnyH_take (i := 19) (oi := ⟨_, _, _, _, _, _⟩) (v := ?_) rfl (by kernel_rfl) (by kernel_rfl) (by kernel_rfl) (fun _ _ _ h => h) (Or.inl ⟨by rfl, ?_⟩) (by assumption) ?_
                rotate_left 1
                · intro w hSw; (try dsimp only at hSw); go_simp <;> with_reducible rfl
                (try simp only [Act.put]); (try simp only [List.setIfInBounds_toArray]); (try simp only [List.set_cons_succ]); (try simp only [List.set_cons_zero])
                refine wpAnyH_take (i := 20) (oi := ⟨_, _, _, _, _, _⟩) (v := ?_) rfl (by kernel_rfl) (by kernel_rfl) (by kernel_rfl) (fun _ _ _ h => h) (Or.inl ⟨by rfl, ?_⟩) (by assumption) ?_
                rotate_left 1
                · intro w hSw; (try dsimp only at hSw); go_simp <;> with_reducible rfl
                (try simp only [Act.put]); (try simp only [List.setIfInBounds_toArray]); (try simp only [List.set_cons_succ]); (try simp only [List.set_cons_zero])
                refine wpAnyH_take (i := 21) (oi := ⟨_, _, _, _, _, _⟩) (v := ?_) rfl (by kernel_rfl) (by kernel_rfl) (by kernel_rfl) (fun _ _ _ h => h) (Or.inl ⟨by rfl, ?_⟩) (by assumption) ?_
                rotate_left 1
                · intro w hSw; (try dsimp only at hSw); go_simp <;> with_reducible rfl
                (try simp only [Act.put]); (try simp only [List.setIfInBounds_toArray]); (try simp only [List.set_cons_succ]); (try simp only [List.set_cons_zero])
                refine wpAnyH_ready (rs := [22]) (by kernel_rfl) (by simp) ?_
                refine AllReadyH.cons (o := ⟨_, _, _, _, _, _⟩) rfl (fun K hK => ?_) AllReadyH.nil
                have c6 := hbx.cell 6 (v := .slice ag fl.length cg) rfl
                have g6 := hbx.frozen 6
                go_simp
                clear c6 g6
                have hR := HAP.out
                replace hL := hR.lie.1
                generalize V2.setCell ⟨B, 6, none⟩ (.slice a9 L'.length c9) = V3 at *
                refine hK.out _ _ ?_ (fun hHeld => ?_)
                · exact HCT.out _ hL
                clear hK K
                (try simp only [Act.put]); (try simp only [List.setIfInBounds_toArray]); (try simp only [List.set_cons_succ]); (try simp only [List.set_cons_zero])
                refine wpAnyH_done (by kernel_rfl) ?_ _
                have HR := Lib.hid hR
                clear hR hL hbx HAP
                go_wp2_with fail
                go_roundw
                case rel => exact ⟨k + 1, _, nas, _, L', by omega, by go_num, HR.out, Lib.hid (by rw [HRUN.out, HDR.out]; show runS f b n byz LL (stepS f b n byz LL _ c) _ = _; rw [HSTEP.out, HL'.out]), Lib.hid (HSM.out), Lib.hid (by rw [HL'.out]; exact dst_snoc HDS.out HXD.out), Lib.hid (by rw [HL'.out]; have h2 := HME.out; unfold measS at *; dsimp only at *; rw [List.length_append, List.length_singleton]; omega)⟩
                case measure => simp [RowKit.intOf]; omega
              · go_simp
                have r1 : Rd (V0.alloc (.cells #[.int .i64 x.kind, .int .i64 x.src, .int .i64 x.dst, .string x.v] 145)) (some ⟨V0.heap.size, 0, none⟩) 1 1 4 (cl [x]) := rd_new 145 4 V0 _ 1 (by decide) rfl
                have kA := (Keeps.refl V0).alloc (.cells #[.int .i64 x.kind, .int .i64 x.src, .int .i64 x.dst, .string x.v] 145)
                replace hR := hR.keep kA
                replace hL := kA.own hL
                clear kA
                generalize V0.alloc (.cells #[.int .i64 x.kind, .int .i64 x.src, .int .i64 x.dst, .string x.v] 145) = V1 at *
                generalize V0.heap.size = BS at *
                refine hK.out _ _ ?_ (fun hHeld => ?_)
                · exact HCT.out _ hL
                clear hK K
                (try simp only [Act.put]); (try simp only [List.setIfInBounds_toArray]); (try simp only [List.set_cons_succ]); (try simp only [List.set_cons_zero])
                refine wpAnyH_ready (rs := [5]) (by kernel_rfl) (by simp) ?_
                refine AllReadyH.cons (o := ⟨_, _, _, _, _, _⟩) rfl (fun K hK => ?_) AllReadyH.nil
                have c6 := hR.box.cell 6 (v := .slice ag fl.length cg) rfl
                go_simp
                clear c6
                refine hK.out _ _ ?_ (fun hHeld => ?_)
                · exact HCT.out _ hL
                clear hK K
                (try simp only [Act.put]); (try simp only [List.setIfInBounds_toArray]); (try simp only [List.set_cons_succ]); (try simp only [List.set_cons_zero])
                refine wpAnyH_ready (rs := [18]) (by kernel_rfl) (by simp) ?_
                refine AllReadyH.cons (o := ⟨_, _, _, _, _, _⟩) rfl (fun K hK => ?_) AllReadyH.nil
                have HO := Lib.hid hR.fli
                refine step_app3 ty_cl rfl _ _ rfl HO.out rfl rfl r1 (cl_cells _) (by omega) ?_
                intro v' V2 hO' hgr hb'
                dsimp only
                obtain ⟨a9, c9, rfl, _⟩ := hO'.rd
                rw [← cl_append] at hO'
                obtain ⟨L', hL'⟩ : ∃ L', L' = fl ++ [x] := ⟨_, rfl⟩
                rw [len_snoc9 fl x, ← hL'] at hO' hb' ⊢
                have HL' := Lib.hid hL'
                clear hL'
                replace hL := hL.kept hgr hR.apart
                have hbx := hR.boxg hgr
                have hap := (hR.append hO' hgr hb').1
                have HAP := Lib.hid hap
                clear hap hO' hgr hb' HO r1 hR
                refine hK.out _ _ ?_ (fun hHeld => ?_)
                · exact HCT.out _ hL
                clear hK K
                (try simp only [Act.put]); (try simp only [List.setIfInBounds_toArray]); (try simp only [List.set_cons_succ]); (try simp only [List.set_cons_zero])
                refine wpAnyH_take (i := 19) (oi := ⟨_, _, _, _, _, _⟩) (v := ?_) rfl (by kernel_rfl) (by kernel_rfl) (by kernel_rfl) (fun _ _ _ h => h) (Or.inl ⟨by rfl, ?_⟩) (by assumption) ?_
                rotate_left 1
                · intro w hSw; (try dsimp only at hSw); go_simp <;> with_reducible rfl
                (try simp only [Act.put]); (try simp only [List.setIfInBounds_toArray]); (try simp only [List.set_cons_succ]); (try simp only [List.set_cons_zero])
                refine wpAnyH_take (i := 20) (oi := ⟨_, _, _, _, _, _⟩) (v := ?_) rfl (by kernel_rfl) (by kernel_rfl) (by kernel_rfl) (fun _ _ _ h => h) (Or.inl ⟨by rfl, ?_⟩) (by assumption) ?_
                rotate_left 1
                · intro w hSw; (try dsimp only at hSw); go_simp <;> with_reducible rfl
                (try simp only [Act.put]); (try simp only [List.setIfInBounds_toArray]); (try simp only [List.set_cons_succ]); (try simp only [List.set_cons_zero])
                refine wpAnyH_take (i := 21) (oi := ⟨_, _, _, _, _, _⟩) (v := ?_) rfl (by kernel_rfl) (by kernel_rfl) (by kernel_rfl) (fun _ _ _ h => h) (Or.inl ⟨by rfl, ?_⟩) (by assumption) ?_
                rotate_left 1
                · intro w hSw; (try dsimp only at hSw); go_simp <;> with_reducible rfl
                (try simp only [Act.put]); (try simp only [List.setIfInBounds_toArray]); (try simp only [List.set_cons_succ]); (try simp only [List.set_cons_zero])
                refine wpAnyH_ready (rs := [22]) (by kernel_rfl) (by simp) ?_
                refine AllReadyH.cons (o := ⟨_, _, _, _, _, _⟩) rfl (fun K hK => ?_) AllReadyH.nil
                have c6 := hbx.cell 6 (v := .slice ag fl.length cg) rfl
                have g6 := hbx.frozen 6
                go_simp
                clear c6 g6
                have hR := HAP.out
                replace hL := hR.lie.1
                generalize V2.setCell ⟨B, 6, none⟩ (.slice a9 L'.length c9) = V3 at *
                refine hK.out _ _ ?_ (fun hHeld => ?_)
                · exact HCT.out _ hL
                clear hK K
                (try simp only [Act.put]); (try simp only [List.setIfInBounds_toArray]); (try simp only [List.set_cons_succ]); (try simp only [List.set_cons_zero])
                refine wpAnyH_done (by kernel_rfl) ?_ _
                have HR := Lib.hid hR
                clear hR hL hbx HAP
                go_wp2_with fail
                go_roundw
                case rel => exact ⟨k + 1, _, nas, _, L', by omega, by go_num, HR.out, Lib.hid (by rw [HRUN.out, HDR.out]; show runS f b n byz LL (stepS f b n byz LL _ c) _ = _; rw [HSTEP.out, HL'.out]), Lib.hid (HSM.out), Lib.hid (by rw [HL'.out]; exact dst_snoc HDS.out HXD.out), Lib.hid (by rw [HL'.out]; have h2 := HME.out; unfold measS at *; dsimp only at *; rw [List.length_append, List.length_singleton]; omega)⟩
                case measure => simp [RowKit.intOf]; omega
      · have e1 : k = m := by omega
        subst e1
        have HRE := Lib.hid hR
        clear hR
        skip
        obtain ⟨e0, e1, e2, e3, e4, e5, e6⟩ := HRE.out.box.c7
        obtain ⟨d0, d1, d2, d3, d4⟩ := c5 (HCAST.out.keep HRE.out.keeps)
        obtain ⟨g0, g1, g2, g3, g4⟩ := f5 (HCAST.out.keep HRE.out.keeps)
        go_wp2_with fail
        clear e0 e1 e2 e3 e4 e5 e6 d0 d1 d2 d3 d4 g0 g1 g2 g3 g4
        refine bodyPost_ret (resCast (n := n) (byz := byz) (source := source) (nv := .slice an nas.length cn) (gv := .slice ag fl.length cg) rfl (set5 (HCAST.out.keep HRE.out.keeps) _ _ _ _ _) rfl rfl) rfl ?_
        have hR := HRE.out.cast HCAST.out HCLO.out HK01.out n byz source (.slice an nas.length cn) (.slice ag fl.length cg)
        exact ⟨_, nas, _, fl, rfl, hR.1, hR.2.1, hR.2.2, by rw [← HLL.out, HRUN.out, HM.out, List.drop_length]; rfl⟩
end Go.Proofs.YtijknodekomdfaaGreatDoor
