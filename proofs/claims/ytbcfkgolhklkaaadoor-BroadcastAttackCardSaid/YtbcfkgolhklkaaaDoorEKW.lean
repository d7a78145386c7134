/- Texts joined into one, what is needed of them (a program of ours). -/
import Derived.Test.YtbcfkgolhklkaaaDoorEKV
namespace Go.Proofs.YtbcfkgolhklkaaaDoor
open Go.RowKit Go.Lib Go.Shelf

/-- what is put into flight -/
def putC (n : Nat) (byz : S) (c : Ct) : List Ct := if 0 ≤ c.dst then [c] else toAll n byz c
def putL (n : Nat) (byz : S) (l : List Ct) : List Ct := l.flatMap (putC n byz)
theorem putL_succ (n : Nat) (byz : S) (l : List Ct) (i : Nat) (h : i < l.length) : putL n byz (l.take (i + 1)) = putL n byz (l.take i) ++ putC n byz (ctA l i) := by
  unfold putL
  rw [take_ctA l i h, List.flatMap_append]
  simp
def toP (M : List Nat) (c : Ct) (k : Nat) : List Ct := (M.take k).map fun (i : Nat) => { c with dst := (i : Int) }
theorem toP_succ (M : List Nat) (c : Ct) (k : Nat) (h : k < M.length) : toP M c (k + 1) = toP M c k ++ [⟨c.kind, c.src, ((im M k : Nat) : Int), c.v⟩] := by
  unfold toP
  rw [List.take_succ_eq_append_getElem h, List.map_append]
  simp [im, List.getD, h]
theorem toP_all (n : Nat) (byz : S) (c : Ct) (k : Nat) (h : (corrL n byz).length ≤ k) : toP (corrL n byz) c k = toAll n byz c := by
  unfold toP toAll
  rw [List.take_of_length_le h]
theorem ct_at {w w' : World} {a : Option Addr} {n c : Nat} {l : List Ct} (h : Rd w a n c 4 (cl l)) {i : Nat} (hi : i < n) (k : Keeps w w') :
    w'.cell? (adr a (i * 4)) = some (.int .i64 (ctA l i).kind) ∧ w'.cell? ⟨(adr a (i * 4)).block, (adr a (i * 4)).off + 1, none⟩ = some (.int .i64 (ctA l i).src) ∧ w'.cell? ⟨(adr a (i * 4)).block, (adr a (i * 4)).off + 2, none⟩ = some (.int .i64 (ctA l i).dst) ∧ w'.cell? ⟨(adr a (i * 4)).block, (adr a (i * 4)).off + 3, none⟩ = some (.string (ctA l i).v) := cl_at (h.keep k) hi
set_option maxRecDepth 20000 in
theorem resC1 {fn : Func} {p : Tmp} (h : fn.results = #[.cell p 32]) {tmps : Array Value} {W : World} {B : Nat} {n : Int} {byz : S} {source : Int} {nv gv : Value}
    (hB : Blk W B 32 #[.int .i64 n, .int .u16 (sv byz), .int .i64 source, nv, gv]) (tp : tmps.getD p undef = .pointer (some ⟨B, 0, none⟩)) :
    (results fn tmps).run Tryd.prog W = .ok (vCast n byz source nv gv) W :=
  results_cell_row h _ _ _ _ _ _ _ tp hB rfl rfl rfl
set_option maxRecDepth 200000 in
set_option maxHeartbeats 4000000 in
theorem rput39_any (n : Nat) (hn : n ≤ 12) (byz : S) (source : Int) (na : Option Addr) (nm nc : Nat) (ga : Option Addr) (gc : Nat) (fl : List Ct) (la : Option Addr) (lc : Nat) (l : List Ct) (w : World) (hg : Rd w ga fl.length gc 4 (cl fl)) (hl : Rd w la l.length lc 4 (cl l)) (hfl : fl.length ≤ 100000) (hll : l.length ≤ 1000) :
    Calls Tryd.prog 48 #[vCast n byz source (.slice na nm nc) (.slice ga fl.length gc), .slice la l.length lc] w fun e w' => ∃ gv', e = .returned (vCast n byz source (.slice na nm nc) gv') ∧ Own 53 4 w w' gv' (fl ++ putL n byz l).length (cl (fl ++ putL n byz l)) := by
  have hs : ∀ (W : World) o, (W.alloc o).heap.size = W.heap.size + 1 := fun W o => World.size_alloc ..
  have k1 := (Keeps.refl w).alloc (.cells #[.int .i64 n, .int .u16 (sv byz), .int .i64 source, .slice na nm nc, .slice ga fl.length gc] 32)
  have k2 := (Keeps.refl (w.alloc (.cells #[.int .i64 n, .int .u16 (sv byz), .int .i64 source, .slice na nm nc, .slice ga fl.length gc] 32))).alloc (.cells #[.int .i64 0, .int .u16 0, .int .i64 0, .slice none 0 0, .slice none 0 0] 32)
  have hX := (Blk.new w 32 #[.int .i64 n, .int .u16 (sv byz), .int .i64 source, .slice na nm nc, .slice ga fl.length gc]).keep k2
  have hBR := Blk.new (w.alloc (.cells #[.int .i64 n, .int .u16 (sv byz), .int .i64 source, .slice na nm nc, .slice ga fl.length gc] 32)) 32 #[.int .i64 0, .int .u16 0, .int .i64 0, .slice none 0 0, .slice none 0 0]
  rw [hs] at hBR
  have J := k1.trans k2
  have HS := Lib.hid hs
  have HG := Lib.hid hg; have HL0 := Lib.hid hl
  clear hs k1 k2 hg hl
  unfold vCast
  go_enter Tryd.func48, Tryd.ntmps48
  go_upto_region 1 with fail
  generalize (w.alloc (.cells #[.int .i64 n, .int .u16 (sv byz), .int .i64 source, .slice na nm nc, .slice ga fl.length gc] 32)).alloc (.cells #[.int .i64 0, .int .u16 0, .int .i64 0, .slice none 0 0, .slice none 0 0] 32) = w2 at *
  obtain ⟨BX, hBX⟩ : ∃ B, B = w.heap.size := ⟨_, rfl⟩
  obtain ⟨BR, hBRe⟩ : ∃ B, B = w.heap.size + 1 := ⟨_, rfl⟩
  rw [← hBRe, ← hBX]
  rw [← hBRe] at hBR
  rw [← hBX] at hX
  have hlx : w.heap.size ≤ BX := by omega
  have hlr : w.heap.size ≤ BR := by omega
  have n1 : BR ≠ BX := by omega
  clear hBX hBRe
  -- the copy of the flight
  have ho := Own.made (e := 53) (sz := 4) J [] 0 (by decide) rfl
  have kA := (Keeps.refl w2).alloc (.cells #[] 53)
  have HX := Lib.hid (hX.keep kA); have HBR := Lib.hid (hBR.keep kA); have HO := Lib.hid ho; have HGG := Lib.hid (HG.out.keep (J.trans kA))
  have c4 := HX.out.cell 4 (v := .slice ga fl.length gc) rfl
  clear ho kA hX hBR J
  go_wp2_with (at_builtin; refine wp_app ty_cl rfl _ _ rfl HO.out rfl rfl HGG.out (cl_cells _) (by omega) ?_)
  intro v' w3 hO hgr
  obtain ⟨a3, c3, rfl, _⟩ := hO.rd
  have hne := blk_ne HX.out HO.out.1 (by decide)
  have hne2 := blk_ne HBR.out HO.out.1 (by decide)
  have hX := blk_grown9 HX.out hgr hne
  have hBR := blk_grown9 HBR.out hgr hne2
  have d4 := hX.cell 4 (v := .slice ga fl.length gc) rfl
  have f4 := hX.frozen 4
  have HO3 := Lib.hid (own_oth9 hO hX (by decide) hlx 4 (.slice a3 fl.length c3))
  have HBR3 := Lib.hid (hBR.setOther n1 4 (.slice a3 fl.length c3))
  have hX3 := hX.set 4 (.slice a3 fl.length c3)
  simp only [List.setIfInBounds_toArray, List.set_cons_succ, List.set_cons_zero] at hX3
  have HX3 := Lib.hid hX3
  clear hO hgr hne hne2 hX hBR hX3 HX HBR HO HGG c4
  go_upto_region 2 with fail
  clear d4 f4
  generalize w3.setCell ⟨BX, 4, none⟩ (.slice a3 fl.length c3) = w4 at *
  have hco := rcorrect9_any n byz w4 hn
  have HCO := Lib.hid hco
  obtain ⟨x0, x1, x2, x3, x4⟩ := c5 HX3.out
  clear hco
  go_wp2_with fail
  refine HCO.out.mono ?_
  rintro e w5 ⟨mv, rfl, hM⟩
  obtain ⟨am, cm, rfl, hm⟩ := hM.rd
  have HM := Lib.hid hm
  have HX5 := Lib.hid (HX3.out.keep hM.2); have HBR5 := Lib.hid (HBR3.out.keep hM.2); have HO5 := Lib.hid (HO3.out.keep hM.2)
  have HMR := Lib.hid hM.row0
  have HML := Lib.hid (show (corrL n byz).length ≤ 12 by unfold corrL; exact Nat.le_trans (List.length_filter_le _ _) (by simp; exact hn))
  have HTA := Lib.hid (fun c k h => toP_all n byz c k h)
  clear x0 x1 x2 x3 x4 hM hm HCO HX3 HBR3 HO3
  generalize hMq : corrL n byz = M at *
  have HMQ := Lib.hid hMq
  clear hMq
  go_wp2_with fail
  go_loopw [6] (fun u wr => ∃ (i : Nat) (gv : Value) (L : List Ct), i ≤ l.length ∧ u = .int .i64 i ∧ Own 53 4 w wr gv L.length (cl L) ∧ Blk wr BX 32 #[.int .i64 n, .int .u16 (sv byz), .int .i64 source, .slice na nm nc, gv] ∧ Blk wr BR 32 #[.int .i64 0, .int .u16 0, .int .i64 0, .slice none 0 0, .slice none 0 0] ∧ Row0 3 1 wr (.slice am M.length cm) M.length (il M) ∧ Hid (L = fl ++ putL n byz (l.take i)) ∧ Hid (L.length ≤ 100000 + 12 * i)) (fun u _ => l.length - (RowKit.intOf u).toNat)
  case atStart => exact ⟨0, _, fl, Nat.zero_le _, rfl, HO5.out, HX5.out, HBR5.out, HMR.out, Lib.hid (by simp [putL]), Lib.hid (by omega)⟩
  case round =>
    clear HO5 HX5 HBR5 HMR
    obtain ⟨i, gv, L, hi, rfl, hO, hX, hBR, hM, HLL, HLB⟩ := hrel
    by_cases hlt : i < l.length
    · have HSU := Lib.hid (putL_succ n byz l i hlt)
      have HAT := Lib.hid (fun W (k : Keeps w W) => ct_at HL0.out hlt k)
      have hao := HL0.out.isSome (by omega)
      have HPC : Hid (∀ c, putC n byz c = if 0 ≤ c.dst then [c] else toAll n byz c) := Lib.hid (fun c => rfl)
      generalize ctA l i = x at *
      obtain ⟨p0, p1, p2, p3⟩ := HAT.out _ hO.2
      obtain ⟨ag, cg, rfl, _⟩ := hO.rd
      have HGV : Hid (Value.slice ag L.length cg = Value.slice ag L.length cg) := Lib.hid rfl
      generalize hgv : Value.slice ag L.length cg = gv at hO hX
      have HGV := Lib.hid hgv
      clear hgv
      rw [adr_plus _ _ _ (by decide)] at p1 p2 p3
      by_cases hd : 0 ≤ x.dst
      · have HSU := Lib.hid (show putL n byz (l.take (i + 1)) = putL n byz (l.take i) ++ [x] by rw [HSU.out, HPC.out, if_pos hd])
        have HO := Lib.hid hO; have HX := Lib.hid hX; have HBR := Lib.hid hBR; have HMW := Lib.hid hM
        clear hO hX hBR hM
        go_upto_region 7 with fail
        clear p0 p1 p2 p3
        have hO := HO.out; have hX := HX.out; have hBR := HBR.out; have hM := HMW.out
        clear HO HX HBR HMW
        have kd := (Keeps.refl wr).drew
        replace hO := hO.keep kd
        replace hX := hX.keep kd
        replace hBR := hBR.keep kd
        replace hM := Row0.keep hM kd
        clear kd
        refine wp_region_held_drew (S := (fun w' => w'.cell? (adr la (i * 4)) = some (.int .i64 x.kind) ∧ w'.cell? ⟨(adr la (i * 4)).block, (adr la (i * 4)).off + 1, none⟩ = some (.int .i64 x.src) ∧ w'.cell? ⟨(adr la (i * 4)).block, (adr la (i * 4)).off + 2, none⟩ = some (.int .i64 x.dst) ∧ w'.cell? ⟨(adr la (i * 4)).block, (adr la (i * 4)).off + 3, none⟩ = some (.string x.v))) (by kernel_rfl) ?_ (fun hHeld => ?_)
        · exact HAT.out _ hO.2
        generalize wr.drew = V0 at *
        refine wpAnyH_take (i := 0) (oi := ⟨_, _, _, _, _, _⟩) (v := ?_) rfl (by kernel_rfl) (by kernel_rfl) (by kernel_rfl) (fun _ _ _ h => h) (Or.inl ⟨by rfl, ?_⟩) (by assumption) ?_
        rotate_left 1
        · intro w hSw; (try dsimp only at hSw); go_simp <;> with_reducible rfl
        (try simp only [Act.put]); (try simp only [List.setIfInBounds_toArray]); (try simp only [List.set_cons_succ]); (try simp only [List.set_cons_zero])
        refine wpAnyH_take (i := 2) (oi := ⟨_, _, _, _, _, _⟩) (v := ?_) rfl (by kernel_rfl) (by kernel_rfl) (by kernel_rfl) (fun _ _ _ h => h) (Or.inl ⟨by rfl, ?_⟩) (by assumption) ?_
        rotate_left 1
        · intro w hSw; (try dsimp only at hSw); go_simp <;> with_reducible rfl
        (try simp only [Act.put]); (try simp only [List.setIfInBounds_toArray]); (try simp only [List.set_cons_succ]); (try simp only [List.set_cons_zero])
        refine wpAnyH_take (i := 3) (oi := ⟨_, _, _, _, _, _⟩) (v := ?_) rfl (by kernel_rfl) (by kernel_rfl) (by kernel_rfl) (fun _ _ _ h => h) (Or.inl ⟨by rfl, ?_⟩) (by assumption) ?_
        rotate_left 1
        · intro w hSw; (try dsimp only at hSw); go_simp <;> with_reducible rfl
        (try simp only [Act.put]); (try simp only [List.setIfInBounds_toArray]); (try simp only [List.set_cons_succ]); (try simp only [List.set_cons_zero])
        refine wpAnyH_take (i := 4) (oi := ⟨_, _, _, _, _, _⟩) (v := ?_) rfl (by kernel_rfl) (by kernel_rfl) (by kernel_rfl) (fun _ _ _ h => h) (Or.inl ⟨by rfl, ?_⟩) (by assumption) ?_
        rotate_left 1
        · intro w hSw; (try dsimp only at hSw); go_simp <;> with_reducible rfl
        (try simp only [Act.put]); (try simp only [List.setIfInBounds_toArray]); (try simp only [List.set_cons_succ]); (try simp only [List.set_cons_zero])
        refine wpAnyH_take (i := 5) (oi := ⟨_, _, _, _, _, _⟩) (v := ?_) rfl (by kernel_rfl) (by kernel_rfl) (by kernel_rfl) (fun _ _ _ h => h) (Or.inl ⟨by rfl, ?_⟩) (by assumption) ?_
        rotate_left 1
        · intro w hSw; (try dsimp only at hSw); go_simp <;> with_reducible rfl
        (try simp only [Act.put]); (try simp only [List.setIfInBounds_toArray]); (try simp only [List.set_cons_succ]); (try simp only [List.set_cons_zero])
        refine wpAnyH_ready (rs := [1, 6]) (by kernel_rfl) (by simp) ?_
        refine AllReadyH.cons (o := ⟨_, _, _, _, _, _⟩) rfl (fun K hK => ?_) (AllReadyH.cons (o := ⟨_, _, _, _, _, _⟩) rfl (fun K hK => ?_) AllReadyH.nil)
        · have c4 := hX.cell 4 (v := gv) rfl
          go_simp
          clear c4
          refine hK.out _ _ ?_ (fun hHeld => ?_)
          · exact HAT.out _ hO.2
          clear hK K
          (try simp only [Act.put]); (try simp only [List.setIfInBounds_toArray]); (try simp only [List.set_cons_succ]); (try simp only [List.set_cons_zero])
          refine wpAnyH_ready (rs := [6]) (by kernel_rfl) (by simp) ?_
          refine AllReadyH.cons (o := ⟨_, _, _, _, _, _⟩) rfl (fun K hK => ?_) AllReadyH.nil
          go_simp
          have r1 : Rd (V0.alloc (.cells #[.int .i64 x.kind, .int .i64 x.src, .int .i64 x.dst, .string x.v] 53)) (some ⟨V0.heap.size, 0, none⟩) 1 1 4 (cl [x]) := rd_new 53 4 V0 _ 1 (by decide) rfl
          have kA := (Keeps.refl V0).alloc (.cells #[.int .i64 x.kind, .int .i64 x.src, .int .i64 x.dst, .string x.v] 53)
          replace hO := hO.keep kA
          replace hX := hX.keep kA
          replace hBR := hBR.keep kA
          replace hM := Row0.keep hM kA
          clear kA
          generalize V0.alloc (.cells #[.int .i64 x.kind, .int .i64 x.src, .int .i64 x.dst, .string x.v] 53) = V1 at *
          generalize V0.heap.size = BQ at *
          refine hK.out _ _ ?_ (fun hHeld => ?_)
          · exact HAT.out _ hO.2
          clear hK K
          (try simp only [Act.put]); (try simp only [List.setIfInBounds_toArray]); (try simp only [List.set_cons_succ]); (try simp only [List.set_cons_zero])
          refine wpAnyH_ready (rs := [7]) (by kernel_rfl) (by simp) ?_
          refine AllReadyH.cons (o := ⟨_, _, _, _, _, _⟩) rfl (fun K hK => ?_) AllReadyH.nil
          have HO := Lib.hid hO
          have HNE1 := Lib.hid (blk_ne hX hO.1 (by decide)); have HNE2 := Lib.hid (blk_ne hBR hO.1 (by decide))
          refine step_app ty_cl rfl _ _ rfl HO.out rfl rfl r1 (cl_cells _) (by have := HLB.out; omega) ?_
          intro v' V2 hO' hgr
          dsimp only
          obtain ⟨a9, c9, rfl, _⟩ := hO'.rd
          rw [← cl_append] at hO'
          obtain ⟨L', hL'⟩ : ∃ L', L' = L ++ [x] := ⟨_, rfl⟩
          rw [len_snoc9 L x, ← hL'] at hO' ⊢
          have HL' := Lib.hid hL'
          clear hL'
          replace hX := blk_grown9 hX hgr HNE1.out
          replace hBR := blk_grown9 hBR hgr HNE2.out
          replace hM := row_kept hM HO.out.1 (by decide) hgr
          clear HO r1 hgr hO
          have hO := hO'
          clear hO' HNE1 HNE2
          refine hK.out _ _ ?_ (fun hHeld => ?_)
          · exact HAT.out _ hO.2
          clear hK K
          (try simp only [Act.put]); (try simp only [List.setIfInBounds_toArray]); (try simp only [List.set_cons_succ]); (try simp only [List.set_cons_zero])
          refine wpAnyH_take (i := 8) (oi := ⟨_, _, _, _, _, _⟩) (v := ?_) rfl (by kernel_rfl) (by kernel_rfl) (by kernel_rfl) (fun _ _ _ h => h) (Or.inl ⟨by rfl, ?_⟩) (by assumption) ?_
          rotate_left 1
          · intro w hSw; (try dsimp only at hSw); go_simp <;> with_reducible rfl
          (try simp only [Act.put]); (try simp only [List.setIfInBounds_toArray]); (try simp only [List.set_cons_succ]); (try simp only [List.set_cons_zero])
          refine wpAnyH_ready (rs := [9]) (by kernel_rfl) (by simp) ?_
          refine AllReadyH.cons (o := ⟨_, _, _, _, _, _⟩) rfl (fun K hK => ?_) AllReadyH.nil
          have c4 := hX.cell 4 (v := gv) rfl
          have g4 := hX.frozen 4
          go_simp
          clear c4 g4
          replace hO := own_oth9 hO hX (by decide) hlx 4 (.slice a9 L'.length c9)
          replace hBR := hBR.setOther n1 4 (.slice a9 L'.length c9)
          replace hM := row_set hM hX (by decide) 4 (.slice a9 L'.length c9)
          replace hX := hX.set 4 (.slice a9 L'.length c9)
          simp only [List.setIfInBounds_toArray, List.set_cons_succ, List.set_cons_zero] at hX
          generalize V2.setCell ⟨BX, 4, none⟩ (.slice a9 L'.length c9) = V3 at *
          refine hK.out _ _ ?_ (fun hHeld => ?_)
          · exact HAT.out _ hO.2
          clear hK K
          (try simp only [Act.put]); (try simp only [List.setIfInBounds_toArray]); (try simp only [List.set_cons_succ]); (try simp only [List.set_cons_zero])
          refine wpAnyH_done (by kernel_rfl) ?_ _
          have HO := Lib.hid hO; have HX := Lib.hid hX; have HBR := Lib.hid hBR; have HM := Lib.hid hM
          clear hO hX hBR hM
          go_wp2_with fail
          go_roundw
          case rel => exact ⟨i + 1, _, L', by omega, by go_num, HO.out, HX.out, HBR.out, HM.out, Lib.hid (by rw [HL'.out, HLL.out, HSU.out, List.append_assoc]), Lib.hid (by rw [HL'.out, List.length_append, List.length_singleton]; have := HLB.out; omega)⟩
          case measure => simp [RowKit.intOf]; omega
        · go_simp
          have r1 : Rd (V0.alloc (.cells #[.int .i64 x.kind, .int .i64 x.src, .int .i64 x.dst, .string x.v] 53)) (some ⟨V0.heap.size, 0, none⟩) 1 1 4 (cl [x]) := rd_new 53 4 V0 _ 1 (by decide) rfl
          have kA := (Keeps.refl V0).alloc (.cells #[.int .i64 x.kind, .int .i64 x.src, .int .i64 x.dst, .string x.v] 53)
          replace hO := hO.keep kA
          replace hX := hX.keep kA
          replace hBR := hBR.keep kA
          replace hM := Row0.keep hM kA
          clear kA
          generalize V0.alloc (.cells #[.int .i64 x.kind, .int .i64 x.src, .int .i64 x.dst, .string x.v] 53) = V1 at *
          generalize V0.heap.size = BQ at *
          refine hK.out _ _ ?_ (fun hHeld => ?_)
          · exact HAT.out _ hO.2
          clear hK K
          (try simp only [Act.put]); (try simp only [List.setIfInBounds_toArray]); (try simp only [List.set_cons_succ]); (try simp only [List.set_cons_zero])
          refine wpAnyH_ready (rs := [1]) (by kernel_rfl) (by simp) ?_
          refine AllReadyH.cons (o := ⟨_, _, _, _, _, _⟩) rfl (fun K hK => ?_) AllReadyH.nil
          have c4 := hX.cell 4 (v := gv) rfl
          go_simp
          clear c4
          refine hK.out _ _ ?_ (fun hHeld => ?_)
          · exact HAT.out _ hO.2
          clear hK K
          (try simp only [Act.put]); (try simp only [List.setIfInBounds_toArray]); (try simp only [List.set_cons_succ]); (try simp only [List.set_cons_zero])
          refine wpAnyH_ready (rs := [7]) (by kernel_rfl) (by simp) ?_
          refine AllReadyH.cons (o := ⟨_, _, _, _, _, _⟩) rfl (fun K hK => ?_) AllReadyH.nil
          have HO := Lib.hid hO
          have HNE1 := Lib.hid (blk_ne hX hO.1 (by decide)); have HNE2 := Lib.hid (blk_ne hBR hO.1 (by decide))
          refine step_app ty_cl rfl _ _ rfl HO.out rfl rfl r1 (cl_cells _) (by have := HLB.out; omega) ?_
          intro v' V2 hO' hgr
          dsimp only
          obtain ⟨a9, c9, rfl, _⟩ := hO'.rd
          rw [← cl_append] at hO'
          obtain ⟨L', hL'⟩ : ∃ L', L' = L ++ [x] := ⟨_, rfl⟩
          rw [len_snoc9 L x, ← hL'] at hO' ⊢
          have HL' := Lib.hid hL'
          clear hL'
          replace hX := blk_grown9 hX hgr HNE1.out
          replace hBR := blk_grown9 hBR hgr HNE2.out
          replace hM := row_kept hM HO.out.1 (by decide) hgr
          clear HO r1 hgr hO
          have hO := hO'
          clear hO' HNE1 HNE2
          refine hK.out _ _ ?_ (fun hHeld => ?_)
          · exact HAT.out _ hO.2
          clear hK K
          (try simp only [Act.put]); (try simp only [List.setIfInBounds_toArray]); (try simp only [List.set_cons_succ]); (try simp only [List.set_cons_zero])
          refine wpAnyH_take (i := 8) (oi := ⟨_, _, _, _, _, _⟩) (v := ?_) rfl (by kernel_rfl) (by kernel_rfl) (by kernel_rfl) (fun _ _ _ h => h) (Or.inl ⟨by rfl, ?_⟩) (by assumption) ?_
          rotate_left 1
          · intro w hSw; (try dsimp only at hSw); go_simp <;> with_reducible rfl
          (try simp only [Act.put]); (try simp only [List.setIfInBounds_toArray]); (try simp only [List.set_cons_succ]); (try simp only [List.set_cons_zero])
          refine wpAnyH_ready (rs := [9]) (by kernel_rfl) (by simp) ?_
          refine AllReadyH.cons (o := ⟨_, _, _, _, _, _⟩) rfl (fun K hK => ?_) AllReadyH.nil
          have c4 := hX.cell 4 (v := gv) rfl
          have g4 := hX.frozen 4
          go_simp
          clear c4 g4
          replace hO := own_oth9 hO hX (by decide) hlx 4 (.slice a9 L'.length c9)
          replace hBR := hBR.setOther n1 4 (.slice a9 L'.length c9)
          replace hM := row_set hM hX (by decide) 4 (.slice a9 L'.length c9)
          replace hX := hX.set 4 (.slice a9 L'.length c9)
          simp only [List.setIfInBounds_toArray, List.set_cons_succ, List.set_cons_zero] at hX
          generalize V2.setCell ⟨BX, 4, none⟩ (.slice a9 L'.length c9) = V3 at *
          refine hK.out _ _ ?_ (fun hHeld => ?_)
          · exact HAT.out _ hO.2
          clear hK K
          (try simp only [Act.put]); (try simp only [List.setIfInBounds_toArray]); (try simp only [List.set_cons_succ]); (try simp only [List.set_cons_zero])
          refine wpAnyH_done (by kernel_rfl) ?_ _
          have HO := Lib.hid hO; have HX := Lib.hid hX; have HBR := Lib.hid hBR; have HM := Lib.hid hM
          clear hO hX hBR hM
          go_wp2_with fail
          go_roundw
          case rel => exact ⟨i + 1, _, L', by omega, by go_num, HO.out, HX.out, HBR.out, HM.out, Lib.hid (by rw [HL'.out, HLL.out, HSU.out, List.append_assoc]), Lib.hid (by rw [HL'.out, List.length_append, List.length_singleton]; have := HLB.out; omega)⟩
          case measure => simp [RowKit.intOf]; omega
      · have HSU := Lib.hid (show putL n byz (l.take (i + 1)) = putL n byz (l.take i) ++ toAll n byz x by rw [HSU.out, HPC.out, if_neg hd])
        have HO := Lib.hid hO; have HX := Lib.hid hX; have HBR := Lib.hid hBR; have HMW := Lib.hid hM
        clear hO hX hBR hM
        go_wp2_with fail
        clear p2
        go_loopw [7] (fun u wr => ∃ (k : Nat) (gv : Value) (L2 : List Ct), k ≤ M.length ∧ u = .int .i64 k ∧ Own 53 4 w wr gv L2.length (cl L2) ∧ Blk wr BX 32 #[.int .i64 n, .int .u16 (sv byz), .int .i64 source, .slice na nm nc, gv] ∧ Blk wr BR 32 #[.int .i64 0, .int .u16 0, .int .i64 0, .slice none 0 0, .slice none 0 0] ∧ Row0 3 1 wr (.slice am M.length cm) M.length (il M) ∧ Hid (L2 = L ++ toP M x k) ∧ Hid (L2.length ≤ L.length + k)) (fun u _ => M.length - (RowKit.intOf u).toNat)
        case atStart => exact ⟨0, _, L, Nat.zero_le _, rfl, HO.out, HX.out, HBR.out, HMW.out, Lib.hid (by simp [toP]), Lib.hid (by omega)⟩
        case round =>
          clear HO HX HBR HMW
          obtain ⟨k, gv2, L2, hk, rfl, hO, hX, hBR, hM, HL2, HB2⟩ := hrel
          by_cases hlk : k < M.length
          · have hmr := hM.rd
            have kA := (Keeps.refl wr).alloc (.cells #[.int .i64 x.kind, .int .i64 x.src, .int .i64 x.dst, .string x.v] 53)
            have q0 := (hmr.keep kA).cell k _ (il_at M k hlk)
            have ham := hmr.isSome (by omega)
            have HTS := Lib.hid (toP_succ M x k hlk)
            obtain ⟨t0, t1, t2, t3⟩ := HAT.out _ hO.2
            generalize im M k = d at *
            have hC := Blk.new wr 53 #[.int .i64 x.kind, .int .i64 x.src, .int .i64 x.dst, .string x.v]
            have HO := Lib.hid hO; have HX := Lib.hid hX; have HBR := Lib.hid hBR; have HMW := Lib.hid hM
            clear hO hX hBR hM hmr hC kA
            go_upto_region 13 with fail
            clear q0 t0 t1 t2 t3
            have kA := (Keeps.refl wr).alloc (.cells #[.int .i64 x.kind, .int .i64 x.src, .int .i64 d, .string x.v] 53)
            have hC := Blk.new wr 53 #[.int .i64 x.kind, .int .i64 x.src, .int .i64 d, .string x.v]
            have hO := HO.out.keep kA; have hX := HX.out.keep kA; have hBR := HBR.out.keep kA; have hM := Row0.keep HMW.out kA
            clear HO HX HBR HMW kA
            generalize wr.alloc (.cells #[.int .i64 x.kind, .int .i64 x.src, .int .i64 d, .string x.v] 53) = wB at *
            generalize wr.heap.size = BC at *
            obtain ⟨y0, y1, y2, y3⟩ : _ ∧ _ ∧ _ ∧ _ := ⟨hC.cell 0 (v := .int .i64 x.kind) rfl, hC.cell 1 (v := .int .i64 x.src) rfl, hC.cell 2 (v := .int .i64 d) rfl, hC.cell 3 (v := .string x.v) rfl⟩
            have c4 := hX.cell 4 (v := gv2) rfl
            have r1 : Rd (wB.alloc (.cells #[.int .i64 x.kind, .int .i64 x.src, .int .i64 d, .string x.v] 53)) (some ⟨wB.heap.size, 0, none⟩) 1 1 4 (cl [(⟨x.kind, x.src, (d : Int), x.v⟩ : Ct)]) := rd_new 53 4 wB _ 1 (by decide) rfl
            have kB := (Keeps.refl wB).alloc (.cells #[.int .i64 x.kind, .int .i64 x.src, .int .i64 d, .string x.v] 53)
            have HO := Lib.hid (hO.keep kB); have HX := Lib.hid (hX.keep kB); have HBR := Lib.hid (hBR.keep kB); have HMW := Lib.hid (Row0.keep hM kB); have HR1 := Lib.hid r1
            have HLN : Hid (L2.length + 1 ≤ 10000000) := Lib.hid (by have h1 := HB2.out; have h2 := HLB.out; have h3 := HML.out; omega)
            clear hO hX hBR hM hC kB r1
            go_wp2_with (at_builtin; refine wp_app ty_cl rfl _ _ rfl HO.out rfl rfl HR1.out (cl_cells _) HLN.out ?_)
            intro v' w9 hO' hgr
            obtain ⟨a9, c9, rfl, _⟩ := hO'.rd
            rw [← cl_append] at hO'
            have hX := blk_grown9 HX.out hgr (blk_ne HX.out HO.out.1 (by decide))
            have hBR := blk_grown9 HBR.out hgr (blk_ne HBR.out HO.out.1 (by decide))
            have hM := row_kept HMW.out HO.out.1 (by decide) hgr
            obtain ⟨L', hL'⟩ : ∃ L', L' = L2 ++ [(⟨x.kind, x.src, (d : Int), x.v⟩ : Ct)] := ⟨_, rfl⟩
            rw [len_snoc9 L2 (⟨x.kind, x.src, (d : Int), x.v⟩ : Ct), ← hL'] at hO' ⊢
            have HL' := Lib.hid hL'
            have e4 := hX.cell 4 (v := gv2) rfl
            have f4 := hX.frozen 4
            have HOF := Lib.hid (own_oth9 hO' hX (by decide) hlx 4 (.slice a9 L'.length c9))
            have HBRF := Lib.hid (hBR.setOther n1 4 (.slice a9 L'.length c9))
            have HMF := Lib.hid (row_set hM hX (by decide) 4 (.slice a9 L'.length c9))
            have hXF := hX.set 4 (.slice a9 L'.length c9)
            simp only [List.setIfInBounds_toArray, List.set_cons_succ, List.set_cons_zero] at hXF
            have HXF := Lib.hid hXF
            clear hL' hO' hX hBR hM hXF hgr HO HX HBR HMW HR1 y0 y1 y2 y3 c4
            have hml := HML.out
            go_wp2_with fail
            clear e4 f4
            go_roundw
            case rel => exact ⟨k + 1, _, L', by omega, by go_num, HOF.out, HXF.out, HBRF.out, HMF.out, Lib.hid (by rw [HL'.out, HL2.out, HTS.out, List.append_assoc]), Lib.hid (by rw [HL'.out, List.length_append, List.length_singleton]; have := HB2.out; omega)⟩
            case measure => simp [RowKit.intOf]; omega
          · have e2 : k = M.length := by omega
            have HO := Lib.hid hO; have HX := Lib.hid hX; have HBR := Lib.hid hBR; have HMW := Lib.hid hM
            have HFL : Hid (L2 = L ++ toAll n byz x) := Lib.hid (by rw [HL2.out, HTA.out x k (by omega)])
            clear hO hX hBR hM e2
            go_wp2_with fail
            go_roundw
            case rel => exact ⟨i + 1, _, L2, by omega, by go_num, HO.out, HX.out, HBR.out, HMW.out, Lib.hid (by rw [HFL.out, HLL.out, HSU.out, List.append_assoc]), Lib.hid (by have h1 := HB2.out; have h2 := HLB.out; have h3 := HML.out; omega)⟩
            case measure => simp [RowKit.intOf]; omega
    · have e1 : i = l.length := by omega
      have HF : Hid (L = fl ++ putL n byz l) := Lib.hid (by rw [HLL.out, e1, List.take_length])
      obtain ⟨ag, cg, rfl, _⟩ := hO.rd
      have HO := Lib.hid hO; have HX := Lib.hid hX; have HBR := Lib.hid hBR
      obtain ⟨x0, x1, x2, x3, x4⟩ := c5 hX
      obtain ⟨d0, d1, d2, d3, d4⟩ := c5 hBR
      obtain ⟨g0, g1, g2, g3, g4⟩ := f5 hBR
      clear hO hX hBR e1
      go_wp2_with fail
      clear x0 x1 x2 x3 x4 d0 d1 d2 d3 d4 g0 g1 g2 g3 g4
      refine bodyPost_ret (resC1 (n := (n : Int)) (byz := byz) (source := source) (nv := .slice na nm nc) (gv := .slice ag L.length cg) rfl (set5 HBR.out _ _ _ _ _) rfl) rfl ?_
      have b1 := HBR.out.set 0 (.int .i64 n); have b2 := b1.set 1 (.int .u16 (sv byz)); have b3 := b2.set 2 (.int .i64 source); have b4 := b3.set 3 (.slice na nm nc)
      refine ⟨_, rfl, ?_⟩
      rw [← HF.out]
      exact own_oth9 (own_oth9 (own_oth9 (own_oth9 (own_oth9 HO.out HBR.out (by decide) hlr 0 _) b1 (by decide) hlr 1 _) b2 (by decide) hlr 2 _) b3 (by decide) hlr 3 _) b4 (by decide) hlr 4 _
end Go.Proofs.YtbcfkgolhklkaaaDoor
namespace Go.Proofs.YtbcfkgolhklkaaaDoor
open Go.RowKit Go.Lib Go.Shelf

theorem rdy_dst (x : Nd) (is : Bool) (v : Str) : ∀ o ∈ (rdy x is v).2, o.dst = -1 := by
  unfold rdy
  split
  · exact fun o ho => by rw [List.mem_singleton.1 ho]
  · exact fun o ho => by cases ho
theorem handle_dst (f b : List S) (x : Nd) (src kind : Int) (v : Str) : ∀ o ∈ (handle f b x src kind v).2, o.dst = -1 := by
  have nil : ∀ o ∈ ([] : List Ct), o.dst = -1 := fun o ho => by cases ho
  unfold handle
  split
  · exact nil
  split
  · split
    · exact nil
    · exact fun o ho => by rw [List.mem_singleton.1 ho]
  split
  · split
    · exact nil
    · exact rdy_dst _ _ _
  split
  · split
    · exact nil
    · exact rdy_dst _ _ _
  · exact nil
theorem putL_out (n : Nat) (byz : S) (l : List Ct) (h : ∀ o ∈ l, o.dst = -1) : putL n byz l = l.flatMap (toAll n byz) := by
  unfold putL
  induction l with
  | nil => rfl
  | cons c t ih =>
    rw [List.flatMap_cons, List.flatMap_cons, ih fun o ho => h o (List.mem_cons_of_mem _ ho)]
    congr 1
    unfold putC
    rw [if_neg (by rw [h c (List.mem_cons_self ..)]; decide)]
theorem RPN.keep {w W W' : World} {z : NA} (h : RPN w W z) (k : Keeps W W') (J : Keeps w W) : RPN w W' z := ⟨h.1.keep k J, h.2.keep k J⟩
theorem RPN.set9 {w W : World} {z : NA} (h : RPN w W z) {C : Nat} {T : TypeId} {cs : Array Value} (hC : Blk W C T cs) (hT : T ≠ 103) (hlo : w.heap.size ≤ C) (J : Keeps w W) (u0 u1 u2 u3 u4 u5 u6 u7 u8 : Value) : RPN w ((((((((((W.setCell ⟨C, 0, none⟩ (u0)).setCell ⟨C, 1, none⟩ (u1)).setCell ⟨C, 2, none⟩ (u2)).setCell ⟨C, 3, none⟩ (u3)).setCell ⟨C, 4, none⟩ (u4)).setCell ⟨C, 5, none⟩ (u5)).setCell ⟨C, 6, none⟩ (u6)).setCell ⟨C, 7, none⟩ (u7)).setCell ⟨C, 8, none⟩ (u8))) z :=
  ⟨h.1.set9 hC hT hlo J u0 u1 u2 u3 u4 u5 u6 u7 u8, h.2.set9 hC hT hlo J u0 u1 u2 u3 u4 u5 u6 u7 u8⟩
theorem RP.grown {w W W' : World} {a : Option Addr} {n c : Nat} {xs : List Value} (h : RP w W a n c xs) {b' : Nat} {v : Value} {m : Nat} {ys : List Value} (hO : W.ownsRow b' 46 9 v m ys) (J : Keeps w W') (hg : W.grownBy W' v.ownBlock) : RP w W' a n c xs := by
  rcases h.2 with h2 | h2
  · exact ⟨h2.keep J, .inl h2⟩
  · have h3 : Own 103 2 w W' (.slice a n c) n xs := ⟨row_kept h2.1 hO (by decide) hg, J⟩
    exact ⟨h3.row0.rd, .inr h3⟩
theorem RPN.grown {w W W' b'' : World} {z : NA} (h : RPN w W z) {v : Value} {m : Nat} {ys : List Value} (hO : Own 46 9 b'' W v m ys) (J : Keeps w W') (hg : W.grownBy W' v.ownBlock) : RPN w W' z := ⟨h.1.grown hO.1 J hg, h.2.grown hO.1 J hg⟩
theorem RPN.set5 {w W : World} {z : NA} (h : RPN w W z) {C : Nat} {T : TypeId} {cs : Array Value} (hC : Blk W C T cs) (hT : T ≠ 103) (hlo : w.heap.size ≤ C) (J : Keeps w W) (u0 u1 u2 u3 u4 : Value) : RPN w (st5 W C u0 u1 u2 u3 u4) z := by
  have b1 := hC.set 0 u0; have b2 := b1.set 1 u1; have b3 := b2.set 2 u2; have b4 := b3.set 3 u3
  have J1 := keeps_set J hlo 0 u0; have J2 := keeps_set J1 hlo 1 u1; have J3 := keeps_set J2 hlo 2 u2; have J4 := keeps_set J3 hlo 3 u3
  exact ⟨((((h.1.set hC hT hlo J 0 u0).set b1 hT hlo J1 1 u1).set b2 hT hlo J2 2 u2).set b3 hT hlo J3 3 u3).set b4 hT hlo J4 4 u4, ((((h.2.set hC hT hlo J 0 u0).set b1 hT hlo J1 1 u1).set b2 hT hlo J2 2 u2).set b3 hT hlo J3 3 u3).set b4 hT hlo J4 4 u4⟩
theorem RPN.rdh {w W : World} {z : NA} (h : RPN w W z) : RdH W z := ⟨h.1.1, h.2.1⟩
theorem rd_takeE {w : World} {a : Option Addr} {n c sz : Nat} {xs : List Value} (h : Rd w a n c sz xs) {i : Nat} (hi : i ≤ n) : Rd w a i c sz (xs.take (i * sz)) := by
  refine ⟨?_, by have := h.nc; omega, h.cm, fun h0 => h.isSome (by omega), fun j u hu => ?_⟩
  · rw [List.length_take, h.len, Nat.min_eq_left (Nat.mul_le_mul_right _ hi)]
  · rw [List.getElem?_take] at hu
    split at hu
    · exact h.cell j u hu
    · cases hu
set_option maxRecDepth 200000 in
set_option maxHeartbeats 4000000 in
theorem rdeliver39_any (fa : Option Addr) (fm fc : Nat) (f : List S) (ba : Option Addr) (bm bc : Nat) (b : List S) (n : Nat) (hn : n ≤ 12) (byz : S) (source : Int) (na : Option Addr) (nc : Nat) (nas : List NA) (ga : Option Addr) (gc : Nat) (fl : List Ct) (k : Nat) (b0 w : World) (JB : Keeps b0 w)
    (hf : Rd w fa fm fc 1 (sl f)) (hb : Rd w ba bm bc 1 (sl b)) (hnr : Rd w na nas.length nc 9 (nl nas)) (hg : Rd w ga fl.length gc 4 (cl fl)) (hh : ∀ z ∈ nas, RPN b0 w z) (hk : k < fl.length) (hd : ∃ d : Nat, (ctA fl k).dst = (d : Int) ∧ d < nas.length) (hsm : ∀ z ∈ nas, z.x.echoes.length ≤ 1000 ∧ z.x.readies.length ≤ 1000) (hfl : fl.length ≤ 90000) (hnl : nas.length ≤ 1000) :
    Calls Tryd.prog 50 #[.slice fa fm fc, .slice ba bm bc, vCast n byz source (.slice na nas.length nc) (.slice ga fl.length gc), .int .i64 k] w fun e w' => ∃ nv' nas' gv' fl', e = .returned (vCast n byz source nv' gv') ∧ Own 46 9 w w' nv' nas'.length (nl nas') ∧ Own 53 4 w w' gv' fl'.length (cl fl') ∧ (∀ z ∈ nas', RPN b0 w' z) ∧
      (⟨nas'.map NA.x, fl'⟩ : St) = deliv f b n byz ⟨nas.map NA.x, fl⟩ k := by
  obtain ⟨d, hd1, hd2⟩ := hd
  have hs : ∀ (W : World) o, (W.alloc o).heap.size = W.heap.size + 1 := fun W o => World.size_alloc ..
  have k1 := (Keeps.refl w).alloc (.cells #[.int .i64 n, .int .u16 (sv byz), .int .i64 source, .slice na nas.length nc, .slice ga fl.length gc] 32)
  have k2 := (Keeps.refl (w.alloc (.cells #[.int .i64 n, .int .u16 (sv byz), .int .i64 source, .slice na nas.length nc, .slice ga fl.length gc] 32))).alloc (.cells #[.int .i64 0, .int .u16 0, .int .i64 0, .slice none 0 0, .slice none 0 0] 32)
  have hX := (Blk.new w 32 #[.int .i64 n, .int .u16 (sv byz), .int .i64 source, .slice na nas.length nc, .slice ga fl.length gc]).keep k2
  have hBR := Blk.new (w.alloc (.cells #[.int .i64 n, .int .u16 (sv byz), .int .i64 source, .slice na nas.length nc, .slice ga fl.length gc] 32)) 32 #[.int .i64 0, .int .u16 0, .int .i64 0, .slice none 0 0, .slice none 0 0]
  rw [hs] at hBR
  have J := k1.trans k2
  have HT1 := Lib.hid (show Rd w ga k gc 4 (cl (fl.take k)) by rw [cl_take]; exact rd_takeE hg (by omega))
  have HT2 := Lib.hid (show Rd w (subs ga gc (k + 1) 4) (fl.length - (k + 1)) (gc - (k + 1)) 4 (cl (fl.drop (k + 1))) by rw [cl_drop]; exact hg.drop (by omega))
  have HF := Lib.hid hf; have HB := Lib.hid hb; have HN := Lib.hid hnr; have HG := Lib.hid hg; have HH := Lib.hid hh
  have HC : Hid (fl.getD k ct0 = ctA fl k) := Lib.hid rfl
  have HAT := Lib.hid (fun W (kk : Keeps w W) => cl_at (hg.keep kk) hk)
  have HZ := Lib.hid (hsm (naA nas d) (naA_mem (by omega)))
  have HNC0 : Hid (gc = gc) := Lib.hid rfl
  have hgc := hg.nc
  have hao := hg.isSome (by omega)
  rw [hd1] at HAT
  generalize hc : ctA fl k = c at *
  have HHC := Lib.hid hc
  have HD1 := Lib.hid hd1
  clear hs k1 k2 hf hb hnr hg hh hsm HNC0 hc hd1
  unfold vCast
  go_enter Tryd.func50, Tryd.ntmps50
  go_upto_region 1 with fail
  generalize (w.alloc (.cells #[.int .i64 n, .int .u16 (sv byz), .int .i64 source, .slice na nas.length nc, .slice ga fl.length gc] 32)).alloc (.cells #[.int .i64 0, .int .u16 0, .int .i64 0, .slice none 0 0, .slice none 0 0] 32) = w2 at *
  obtain ⟨BX, hBX⟩ : ∃ B, B = w.heap.size := ⟨_, rfl⟩
  obtain ⟨BR, hBRe⟩ : ∃ B, B = w.heap.size + 1 := ⟨_, rfl⟩
  rw [← hBRe, ← hBX]
  rw [← hBRe] at hBR
  rw [← hBX] at hX
  have hlx : w.heap.size ≤ BX := by omega
  have hlr : w.heap.size ≤ BR := by omega
  have n1 : BR ≠ BX := by omega
  clear hBX hBRe
  obtain ⟨p0, p1, p2, p3⟩ := HAT.out _ J
  have x4 := hX.cell 4 (v := .slice ga fl.length gc) rfl
  have HXX := Lib.hid hX; have HBB := Lib.hid hBR; have HJ := Lib.hid J
  clear hX hBR J
  go_upto_region 2 with fail
  clear p0 p1 p2 p3 x4
  have kA := (Keeps.refl w2).alloc (.cells #[.int .i64 c.kind, .int .i64 c.src, .int .i64 d, .string c.v] 53)
  have hC := Blk.new w2 53 #[.int .i64 c.kind, .int .i64 c.src, .int .i64 d, .string c.v]
  have hX := HXX.out.keep kA; have hBR := HBB.out.keep kA; have J := HJ.out.trans kA
  clear HXX HBB HJ kA
  generalize hw3 : w2.alloc (.cells #[.int .i64 c.kind, .int .i64 c.src, .int .i64 d, .string c.v] 53) = w3 at *
  obtain ⟨BC, hBC⟩ : ∃ B, B = w2.heap.size := ⟨_, rfl⟩
  rw [← hBC] at hC ⊢
  have hlt3 : BC < w3.heap.size := by rw [← hw3, hBC, World.size_alloc]; omega
  have HCN : Hid (∀ (W : World) (v : Value) (m : Nat) (xs : List Value), Own 53 4 w3 W v m xs → some BC ≠ v.ownBlock) := Lib.hid (fun W v m xs h e => absurd (h.1.lt BC e.symm).1 (by omega))
  have J0 := J
  clear hw3 hBC J
  have hkc : k ≤ gc := by omega
  go_cut [] (fun wx => ∃ a9 c9, Blk wx BX 32 #[.int .i64 n, .int .u16 (sv byz), .int .i64 source, .slice na nas.length nc, .slice a9 (fl.eraseIdx k).length c9] ∧ Blk wx BR 32 #[.int .i64 0, .int .u16 0, .int .i64 0, .slice none 0 0, .slice none 0 0] ∧ Blk wx BC 53 #[.int .i64 c.kind, .int .i64 c.src, .int .i64 d, .string c.v] ∧ Own 53 4 w wx (.slice a9 (fl.eraseIdx k).length c9) (fl.eraseIdx k).length (cl (fl.eraseIdx k)))
  case first =>
    have kd := (Keeps.refl w3).drew
    replace hX := hX.keep kd
    replace hBR := hBR.keep kd
    replace hC := hC.keep kd
    have J3 := kd
    clear kd
    have hkw : IntKind.i64.wrap ((k : Int) + 1) = (k : Int) + 1 := by rw [IntKind.wrap_i64]; omega
    have hq0 : (0 : Int) ≤ (k : Int) + 1 := by omega
    have hq1 : (k : Int) + 1 ≤ (fl.length : Int) := by omega
    have hq2 : ((k : Int) + 1).toNat = k + 1 := by omega
    refine wp_region_held_drew (S := (fun w' => True)) (by kernel_rfl) trivial (fun hHeld => ?_)
    generalize w3.drew = V0 at *
    refine wpAnyH_take (i := 1) (oi := ⟨_, _, _, _, _, _⟩) (v := ?_) rfl (by kernel_rfl) (by kernel_rfl) (by kernel_rfl) (fun _ _ _ h => h) (Or.inl ⟨by rfl, ?_⟩) (by assumption) ?_
    rotate_left 1
    · intro w hSw; (try dsimp only at hSw); go_simp <;> with_reducible rfl
    (try simp only [Act.put]); (try simp only [List.setIfInBounds_toArray]); (try simp only [List.set_cons_succ]); (try simp only [List.set_cons_zero])
    refine wpAnyH_take (i := 3) (oi := ⟨_, _, _, _, _, _⟩) (v := ?_) rfl (by kernel_rfl) (by kernel_rfl) (by kernel_rfl) (fun _ _ _ h => h) (Or.inl ⟨by rfl, ?_⟩) (by assumption) ?_
    rotate_left 1
    · intro w hSw; (try dsimp only at hSw); go_simp <;> with_reducible rfl
    (try simp only [Act.put]); (try simp only [List.setIfInBounds_toArray]); (try simp only [List.set_cons_succ]); (try simp only [List.set_cons_zero])
    refine wpAnyH_take (i := 6) (oi := ⟨_, _, _, _, _, _⟩) (v := ?_) rfl (by kernel_rfl) (by kernel_rfl) (by kernel_rfl) (fun _ _ _ h => h) (Or.inl ⟨by rfl, ?_⟩) (by assumption) ?_
    rotate_left 1
    · intro w hSw; (try dsimp only at hSw); go_simp <;> with_reducible rfl
    (try simp only [Act.put]); (try simp only [List.setIfInBounds_toArray]); (try simp only [List.set_cons_succ]); (try simp only [List.set_cons_zero])
    refine wpAnyH_take (i := 8) (oi := ⟨_, _, _, _, _, _⟩) (v := ?_) rfl (by kernel_rfl) (by kernel_rfl) (by kernel_rfl) (fun _ _ _ h => h) (Or.inl ⟨by rfl, ?_⟩) (by assumption) ?_
    rotate_left 1
    · intro w hSw; (try dsimp only at hSw); go_simp <;> with_reducible rfl
    (try simp only [Act.put]); (try simp only [List.setIfInBounds_toArray]); (try simp only [List.set_cons_succ]); (try simp only [List.set_cons_zero])
    refine wpAnyH_take (i := 9) (oi := ⟨_, _, _, _, _, _⟩) (v := ?_) rfl (by kernel_rfl) (by kernel_rfl) (by kernel_rfl) (fun _ _ _ h => h) (Or.inl ⟨by rfl, ?_⟩) (by assumption) ?_
    rotate_left 1
    · intro w hSw; (try dsimp only at hSw); go_simp <;> with_reducible rfl
    (try simp only [Act.put]); (try simp only [List.setIfInBounds_toArray]); (try simp only [List.set_cons_succ]); (try simp only [List.set_cons_zero])
    refine wpAnyH_ready (rs := [0, 2, 7]) (by kernel_rfl) (by simp) ?_
    refine AllReadyH.cons (o := ⟨_, _, _, _, _, _⟩) rfl (fun K hK => ?_) (AllReadyH.cons (o := ⟨_, _, _, _, _, _⟩) rfl (fun K hK => ?_) (AllReadyH.cons (o := ⟨_, _, _, _, _, _⟩) rfl (fun K hK => ?_) AllReadyH.nil))
    · go_simp
      have hO := Own.made (e := 53) (sz := 4) J3 [] 0 (by decide) rfl
      have kA := (Keeps.refl V0).alloc (.cells #[] 53)
      replace hX := hX.keep kA
      replace hBR := hBR.keep kA
      replace hC := hC.keep kA
      replace J3 := J3.trans kA
      clear kA
      change Own 53 4 w3 (V0.alloc (.cells #[] 53)) _ _ _ at hO
      generalize V0.alloc (.cells #[] 53) = V1 at *
      generalize V0.heap.size = BO at *
      refine hK.out _ _ ?_ (fun hHeld => ?_)
      · trivial
      clear hK K
      (try simp only [Act.put]); (try simp only [List.setIfInBounds_toArray]); (try simp only [List.set_cons_succ]); (try simp only [List.set_cons_zero])
      refine wpAnyH_ready (rs := [2, 7]) (by kernel_rfl) (by simp) ?_
      refine AllReadyH.cons (o := ⟨_, _, _, _, _, _⟩) rfl (fun K hK => ?_) (AllReadyH.cons (o := ⟨_, _, _, _, _, _⟩) rfl (fun K hK => ?_) AllReadyH.nil)
      · have x4 := hX.cell 4 (v := .slice ga fl.length gc) rfl
        go_simp
        clear x4
        refine hK.out _ _ ?_ (fun hHeld => ?_)
        · trivial
        clear hK K
        (try simp only [Act.put]); (try simp only [List.setIfInBounds_toArray]); (try simp only [List.set_cons_succ]); (try simp only [List.set_cons_zero])
        refine wpAnyH_take (i := 4) (oi := ⟨_, _, _, _, _, _⟩) (v := ?_) rfl (by kernel_rfl) (by kernel_rfl) (by kernel_rfl) (fun _ _ _ h => h) (Or.inl ⟨by rfl, ?_⟩) (by assumption) ?_
        rotate_left 1
        · intro w hSw; (try dsimp only at hSw); go_simp <;> with_reducible rfl
        (try simp only [Act.put]); (try simp only [List.setIfInBounds_toArray]); (try simp only [List.set_cons_succ]); (try simp only [List.set_cons_zero])
        refine wpAnyH_ready (rs := [5, 7]) (by kernel_rfl) (by simp) ?_
        refine AllReadyH.cons (o := ⟨_, _, _, _, _, _⟩) rfl (fun K hK => ?_) (AllReadyH.cons (o := ⟨_, _, _, _, _, _⟩) rfl (fun K hK => ?_) AllReadyH.nil)
        · have HO := Lib.hid hO
          have HRT := Lib.hid (HT1.out.keep (J0.trans J3))
          have HNE := Lib.hid (And.intro (blk_ne hX hO.1 (by decide)) (blk_ne hBR hO.1 (by decide)))
          clear hO
          refine step_app ty_cl rfl _ _ rfl HO.out rfl rfl HRT.out (cl_cells _) (by omega) ?_
          intro v' V2 hO hgr
          dsimp only
          obtain ⟨a9, c9, rfl, _⟩ := hO.rd
          replace hC := blk_grown9 hC hgr (HCN.out _ _ _ _ HO.out)
          replace hX := blk_grown9 hX hgr HNE.out.1
          replace hBR := blk_grown9 hBR hgr HNE.out.2
          replace J3 := hO.2
          clear HO HRT HNE hgr
          simp only [List.nil_append, Nat.zero_add] at hO ⊢
          refine hK.out _ _ ?_ (fun hHeld => ?_)
          · trivial
          clear hK K
          (try simp only [Act.put]); (try simp only [List.setIfInBounds_toArray]); (try simp only [List.set_cons_succ]); (try simp only [List.set_cons_zero])
          refine wpAnyH_ready (rs := [7]) (by kernel_rfl) (by simp) ?_
          refine AllReadyH.cons (o := ⟨_, _, _, _, _, _⟩) rfl (fun K hK => ?_) AllReadyH.nil
          have x4 := hX.cell 4 (v := .slice ga fl.length gc) rfl
          go_simp
          clear x4
          refine hK.out _ _ ?_ (fun hHeld => ?_)
          · trivial
          clear hK K
          (try simp only [Act.put]); (try simp only [List.setIfInBounds_toArray]); (try simp only [List.set_cons_succ]); (try simp only [List.set_cons_zero])
          refine wpAnyH_take (i := 10) (oi := ⟨_, _, _, _, _, _⟩) (v := ?_) rfl (by kernel_rfl) (by kernel_rfl) (by kernel_rfl) (fun _ _ _ h => h) (Or.inl ⟨by rfl, ?_⟩) (by assumption) ?_
          rotate_left 1
          · intro w hSw; (try dsimp only at hSw); go_simp <;> with_reducible rfl
          (try simp only [Act.put]); (try simp only [List.setIfInBounds_toArray]); (try simp only [List.set_cons_succ]); (try simp only [List.set_cons_zero])
          refine wpAnyH_ready (rs := [11]) (by kernel_rfl) (by simp) ?_
          refine AllReadyH.cons (o := ⟨_, _, _, _, _, _⟩) rfl (fun K hK => ?_) AllReadyH.nil
          have HO := Lib.hid hO
          have HRT := Lib.hid (HT2.out.keep (J0.trans J3))
          have HNE := Lib.hid (And.intro (blk_ne hX hO.1 (by decide)) (blk_ne hBR hO.1 (by decide)))
          clear hO
          refine step_app ty_cl rfl _ _ rfl HO.out rfl rfl HRT.out (cl_cells _) (by omega) ?_
          intro v' V3 hO hgr
          dsimp only
          obtain ⟨a9, c9, rfl, _⟩ := hO.rd
          replace hC := blk_grown9 hC hgr (HCN.out _ _ _ _ HO.out)
          replace hX := blk_grown9 hX hgr HNE.out.1
          replace hBR := blk_grown9 hBR hgr HNE.out.2
          replace J3 := hO.2
          clear HO HRT HNE hgr
          refine hK.out _ _ ?_ (fun hHeld => ?_)
          · trivial
          clear hK K
          (try simp only [Act.put]); (try simp only [List.setIfInBounds_toArray]); (try simp only [List.set_cons_succ]); (try simp only [List.set_cons_zero])
          refine wpAnyH_take (i := 12) (oi := ⟨_, _, _, _, _, _⟩) (v := ?_) rfl (by kernel_rfl) (by kernel_rfl) (by kernel_rfl) (fun _ _ _ h => h) (Or.inl ⟨by rfl, ?_⟩) (by assumption) ?_
          rotate_left 1
          · intro w hSw; (try dsimp only at hSw); go_simp <;> with_reducible rfl
          (try simp only [Act.put]); (try simp only [List.setIfInBounds_toArray]); (try simp only [List.set_cons_succ]); (try simp only [List.set_cons_zero])
          refine wpAnyH_ready (rs := [13]) (by kernel_rfl) (by simp) ?_
          refine AllReadyH.cons (o := ⟨_, _, _, _, _, _⟩) rfl (fun K hK => ?_) AllReadyH.nil
          have hlE2 : k + (fl.length - (k + 1)) = (fl.eraseIdx k).length := by rw [List.length_eraseIdx_of_lt hk]; omega
          have hcE : cl (fl.take k) ++ cl (fl.drop (k + 1)) = cl (fl.eraseIdx k) := by rw [← cl_append, List.eraseIdx_eq_take_drop_succ]
          rw [hcE, hlE2] at hO
          rw [hlE2]
          have x4 := hX.cell 4 (v := .slice ga fl.length gc) rfl
          have g4 := hX.frozen 4
          go_simp
          clear x4 g4 hlE2 hcE
          replace hO := own_oth9 (hO.since J0) hX (by decide) hlx 4 (.slice a9 (fl.eraseIdx k).length c9)
          replace hBR := hBR.setOther n1 4 (.slice a9 (fl.eraseIdx k).length c9)
          replace hC := hC.setOther (hC.ne hX (by decide)) 4 (.slice a9 (fl.eraseIdx k).length c9)
          replace hX := hX.set 4 (.slice a9 (fl.eraseIdx k).length c9)
          simp only [List.setIfInBounds_toArray, List.set_cons_succ, List.set_cons_zero] at hX
          generalize V3.setCell ⟨BX, 4, none⟩ (.slice a9 (fl.eraseIdx k).length c9) = V4 at *
          refine hK.out _ _ ?_ (fun hHeld => ?_)
          · trivial
          clear hK K
          (try simp only [Act.put]); (try simp only [List.setIfInBounds_toArray]); (try simp only [List.set_cons_succ]); (try simp only [List.set_cons_zero])
          refine wpAnyH_done (by kernel_rfl) ?_ _
          have HX := Lib.hid hX; have HBR := Lib.hid hBR; have HC := Lib.hid hC; have HO := Lib.hid hO
          clear hX hBR hC hO J3
          go_wp2_with fail
          go_meet
          case rel => exact ⟨_, _, HX.out, HBR.out, HC.out, HO.out⟩
        · have x4 := hX.cell 4 (v := .slice ga fl.length gc) rfl
          go_simp
          clear x4
          refine hK.out _ _ ?_ (fun hHeld => ?_)
          · trivial
          clear hK K
          (try simp only [Act.put]); (try simp only [List.setIfInBounds_toArray]); (try simp only [List.set_cons_succ]); (try simp only [List.set_cons_zero])
          refine wpAnyH_take (i := 10) (oi := ⟨_, _, _, _, _, _⟩) (v := ?_) rfl (by kernel_rfl) (by kernel_rfl) (by kernel_rfl) (fun _ _ _ h => h) (Or.inl ⟨by rfl, ?_⟩) (by assumption) ?_
          rotate_left 1
          · intro w hSw; (try dsimp only at hSw); go_simp <;> with_reducible rfl
          (try simp only [Act.put]); (try simp only [List.setIfInBounds_toArray]); (try simp only [List.set_cons_succ]); (try simp only [List.set_cons_zero])
          refine wpAnyH_ready (rs := [5]) (by kernel_rfl) (by simp) ?_
          refine AllReadyH.cons (o := ⟨_, _, _, _, _, _⟩) rfl (fun K hK => ?_) AllReadyH.nil
          have HO := Lib.hid hO
          have HRT := Lib.hid (HT1.out.keep (J0.trans J3))
          have HNE := Lib.hid (And.intro (blk_ne hX hO.1 (by decide)) (blk_ne hBR hO.1 (by decide)))
          clear hO
          refine step_app ty_cl rfl _ _ rfl HO.out rfl rfl HRT.out (cl_cells _) (by omega) ?_
          intro v' V2 hO hgr
          dsimp only
          obtain ⟨a9, c9, rfl, _⟩ := hO.rd
          replace hC := blk_grown9 hC hgr (HCN.out _ _ _ _ HO.out)
          replace hX := blk_grown9 hX hgr HNE.out.1
          replace hBR := blk_grown9 hBR hgr HNE.out.2
          replace J3 := hO.2
          clear HO HRT HNE hgr
          simp only [List.nil_append, Nat.zero_add] at hO ⊢
          refine hK.out _ _ ?_ (fun hHeld => ?_)
          · trivial
          clear hK K
          (try simp only [Act.put]); (try simp only [List.setIfInBounds_toArray]); (try simp only [List.set_cons_succ]); (try simp only [List.set_cons_zero])
          refine wpAnyH_ready (rs := [11]) (by kernel_rfl) (by simp) ?_
          refine AllReadyH.cons (o := ⟨_, _, _, _, _, _⟩) rfl (fun K hK => ?_) AllReadyH.nil
          have HO := Lib.hid hO
          have HRT := Lib.hid (HT2.out.keep (J0.trans J3))
          have HNE := Lib.hid (And.intro (blk_ne hX hO.1 (by decide)) (blk_ne hBR hO.1 (by decide)))
          clear hO
          refine step_app ty_cl rfl _ _ rfl HO.out rfl rfl HRT.out (cl_cells _) (by omega) ?_
          intro v' V3 hO hgr
          dsimp only
          obtain ⟨a9, c9, rfl, _⟩ := hO.rd
          replace hC := blk_grown9 hC hgr (HCN.out _ _ _ _ HO.out)
          replace hX := blk_grown9 hX hgr HNE.out.1
          replace hBR := blk_grown9 hBR hgr HNE.out.2
          replace J3 := hO.2
          clear HO HRT HNE hgr
          refine hK.out _ _ ?_ (fun hHeld => ?_)
          · trivial
          clear hK K
          (try simp only [Act.put]); (try simp only [List.setIfInBounds_toArray]); (try simp only [List.set_cons_succ]); (try simp only [List.set_cons_zero])
          refine wpAnyH_take (i := 12) (oi := ⟨_, _, _, _, _, _⟩) (v := ?_) rfl (by kernel_rfl) (by kernel_rfl) (by kernel_rfl) (fun _ _ _ h => h) (Or.inl ⟨by rfl, ?_⟩) (by assumption) ?_
          rotate_left 1
          · intro w hSw; (try dsimp only at hSw); go_simp <;> with_reducible rfl
          (try simp only [Act.put]); (try simp only [List.setIfInBounds_toArray]); (try simp only [List.set_cons_succ]); (try simp only [List.set_cons_zero])
          refine wpAnyH_ready (rs := [13]) (by kernel_rfl) (by simp) ?_
          refine AllReadyH.cons (o := ⟨_, _, _, _, _, _⟩) rfl (fun K hK => ?_) AllReadyH.nil
          have hlE2 : k + (fl.length - (k + 1)) = (fl.eraseIdx k).length := by rw [List.length_eraseIdx_of_lt hk]; omega
          have hcE : cl (fl.take k) ++ cl (fl.drop (k + 1)) = cl (fl.eraseIdx k) := by rw [← cl_append, List.eraseIdx_eq_take_drop_succ]
          rw [hcE, hlE2] at hO
          rw [hlE2]
          have x4 := hX.cell 4 (v := .slice ga fl.length gc) rfl
          have g4 := hX.frozen 4
          go_simp
          clear x4 g4 hlE2 hcE
          replace hO := own_oth9 (hO.since J0) hX (by decide) hlx 4 (.slice a9 (fl.eraseIdx k).length c9)
          replace hBR := hBR.setOther n1 4 (.slice a9 (fl.eraseIdx k).length c9)
          replace hC := hC.setOther (hC.ne hX (by decide)) 4 (.slice a9 (fl.eraseIdx k).length c9)
          replace hX := hX.set 4 (.slice a9 (fl.eraseIdx k).length c9)
          simp only [List.setIfInBounds_toArray, List.set_cons_succ, List.set_cons_zero] at hX
          generalize V3.setCell ⟨BX, 4, none⟩ (.slice a9 (fl.eraseIdx k).length c9) = V4 at *
          refine hK.out _ _ ?_ (fun hHeld => ?_)
          · trivial
          clear hK K
          (try simp only [Act.put]); (try simp only [List.setIfInBounds_toArray]); (try simp only [List.set_cons_succ]); (try simp only [List.set_cons_zero])
          refine wpAnyH_done (by kernel_rfl) ?_ _
          have HX := Lib.hid hX; have HBR := Lib.hid hBR; have HC := Lib.hid hC; have HO := Lib.hid hO
          clear hX hBR hC hO J3
          go_wp2_with fail
          go_meet
          case rel => exact ⟨_, _, HX.out, HBR.out, HC.out, HO.out⟩
      · have x4 := hX.cell 4 (v := .slice ga fl.length gc) rfl
        go_simp
        clear x4
        refine hK.out _ _ ?_ (fun hHeld => ?_)
        · trivial
        clear hK K
        (try simp only [Act.put]); (try simp only [List.setIfInBounds_toArray]); (try simp only [List.set_cons_succ]); (try simp only [List.set_cons_zero])
        refine wpAnyH_take (i := 10) (oi := ⟨_, _, _, _, _, _⟩) (v := ?_) rfl (by kernel_rfl) (by kernel_rfl) (by kernel_rfl) (fun _ _ _ h => h) (Or.inl ⟨by rfl, ?_⟩) (by assumption) ?_
        rotate_left 1
        · intro w hSw; (try dsimp only at hSw); go_simp <;> with_reducible rfl
        (try simp only [Act.put]); (try simp only [List.setIfInBounds_toArray]); (try simp only [List.set_cons_succ]); (try simp only [List.set_cons_zero])
        refine wpAnyH_ready (rs := [2]) (by kernel_rfl) (by simp) ?_
        refine AllReadyH.cons (o := ⟨_, _, _, _, _, _⟩) rfl (fun K hK => ?_) AllReadyH.nil
        have x4 := hX.cell 4 (v := .slice ga fl.length gc) rfl
        go_simp
        clear x4
        refine hK.out _ _ ?_ (fun hHeld => ?_)
        · trivial
        clear hK K
        (try simp only [Act.put]); (try simp only [List.setIfInBounds_toArray]); (try simp only [List.set_cons_succ]); (try simp only [List.set_cons_zero])
        refine wpAnyH_take (i := 4) (oi := ⟨_, _, _, _, _, _⟩) (v := ?_) rfl (by kernel_rfl) (by kernel_rfl) (by kernel_rfl) (fun _ _ _ h => h) (Or.inl ⟨by rfl, ?_⟩) (by assumption) ?_
        rotate_left 1
        · intro w hSw; (try dsimp only at hSw); go_simp <;> with_reducible rfl
        (try simp only [Act.put]); (try simp only [List.setIfInBounds_toArray]); (try simp only [List.set_cons_succ]); (try simp only [List.set_cons_zero])
        refine wpAnyH_ready (rs := [5]) (by kernel_rfl) (by simp) ?_
        refine AllReadyH.cons (o := ⟨_, _, _, _, _, _⟩) rfl (fun K hK => ?_) AllReadyH.nil
        have HO := Lib.hid hO
        have HRT := Lib.hid (HT1.out.keep (J0.trans J3))
        have HNE := Lib.hid (And.intro (blk_ne hX hO.1 (by decide)) (blk_ne hBR hO.1 (by decide)))
        clear hO
        refine step_app ty_cl rfl _ _ rfl HO.out rfl rfl HRT.out (cl_cells _) (by omega) ?_
        intro v' V2 hO hgr
        dsimp only
        obtain ⟨a9, c9, rfl, _⟩ := hO.rd
        replace hC := blk_grown9 hC hgr (HCN.out _ _ _ _ HO.out)
        replace hX := blk_grown9 hX hgr HNE.out.1
        replace hBR := blk_grown9 hBR hgr HNE.out.2
        replace J3 := hO.2
        clear HO HRT HNE hgr
        simp only [List.nil_append, Nat.zero_add] at hO ⊢
        refine hK.out _ _ ?_ (fun hHeld => ?_)
        · trivial
        clear hK K
        (try simp only [Act.put]); (try simp only [List.setIfInBounds_toArray]); (try simp only [List.set_cons_succ]); (try simp only [List.set_cons_zero])
        refine wpAnyH_ready (rs := [11]) (by kernel_rfl) (by simp) ?_
        refine AllReadyH.cons (o := ⟨_, _, _, _, _, _⟩) rfl (fun K hK => ?_) AllReadyH.nil
        have HO := Lib.hid hO
        have HRT := Lib.hid (HT2.out.keep (J0.trans J3))
        have HNE := Lib.hid (And.intro (blk_ne hX hO.1 (by decide)) (blk_ne hBR hO.1 (by decide)))
        clear hO
        refine step_app ty_cl rfl _ _ rfl HO.out rfl rfl HRT.out (cl_cells _) (by omega) ?_
        intro v' V3 hO hgr
        dsimp only
        obtain ⟨a9, c9, rfl, _⟩ := hO.rd
        replace hC := blk_grown9 hC hgr (HCN.out _ _ _ _ HO.out)
        replace hX := blk_grown9 hX hgr HNE.out.1
        replace hBR := blk_grown9 hBR hgr HNE.out.2
        replace J3 := hO.2
        clear HO HRT HNE hgr
        refine hK.out _ _ ?_ (fun hHeld => ?_)
        · trivial
        clear hK K
        (try simp only [Act.put]); (try simp only [List.setIfInBounds_toArray]); (try simp only [List.set_cons_succ]); (try simp only [List.set_cons_zero])
        refine wpAnyH_take (i := 12) (oi := ⟨_, _, _, _, _, _⟩) (v := ?_) rfl (by kernel_rfl) (by kernel_rfl) (by kernel_rfl) (fun _ _ _ h => h) (Or.inl ⟨by rfl, ?_⟩) (by assumption) ?_
        rotate_left 1
        · intro w hSw; (try dsimp only at hSw); go_simp <;> with_reducible rfl
        (try simp only [Act.put]); (try simp only [List.setIfInBounds_toArray]); (try simp only [List.set_cons_succ]); (try simp only [List.set_cons_zero])
        refine wpAnyH_ready (rs := [13]) (by kernel_rfl) (by simp) ?_
        refine AllReadyH.cons (o := ⟨_, _, _, _, _, _⟩) rfl (fun K hK => ?_) AllReadyH.nil
        have hlE2 : k + (fl.length - (k + 1)) = (fl.eraseIdx k).length := by rw [List.length_eraseIdx_of_lt hk]; omega
        have hcE : cl (fl.take k) ++ cl (fl.drop (k + 1)) = cl (fl.eraseIdx k) := by rw [← cl_append, List.eraseIdx_eq_take_drop_succ]
        rw [hcE, hlE2] at hO
        rw [hlE2]
        have x4 := hX.cell 4 (v := .slice ga fl.length gc) rfl
        have g4 := hX.frozen 4
        go_simp
        clear x4 g4 hlE2 hcE
        replace hO := own_oth9 (hO.since J0) hX (by decide) hlx 4 (.slice a9 (fl.eraseIdx k).length c9)
        replace hBR := hBR.setOther n1 4 (.slice a9 (fl.eraseIdx k).length c9)
        replace hC := hC.setOther (hC.ne hX (by decide)) 4 (.slice a9 (fl.eraseIdx k).length c9)
        replace hX := hX.set 4 (.slice a9 (fl.eraseIdx k).length c9)
        simp only [List.setIfInBounds_toArray, List.set_cons_succ, List.set_cons_zero] at hX
        generalize V3.setCell ⟨BX, 4, none⟩ (.slice a9 (fl.eraseIdx k).length c9) = V4 at *
        refine hK.out _ _ ?_ (fun hHeld => ?_)
        · trivial
        clear hK K
        (try simp only [Act.put]); (try simp only [List.setIfInBounds_toArray]); (try simp only [List.set_cons_succ]); (try simp only [List.set_cons_zero])
        refine wpAnyH_done (by kernel_rfl) ?_ _
        have HX := Lib.hid hX; have HBR := Lib.hid hBR; have HC := Lib.hid hC; have HO := Lib.hid hO
        clear hX hBR hC hO J3
        go_wp2_with fail
        go_meet
        case rel => exact ⟨_, _, HX.out, HBR.out, HC.out, HO.out⟩
    · have x4 := hX.cell 4 (v := .slice ga fl.length gc) rfl
      go_simp
      clear x4
      refine hK.out _ _ ?_ (fun hHeld => ?_)
      · trivial
      clear hK K
      (try simp only [Act.put]); (try simp only [List.setIfInBounds_toArray]); (try simp only [List.set_cons_succ]); (try simp only [List.set_cons_zero])
      refine wpAnyH_take (i := 4) (oi := ⟨_, _, _, _, _, _⟩) (v := ?_) rfl (by kernel_rfl) (by kernel_rfl) (by kernel_rfl) (fun _ _ _ h => h) (Or.inl ⟨by rfl, ?_⟩) (by assumption) ?_
      rotate_left 1
      · intro w hSw; (try dsimp only at hSw); go_simp <;> with_reducible rfl
      (try simp only [Act.put]); (try simp only [List.setIfInBounds_toArray]); (try simp only [List.set_cons_succ]); (try simp only [List.set_cons_zero])
      refine wpAnyH_ready (rs := [0, 7]) (by kernel_rfl) (by simp) ?_
      refine AllReadyH.cons (o := ⟨_, _, _, _, _, _⟩) rfl (fun K hK => ?_) (AllReadyH.cons (o := ⟨_, _, _, _, _, _⟩) rfl (fun K hK => ?_) AllReadyH.nil)
      · go_simp
        have hO := Own.made (e := 53) (sz := 4) J3 [] 0 (by decide) rfl
        have kA := (Keeps.refl V0).alloc (.cells #[] 53)
        replace hX := hX.keep kA
        replace hBR := hBR.keep kA
        replace hC := hC.keep kA
        replace J3 := J3.trans kA
        clear kA
        change Own 53 4 w3 (V0.alloc (.cells #[] 53)) _ _ _ at hO
        generalize V0.alloc (.cells #[] 53) = V1 at *
        generalize V0.heap.size = BO at *
        refine hK.out _ _ ?_ (fun hHeld => ?_)
        · trivial
        clear hK K
        (try simp only [Act.put]); (try simp only [List.setIfInBounds_toArray]); (try simp only [List.set_cons_succ]); (try simp only [List.set_cons_zero])
        refine wpAnyH_ready (rs := [5, 7]) (by kernel_rfl) (by simp) ?_
        refine AllReadyH.cons (o := ⟨_, _, _, _, _, _⟩) rfl (fun K hK => ?_) (AllReadyH.cons (o := ⟨_, _, _, _, _, _⟩) rfl (fun K hK => ?_) AllReadyH.nil)
        · have HO := Lib.hid hO
          have HRT := Lib.hid (HT1.out.keep (J0.trans J3))
          have HNE := Lib.hid (And.intro (blk_ne hX hO.1 (by decide)) (blk_ne hBR hO.1 (by decide)))
          clear hO
          refine step_app ty_cl rfl _ _ rfl HO.out rfl rfl HRT.out (cl_cells _) (by omega) ?_
          intro v' V2 hO hgr
          dsimp only
          obtain ⟨a9, c9, rfl, _⟩ := hO.rd
          replace hC := blk_grown9 hC hgr (HCN.out _ _ _ _ HO.out)
          replace hX := blk_grown9 hX hgr HNE.out.1
          replace hBR := blk_grown9 hBR hgr HNE.out.2
          replace J3 := hO.2
          clear HO HRT HNE hgr
          simp only [List.nil_append, Nat.zero_add] at hO ⊢
          refine hK.out _ _ ?_ (fun hHeld => ?_)
          · trivial
          clear hK K
          (try simp only [Act.put]); (try simp only [List.setIfInBounds_toArray]); (try simp only [List.set_cons_succ]); (try simp only [List.set_cons_zero])
          refine wpAnyH_ready (rs := [7]) (by kernel_rfl) (by simp) ?_
          refine AllReadyH.cons (o := ⟨_, _, _, _, _, _⟩) rfl (fun K hK => ?_) AllReadyH.nil
          have x4 := hX.cell 4 (v := .slice ga fl.length gc) rfl
          go_simp
          clear x4
          refine hK.out _ _ ?_ (fun hHeld => ?_)
          · trivial
          clear hK K
          (try simp only [Act.put]); (try simp only [List.setIfInBounds_toArray]); (try simp only [List.set_cons_succ]); (try simp only [List.set_cons_zero])
          refine wpAnyH_take (i := 10) (oi := ⟨_, _, _, _, _, _⟩) (v := ?_) rfl (by kernel_rfl) (by kernel_rfl) (by kernel_rfl) (fun _ _ _ h => h) (Or.inl ⟨by rfl, ?_⟩) (by assumption) ?_
          rotate_left 1
          · intro w hSw; (try dsimp only at hSw); go_simp <;> with_reducible rfl
          (try simp only [Act.put]); (try simp only [List.setIfInBounds_toArray]); (try simp only [List.set_cons_succ]); (try simp only [List.set_cons_zero])
          refine wpAnyH_ready (rs := [11]) (by kernel_rfl) (by simp) ?_
          refine AllReadyH.cons (o := ⟨_, _, _, _, _, _⟩) rfl (fun K hK => ?_) AllReadyH.nil
          have HO := Lib.hid hO
          have HRT := Lib.hid (HT2.out.keep (J0.trans J3))
          have HNE := Lib.hid (And.intro (blk_ne hX hO.1 (by decide)) (blk_ne hBR hO.1 (by decide)))
          clear hO
          refine step_app ty_cl rfl _ _ rfl HO.out rfl rfl HRT.out (cl_cells _) (by omega) ?_
          intro v' V3 hO hgr
          dsimp only
          obtain ⟨a9, c9, rfl, _⟩ := hO.rd
          replace hC := blk_grown9 hC hgr (HCN.out _ _ _ _ HO.out)
          replace hX := blk_grown9 hX hgr HNE.out.1
          replace hBR := blk_grown9 hBR hgr HNE.out.2
          replace J3 := hO.2
          clear HO HRT HNE hgr
          refine hK.out _ _ ?_ (fun hHeld => ?_)
          · trivial
          clear hK K
          (try simp only [Act.put]); (try simp only [List.setIfInBounds_toArray]); (try simp only [List.set_cons_succ]); (try simp only [List.set_cons_zero])
          refine wpAnyH_take (i := 12) (oi := ⟨_, _, _, _, _, _⟩) (v := ?_) rfl (by kernel_rfl) (by kernel_rfl) (by kernel_rfl) (fun _ _ _ h => h) (Or.inl ⟨by rfl, ?_⟩) (by assumption) ?_
          rotate_left 1
          · intro w hSw; (try dsimp only at hSw); go_simp <;> with_reducible rfl
          (try simp only [Act.put]); (try simp only [List.setIfInBounds_toArray]); (try simp only [List.set_cons_succ]); (try simp only [List.set_cons_zero])
          refine wpAnyH_ready (rs := [13]) (by kernel_rfl) (by simp) ?_
          refine AllReadyH.cons (o := ⟨_, _, _, _, _, _⟩) rfl (fun K hK => ?_) AllReadyH.nil
          have hlE2 : k + (fl.length - (k + 1)) = (fl.eraseIdx k).length := by rw [List.length_eraseIdx_of_lt hk]; omega
          have hcE : cl (fl.take k) ++ cl (fl.drop (k + 1)) = cl (fl.eraseIdx k) := by rw [← cl_append, List.eraseIdx_eq_take_drop_succ]
          rw [hcE, hlE2] at hO
          rw [hlE2]
          have x4 := hX.cell 4 (v := .slice ga fl.length gc) rfl
          have g4 := hX.frozen 4
          go_simp
          clear x4 g4 hlE2 hcE
          replace hO := own_oth9 (hO.since J0) hX (by decide) hlx 4 (.slice a9 (fl.eraseIdx k).length c9)
          replace hBR := hBR.setOther n1 4 (.slice a9 (fl.eraseIdx k).length c9)
          replace hC := hC.setOther (hC.ne hX (by decide)) 4 (.slice a9 (fl.eraseIdx k).length c9)
          replace hX := hX.set 4 (.slice a9 (fl.eraseIdx k).length c9)
          simp only [List.setIfInBounds_toArray, List.set_cons_succ, List.set_cons_zero] at hX
          generalize V3.setCell ⟨BX, 4, none⟩ (.slice a9 (fl.eraseIdx k).length c9) = V4 at *
          refine hK.out _ _ ?_ (fun hHeld => ?_)
          · trivial
          clear hK K
          (try simp only [Act.put]); (try simp only [List.setIfInBounds_toArray]); (try simp only [List.set_cons_succ]); (try simp only [List.set_cons_zero])
          refine wpAnyH_done (by kernel_rfl) ?_ _
          have HX := Lib.hid hX; have HBR := Lib.hid hBR; have HC := Lib.hid hC; have HO := Lib.hid hO
          clear hX hBR hC hO J3
          go_wp2_with fail
          go_meet
          case rel => exact ⟨_, _, HX.out, HBR.out, HC.out, HO.out⟩
        · have x4 := hX.cell 4 (v := .slice ga fl.length gc) rfl
          go_simp
          clear x4
          refine hK.out _ _ ?_ (fun hHeld => ?_)
          · trivial
          clear hK K
          (try simp only [Act.put]); (try simp only [List.setIfInBounds_toArray]); (try simp only [List.set_cons_succ]); (try simp only [List.set_cons_zero])
          refine wpAnyH_take (i := 10) (oi := ⟨_, _, _, _, _, _⟩) (v := ?_) rfl (by kernel_rfl) (by kernel_rfl) (by kernel_rfl) (fun _ _ _ h => h) (Or.inl ⟨by rfl, ?_⟩) (by assumption) ?_
          rotate_left 1
          · intro w hSw; (try dsimp only at hSw); go_simp <;> with_reducible rfl
          (try simp only [Act.put]); (try simp only [List.setIfInBounds_toArray]); (try simp only [List.set_cons_succ]); (try simp only [List.set_cons_zero])
          refine wpAnyH_ready (rs := [5]) (by kernel_rfl) (by simp) ?_
          refine AllReadyH.cons (o := ⟨_, _, _, _, _, _⟩) rfl (fun K hK => ?_) AllReadyH.nil
          have HO := Lib.hid hO
          have HRT := Lib.hid (HT1.out.keep (J0.trans J3))
          have HNE := Lib.hid (And.intro (blk_ne hX hO.1 (by decide)) (blk_ne hBR hO.1 (by decide)))
          clear hO
          refine step_app ty_cl rfl _ _ rfl HO.out rfl rfl HRT.out (cl_cells _) (by omega) ?_
          intro v' V2 hO hgr
          dsimp only
          obtain ⟨a9, c9, rfl, _⟩ := hO.rd
          replace hC := blk_grown9 hC hgr (HCN.out _ _ _ _ HO.out)
          replace hX := blk_grown9 hX hgr HNE.out.1
          replace hBR := blk_grown9 hBR hgr HNE.out.2
          replace J3 := hO.2
          clear HO HRT HNE hgr
          simp only [List.nil_append, Nat.zero_add] at hO ⊢
          refine hK.out _ _ ?_ (fun hHeld => ?_)
          · trivial
          clear hK K
          (try simp only [Act.put]); (try simp only [List.setIfInBounds_toArray]); (try simp only [List.set_cons_succ]); (try simp only [List.set_cons_zero])
          refine wpAnyH_ready (rs := [11]) (by kernel_rfl) (by simp) ?_
          refine AllReadyH.cons (o := ⟨_, _, _, _, _, _⟩) rfl (fun K hK => ?_) AllReadyH.nil
          have HO := Lib.hid hO
          have HRT := Lib.hid (HT2.out.keep (J0.trans J3))
          have HNE := Lib.hid (And.intro (blk_ne hX hO.1 (by decide)) (blk_ne hBR hO.1 (by decide)))
          clear hO
          refine step_app ty_cl rfl _ _ rfl HO.out rfl rfl HRT.out (cl_cells _) (by omega) ?_
          intro v' V3 hO hgr
          dsimp only
          obtain ⟨a9, c9, rfl, _⟩ := hO.rd
          replace hC := blk_grown9 hC hgr (HCN.out _ _ _ _ HO.out)
          replace hX := blk_grown9 hX hgr HNE.out.1
          replace hBR := blk_grown9 hBR hgr HNE.out.2
          replace J3 := hO.2
          clear HO HRT HNE hgr
          refine hK.out _ _ ?_ (fun hHeld => ?_)
          · trivial
          clear hK K
          (try simp only [Act.put]); (try simp only [List.setIfInBounds_toArray]); (try simp only [List.set_cons_succ]); (try simp only [List.set_cons_zero])
          refine wpAnyH_take (i := 12) (oi := ⟨_, _, _, _, _, _⟩) (v := ?_) rfl (by kernel_rfl) (by kernel_rfl) (by kernel_rfl) (fun _ _ _ h => h) (Or.inl ⟨by rfl, ?_⟩) (by assumption) ?_
          rotate_left 1
          · intro w hSw; (try dsimp only at hSw); go_simp <;> with_reducible rfl
          (try simp only [Act.put]); (try simp only [List.setIfInBounds_toArray]); (try simp only [List.set_cons_succ]); (try simp only [List.set_cons_zero])
          refine wpAnyH_ready (rs := [13]) (by kernel_rfl) (by simp) ?_
          refine AllReadyH.cons (o := ⟨_, _, _, _, _, _⟩) rfl (fun K hK => ?_) AllReadyH.nil
          have hlE2 : k + (fl.length - (k + 1)) = (fl.eraseIdx k).length := by rw [List.length_eraseIdx_of_lt hk]; omega
          have hcE : cl (fl.take k) ++ cl (fl.drop (k + 1)) = cl (fl.eraseIdx k) := by rw [← cl_append, List.eraseIdx_eq_take_drop_succ]
          rw [hcE, hlE2] at hO
          rw [hlE2]
          have x4 := hX.cell 4 (v := .slice ga fl.length gc) rfl
          have g4 := hX.frozen 4
          go_simp
          clear x4 g4 hlE2 hcE
          replace hO := own_oth9 (hO.since J0) hX (by decide) hlx 4 (.slice a9 (fl.eraseIdx k).length c9)
          replace hBR := hBR.setOther n1 4 (.slice a9 (fl.eraseIdx k).length c9)
          replace hC := hC.setOther (hC.ne hX (by decide)) 4 (.slice a9 (fl.eraseIdx k).length c9)
          replace hX := hX.set 4 (.slice a9 (fl.eraseIdx k).length c9)
          simp only [List.setIfInBounds_toArray, List.set_cons_succ, List.set_cons_zero] at hX
          generalize V3.setCell ⟨BX, 4, none⟩ (.slice a9 (fl.eraseIdx k).length c9) = V4 at *
          refine hK.out _ _ ?_ (fun hHeld => ?_)
          · trivial
          clear hK K
          (try simp only [Act.put]); (try simp only [List.setIfInBounds_toArray]); (try simp only [List.set_cons_succ]); (try simp only [List.set_cons_zero])
          refine wpAnyH_done (by kernel_rfl) ?_ _
          have HX := Lib.hid hX; have HBR := Lib.hid hBR; have HC := Lib.hid hC; have HO := Lib.hid hO
          clear hX hBR hC hO J3
          go_wp2_with fail
          go_meet
          case rel => exact ⟨_, _, HX.out, HBR.out, HC.out, HO.out⟩
      · have x4 := hX.cell 4 (v := .slice ga fl.length gc) rfl
        go_simp
        clear x4
        refine hK.out _ _ ?_ (fun hHeld => ?_)
        · trivial
        clear hK K
        (try simp only [Act.put]); (try simp only [List.setIfInBounds_toArray]); (try simp only [List.set_cons_succ]); (try simp only [List.set_cons_zero])
        refine wpAnyH_take (i := 10) (oi := ⟨_, _, _, _, _, _⟩) (v := ?_) rfl (by kernel_rfl) (by kernel_rfl) (by kernel_rfl) (fun _ _ _ h => h) (Or.inl ⟨by rfl, ?_⟩) (by assumption) ?_
        rotate_left 1
        · intro w hSw; (try dsimp only at hSw); go_simp <;> with_reducible rfl
        (try simp only [Act.put]); (try simp only [List.setIfInBounds_toArray]); (try simp only [List.set_cons_succ]); (try simp only [List.set_cons_zero])
        refine wpAnyH_ready (rs := [0]) (by kernel_rfl) (by simp) ?_
        refine AllReadyH.cons (o := ⟨_, _, _, _, _, _⟩) rfl (fun K hK => ?_) AllReadyH.nil
        go_simp
        have hO := Own.made (e := 53) (sz := 4) J3 [] 0 (by decide) rfl
        have kA := (Keeps.refl V0).alloc (.cells #[] 53)
        replace hX := hX.keep kA
        replace hBR := hBR.keep kA
        replace hC := hC.keep kA
        replace J3 := J3.trans kA
        clear kA
        change Own 53 4 w3 (V0.alloc (.cells #[] 53)) _ _ _ at hO
        generalize V0.alloc (.cells #[] 53) = V1 at *
        generalize V0.heap.size = BO at *
        refine hK.out _ _ ?_ (fun hHeld => ?_)
        · trivial
        clear hK K
        (try simp only [Act.put]); (try simp only [List.setIfInBounds_toArray]); (try simp only [List.set_cons_succ]); (try simp only [List.set_cons_zero])
        refine wpAnyH_ready (rs := [5]) (by kernel_rfl) (by simp) ?_
        refine AllReadyH.cons (o := ⟨_, _, _, _, _, _⟩) rfl (fun K hK => ?_) AllReadyH.nil
        have HO := Lib.hid hO
        have HRT := Lib.hid (HT1.out.keep (J0.trans J3))
        have HNE := Lib.hid (And.intro (blk_ne hX hO.1 (by decide)) (blk_ne hBR hO.1 (by decide)))
        clear hO
        refine step_app ty_cl rfl _ _ rfl HO.out rfl rfl HRT.out (cl_cells _) (by omega) ?_
        intro v' V2 hO hgr
        dsimp only
        obtain ⟨a9, c9, rfl, _⟩ := hO.rd
        replace hC := blk_grown9 hC hgr (HCN.out _ _ _ _ HO.out)
        replace hX := blk_grown9 hX hgr HNE.out.1
        replace hBR := blk_grown9 hBR hgr HNE.out.2
        replace J3 := hO.2
        clear HO HRT HNE hgr
        simp only [List.nil_append, Nat.zero_add] at hO ⊢
        refine hK.out _ _ ?_ (fun hHeld => ?_)
        · trivial
        clear hK K
        (try simp only [Act.put]); (try simp only [List.setIfInBounds_toArray]); (try simp only [List.set_cons_succ]); (try simp only [List.set_cons_zero])
        refine wpAnyH_ready (rs := [11]) (by kernel_rfl) (by simp) ?_
        refine AllReadyH.cons (o := ⟨_, _, _, _, _, _⟩) rfl (fun K hK => ?_) AllReadyH.nil
        have HO := Lib.hid hO
        have HRT := Lib.hid (HT2.out.keep (J0.trans J3))
        have HNE := Lib.hid (And.intro (blk_ne hX hO.1 (by decide)) (blk_ne hBR hO.1 (by decide)))
        clear hO
        refine step_app ty_cl rfl _ _ rfl HO.out rfl rfl HRT.out (cl_cells _) (by omega) ?_
        intro v' V3 hO hgr
        dsimp only
        obtain ⟨a9, c9, rfl, _⟩ := hO.rd
        replace hC := blk_grown9 hC hgr (HCN.out _ _ _ _ HO.out)
        replace hX := blk_grown9 hX hgr HNE.out.1
        replace hBR := blk_grown9 hBR hgr HNE.out.2
        replace J3 := hO.2
        clear HO HRT HNE hgr
        refine hK.out _ _ ?_ (fun hHeld => ?_)
        · trivial
        clear hK K
        (try simp only [Act.put]); (try simp only [List.setIfInBounds_toArray]); (try simp only [List.set_cons_succ]); (try simp only [List.set_cons_zero])
        refine wpAnyH_take (i := 12) (oi := ⟨_, _, _, _, _, _⟩) (v := ?_) rfl (by kernel_rfl) (by kernel_rfl) (by kernel_rfl) (fun _ _ _ h => h) (Or.inl ⟨by rfl, ?_⟩) (by assumption) ?_
        rotate_left 1
        · intro w hSw; (try dsimp only at hSw); go_simp <;> with_reducible rfl
        (try simp only [Act.put]); (try simp only [List.setIfInBounds_toArray]); (try simp only [List.set_cons_succ]); (try simp only [List.set_cons_zero])
        refine wpAnyH_ready (rs := [13]) (by kernel_rfl) (by simp) ?_
        refine AllReadyH.cons (o := ⟨_, _, _, _, _, _⟩) rfl (fun K hK => ?_) AllReadyH.nil
        have hlE2 : k + (fl.length - (k + 1)) = (fl.eraseIdx k).length := by rw [List.length_eraseIdx_of_lt hk]; omega
        have hcE : cl (fl.take k) ++ cl (fl.drop (k + 1)) = cl (fl.eraseIdx k) := by rw [← cl_append, List.eraseIdx_eq_take_drop_succ]
        rw [hcE, hlE2] at hO
        rw [hlE2]
        have x4 := hX.cell 4 (v := .slice ga fl.length gc) rfl
        have g4 := hX.frozen 4
        go_simp
        clear x4 g4 hlE2 hcE
        replace hO := own_oth9 (hO.since J0) hX (by decide) hlx 4 (.slice a9 (fl.eraseIdx k).length c9)
        replace hBR := hBR.setOther n1 4 (.slice a9 (fl.eraseIdx k).length c9)
        replace hC := hC.setOther (hC.ne hX (by decide)) 4 (.slice a9 (fl.eraseIdx k).length c9)
        replace hX := hX.set 4 (.slice a9 (fl.eraseIdx k).length c9)
        simp only [List.setIfInBounds_toArray, List.set_cons_succ, List.set_cons_zero] at hX
        generalize V3.setCell ⟨BX, 4, none⟩ (.slice a9 (fl.eraseIdx k).length c9) = V4 at *
        refine hK.out _ _ ?_ (fun hHeld => ?_)
        · trivial
        clear hK K
        (try simp only [Act.put]); (try simp only [List.setIfInBounds_toArray]); (try simp only [List.set_cons_succ]); (try simp only [List.set_cons_zero])
        refine wpAnyH_done (by kernel_rfl) ?_ _
        have HX := Lib.hid hX; have HBR := Lib.hid hBR; have HC := Lib.hid hC; have HO := Lib.hid hO
        clear hX hBR hC hO J3
        go_wp2_with fail
        go_meet
        case rel => exact ⟨_, _, HX.out, HBR.out, HC.out, HO.out⟩
    · have x4 := hX.cell 4 (v := .slice ga fl.length gc) rfl
      go_simp
      clear x4
      refine hK.out _ _ ?_ (fun hHeld => ?_)
      · trivial
      clear hK K
      (try simp only [Act.put]); (try simp only [List.setIfInBounds_toArray]); (try simp only [List.set_cons_succ]); (try simp only [List.set_cons_zero])
      refine wpAnyH_take (i := 10) (oi := ⟨_, _, _, _, _, _⟩) (v := ?_) rfl (by kernel_rfl) (by kernel_rfl) (by kernel_rfl) (fun _ _ _ h => h) (Or.inl ⟨by rfl, ?_⟩) (by assumption) ?_
      rotate_left 1
      · intro w hSw; (try dsimp only at hSw); go_simp <;> with_reducible rfl
      (try simp only [Act.put]); (try simp only [List.setIfInBounds_toArray]); (try simp only [List.set_cons_succ]); (try simp only [List.set_cons_zero])
      refine wpAnyH_ready (rs := [0, 2]) (by kernel_rfl) (by simp) ?_
      refine AllReadyH.cons (o := ⟨_, _, _, _, _, _⟩) rfl (fun K hK => ?_) (AllReadyH.cons (o := ⟨_, _, _, _, _, _⟩) rfl (fun K hK => ?_) AllReadyH.nil)
      · go_simp
        have hO := Own.made (e := 53) (sz := 4) J3 [] 0 (by decide) rfl
        have kA := (Keeps.refl V0).alloc (.cells #[] 53)
        replace hX := hX.keep kA
        replace hBR := hBR.keep kA
        replace hC := hC.keep kA
        replace J3 := J3.trans kA
        clear kA
        change Own 53 4 w3 (V0.alloc (.cells #[] 53)) _ _ _ at hO
        generalize V0.alloc (.cells #[] 53) = V1 at *
        generalize V0.heap.size = BO at *
        refine hK.out _ _ ?_ (fun hHeld => ?_)
        · trivial
        clear hK K
        (try simp only [Act.put]); (try simp only [List.setIfInBounds_toArray]); (try simp only [List.set_cons_succ]); (try simp only [List.set_cons_zero])
        refine wpAnyH_ready (rs := [2]) (by kernel_rfl) (by simp) ?_
        refine AllReadyH.cons (o := ⟨_, _, _, _, _, _⟩) rfl (fun K hK => ?_) AllReadyH.nil
        have x4 := hX.cell 4 (v := .slice ga fl.length gc) rfl
        go_simp
        clear x4
        refine hK.out _ _ ?_ (fun hHeld => ?_)
        · trivial
        clear hK K
        (try simp only [Act.put]); (try simp only [List.setIfInBounds_toArray]); (try simp only [List.set_cons_succ]); (try simp only [List.set_cons_zero])
        refine wpAnyH_take (i := 4) (oi := ⟨_, _, _, _, _, _⟩) (v := ?_) rfl (by kernel_rfl) (by kernel_rfl) (by kernel_rfl) (fun _ _ _ h => h) (Or.inl ⟨by rfl, ?_⟩) (by assumption) ?_
        rotate_left 1
        · intro w hSw; (try dsimp only at hSw); go_simp <;> with_reducible rfl
        (try simp only [Act.put]); (try simp only [List.setIfInBounds_toArray]); (try simp only [List.set_cons_succ]); (try simp only [List.set_cons_zero])
        refine wpAnyH_ready (rs := [5]) (by kernel_rfl) (by simp) ?_
        refine AllReadyH.cons (o := ⟨_, _, _, _, _, _⟩) rfl (fun K hK => ?_) AllReadyH.nil
        have HO := Lib.hid hO
        have HRT := Lib.hid (HT1.out.keep (J0.trans J3))
        have HNE := Lib.hid (And.intro (blk_ne hX hO.1 (by decide)) (blk_ne hBR hO.1 (by decide)))
        clear hO
        refine step_app ty_cl rfl _ _ rfl HO.out rfl rfl HRT.out (cl_cells _) (by omega) ?_
        intro v' V2 hO hgr
        dsimp only
        obtain ⟨a9, c9, rfl, _⟩ := hO.rd
        replace hC := blk_grown9 hC hgr (HCN.out _ _ _ _ HO.out)
        replace hX := blk_grown9 hX hgr HNE.out.1
        replace hBR := blk_grown9 hBR hgr HNE.out.2
        replace J3 := hO.2
        clear HO HRT HNE hgr
        simp only [List.nil_append, Nat.zero_add] at hO ⊢
        refine hK.out _ _ ?_ (fun hHeld => ?_)
        · trivial
        clear hK K
        (try simp only [Act.put]); (try simp only [List.setIfInBounds_toArray]); (try simp only [List.set_cons_succ]); (try simp only [List.set_cons_zero])
        refine wpAnyH_ready (rs := [11]) (by kernel_rfl) (by simp) ?_
        refine AllReadyH.cons (o := ⟨_, _, _, _, _, _⟩) rfl (fun K hK => ?_) AllReadyH.nil
        have HO := Lib.hid hO
        have HRT := Lib.hid (HT2.out.keep (J0.trans J3))
        have HNE := Lib.hid (And.intro (blk_ne hX hO.1 (by decide)) (blk_ne hBR hO.1 (by decide)))
        clear hO
        refine step_app ty_cl rfl _ _ rfl HO.out rfl rfl HRT.out (cl_cells _) (by omega) ?_
        intro v' V3 hO hgr
        dsimp only
        obtain ⟨a9, c9, rfl, _⟩ := hO.rd
        replace hC := blk_grown9 hC hgr (HCN.out _ _ _ _ HO.out)
        replace hX := blk_grown9 hX hgr HNE.out.1
        replace hBR := blk_grown9 hBR hgr HNE.out.2
        replace J3 := hO.2
        clear HO HRT HNE hgr
        refine hK.out _ _ ?_ (fun hHeld => ?_)
        · trivial
        clear hK K
        (try simp only [Act.put]); (try simp only [List.setIfInBounds_toArray]); (try simp only [List.set_cons_succ]); (try simp only [List.set_cons_zero])
        refine wpAnyH_take (i := 12) (oi := ⟨_, _, _, _, _, _⟩) (v := ?_) rfl (by kernel_rfl) (by kernel_rfl) (by kernel_rfl) (fun _ _ _ h => h) (Or.inl ⟨by rfl, ?_⟩) (by assumption) ?_
        rotate_left 1
        · intro w hSw; (try dsimp only at hSw); go_simp <;> with_reducible rfl
        (try simp only [Act.put]); (try simp only [List.setIfInBounds_toArray]); (try simp only [List.set_cons_succ]); (try simp only [List.set_cons_zero])
        refine wpAnyH_ready (rs := [13]) (by kernel_rfl) (by simp) ?_
        refine AllReadyH.cons (o := ⟨_, _, _, _, _, _⟩) rfl (fun K hK => ?_) AllReadyH.nil
        have hlE2 : k + (fl.length - (k + 1)) = (fl.eraseIdx k).length := by rw [List.length_eraseIdx_of_lt hk]; omega
        have hcE : cl (fl.take k) ++ cl (fl.drop (k + 1)) = cl (fl.eraseIdx k) := by rw [← cl_append, List.eraseIdx_eq_take_drop_succ]
        rw [hcE, hlE2] at hO
        rw [hlE2]
        have x4 := hX.cell 4 (v := .slice ga fl.length gc) rfl
        have g4 := hX.frozen 4
        go_simp
        clear x4 g4 hlE2 hcE
        replace hO := own_oth9 (hO.since J0) hX (by decide) hlx 4 (.slice a9 (fl.eraseIdx k).length c9)
        replace hBR := hBR.setOther n1 4 (.slice a9 (fl.eraseIdx k).length c9)
        replace hC := hC.setOther (hC.ne hX (by decide)) 4 (.slice a9 (fl.eraseIdx k).length c9)
        replace hX := hX.set 4 (.slice a9 (fl.eraseIdx k).length c9)
        simp only [List.setIfInBounds_toArray, List.set_cons_succ, List.set_cons_zero] at hX
        generalize V3.setCell ⟨BX, 4, none⟩ (.slice a9 (fl.eraseIdx k).length c9) = V4 at *
        refine hK.out _ _ ?_ (fun hHeld => ?_)
        · trivial
        clear hK K
        (try simp only [Act.put]); (try simp only [List.setIfInBounds_toArray]); (try simp only [List.set_cons_succ]); (try simp only [List.set_cons_zero])
        refine wpAnyH_done (by kernel_rfl) ?_ _
        have HX := Lib.hid hX; have HBR := Lib.hid hBR; have HC := Lib.hid hC; have HO := Lib.hid hO
        clear hX hBR hC hO J3
        go_wp2_with fail
        go_meet
        case rel => exact ⟨_, _, HX.out, HBR.out, HC.out, HO.out⟩
      · have x4 := hX.cell 4 (v := .slice ga fl.length gc) rfl
        go_simp
        clear x4
        refine hK.out _ _ ?_ (fun hHeld => ?_)
        · trivial
        clear hK K
        (try simp only [Act.put]); (try simp only [List.setIfInBounds_toArray]); (try simp only [List.set_cons_succ]); (try simp only [List.set_cons_zero])
        refine wpAnyH_take (i := 4) (oi := ⟨_, _, _, _, _, _⟩) (v := ?_) rfl (by kernel_rfl) (by kernel_rfl) (by kernel_rfl) (fun _ _ _ h => h) (Or.inl ⟨by rfl, ?_⟩) (by assumption) ?_
        rotate_left 1
        · intro w hSw; (try dsimp only at hSw); go_simp <;> with_reducible rfl
        (try simp only [Act.put]); (try simp only [List.setIfInBounds_toArray]); (try simp only [List.set_cons_succ]); (try simp only [List.set_cons_zero])
        refine wpAnyH_ready (rs := [0]) (by kernel_rfl) (by simp) ?_
        refine AllReadyH.cons (o := ⟨_, _, _, _, _, _⟩) rfl (fun K hK => ?_) AllReadyH.nil
        go_simp
        have hO := Own.made (e := 53) (sz := 4) J3 [] 0 (by decide) rfl
        have kA := (Keeps.refl V0).alloc (.cells #[] 53)
        replace hX := hX.keep kA
        replace hBR := hBR.keep kA
        replace hC := hC.keep kA
        replace J3 := J3.trans kA
        clear kA
        change Own 53 4 w3 (V0.alloc (.cells #[] 53)) _ _ _ at hO
        generalize V0.alloc (.cells #[] 53) = V1 at *
        generalize V0.heap.size = BO at *
        refine hK.out _ _ ?_ (fun hHeld => ?_)
        · trivial
        clear hK K
        (try simp only [Act.put]); (try simp only [List.setIfInBounds_toArray]); (try simp only [List.set_cons_succ]); (try simp only [List.set_cons_zero])
        refine wpAnyH_ready (rs := [5]) (by kernel_rfl) (by simp) ?_
        refine AllReadyH.cons (o := ⟨_, _, _, _, _, _⟩) rfl (fun K hK => ?_) AllReadyH.nil
        have HO := Lib.hid hO
        have HRT := Lib.hid (HT1.out.keep (J0.trans J3))
        have HNE := Lib.hid (And.intro (blk_ne hX hO.1 (by decide)) (blk_ne hBR hO.1 (by decide)))
        clear hO
        refine step_app ty_cl rfl _ _ rfl HO.out rfl rfl HRT.out (cl_cells _) (by omega) ?_
        intro v' V2 hO hgr
        dsimp only
        obtain ⟨a9, c9, rfl, _⟩ := hO.rd
        replace hC := blk_grown9 hC hgr (HCN.out _ _ _ _ HO.out)
        replace hX := blk_grown9 hX hgr HNE.out.1
        replace hBR := blk_grown9 hBR hgr HNE.out.2
        replace J3 := hO.2
        clear HO HRT HNE hgr
        simp only [List.nil_append, Nat.zero_add] at hO ⊢
        refine hK.out _ _ ?_ (fun hHeld => ?_)
        · trivial
        clear hK K
        (try simp only [Act.put]); (try simp only [List.setIfInBounds_toArray]); (try simp only [List.set_cons_succ]); (try simp only [List.set_cons_zero])
        refine wpAnyH_ready (rs := [11]) (by kernel_rfl) (by simp) ?_
        refine AllReadyH.cons (o := ⟨_, _, _, _, _, _⟩) rfl (fun K hK => ?_) AllReadyH.nil
        have HO := Lib.hid hO
        have HRT := Lib.hid (HT2.out.keep (J0.trans J3))
        have HNE := Lib.hid (And.intro (blk_ne hX hO.1 (by decide)) (blk_ne hBR hO.1 (by decide)))
        clear hO
        refine step_app ty_cl rfl _ _ rfl HO.out rfl rfl HRT.out (cl_cells _) (by omega) ?_
        intro v' V3 hO hgr
        dsimp only
        obtain ⟨a9, c9, rfl, _⟩ := hO.rd
        replace hC := blk_grown9 hC hgr (HCN.out _ _ _ _ HO.out)
        replace hX := blk_grown9 hX hgr HNE.out.1
        replace hBR := blk_grown9 hBR hgr HNE.out.2
        replace J3 := hO.2
        clear HO HRT HNE hgr
        refine hK.out _ _ ?_ (fun hHeld => ?_)
        · trivial
        clear hK K
        (try simp only [Act.put]); (try simp only [List.setIfInBounds_toArray]); (try simp only [List.set_cons_succ]); (try simp only [List.set_cons_zero])
        refine wpAnyH_take (i := 12) (oi := ⟨_, _, _, _, _, _⟩) (v := ?_) rfl (by kernel_rfl) (by kernel_rfl) (by kernel_rfl) (fun _ _ _ h => h) (Or.inl ⟨by rfl, ?_⟩) (by assumption) ?_
        rotate_left 1
        · intro w hSw; (try dsimp only at hSw); go_simp <;> with_reducible rfl
        (try simp only [Act.put]); (try simp only [List.setIfInBounds_toArray]); (try simp only [List.set_cons_succ]); (try simp only [List.set_cons_zero])
        refine wpAnyH_ready (rs := [13]) (by kernel_rfl) (by simp) ?_
        refine AllReadyH.cons (o := ⟨_, _, _, _, _, _⟩) rfl (fun K hK => ?_) AllReadyH.nil
        have hlE2 : k + (fl.length - (k + 1)) = (fl.eraseIdx k).length := by rw [List.length_eraseIdx_of_lt hk]; omega
        have hcE : cl (fl.take k) ++ cl (fl.drop (k + 1)) = cl (fl.eraseIdx k) := by rw [← cl_append, List.eraseIdx_eq_take_drop_succ]
        rw [hcE, hlE2] at hO
        rw [hlE2]
        have x4 := hX.cell 4 (v := .slice ga fl.length gc) rfl
        have g4 := hX.frozen 4
        go_simp
        clear x4 g4 hlE2 hcE
        replace hO := own_oth9 (hO.since J0) hX (by decide) hlx 4 (.slice a9 (fl.eraseIdx k).length c9)
        replace hBR := hBR.setOther n1 4 (.slice a9 (fl.eraseIdx k).length c9)
        replace hC := hC.setOther (hC.ne hX (by decide)) 4 (.slice a9 (fl.eraseIdx k).length c9)
        replace hX := hX.set 4 (.slice a9 (fl.eraseIdx k).length c9)
        simp only [List.setIfInBounds_toArray, List.set_cons_succ, List.set_cons_zero] at hX
        generalize V3.setCell ⟨BX, 4, none⟩ (.slice a9 (fl.eraseIdx k).length c9) = V4 at *
        refine hK.out _ _ ?_ (fun hHeld => ?_)
        · trivial
        clear hK K
        (try simp only [Act.put]); (try simp only [List.setIfInBounds_toArray]); (try simp only [List.set_cons_succ]); (try simp only [List.set_cons_zero])
        refine wpAnyH_done (by kernel_rfl) ?_ _
        have HX := Lib.hid hX; have HBR := Lib.hid hBR; have HC := Lib.hid hC; have HO := Lib.hid hO
        clear hX hBR hC hO J3
        go_wp2_with fail
        go_meet
        case rel => exact ⟨_, _, HX.out, HBR.out, HC.out, HO.out⟩
  case rest =>
    clear hX hBR hC J0 HCN hlt3
    obtain ⟨gg, gd, hX, hBR, hC, hO⟩ := hcut
    have J := hO.2
    have hN0 := Own.made (e := 46) (sz := 9) (Keeps.refl wc) [] 0 (by decide) rfl
    have kA := (Keeps.refl wc).alloc (.cells #[] 46)
    have x3 := (hX.keep kA).cell 3 (v := .slice na nas.length nc) rfl
    have HN0 := Lib.hid hN0; have HRN := Lib.hid (HN.out.keep (J.trans kA))
    have HX := Lib.hid (hX.keep kA); have HBR := Lib.hid (hBR.keep kA); have HCC := Lib.hid (hC.keep kA); have HO := Lib.hid (hO.keep kA); have HJ := Lib.hid J
    clear hX hBR hC hO J hN0 kA
    go_wp2_with (at_builtin; refine wp_app ty_nl rfl _ _ rfl HN0.out rfl rfl HRN.out (nl_cells _) (by omega) ?_)
    intro v' w5 hON hgr
    obtain ⟨an, cn, rfl, _⟩ := hON.rd
    have hX := blk_grown9 HX.out hgr (blk_ne HX.out HN0.out.1 (by decide))
    have hBR := blk_grown9 HBR.out hgr (blk_ne HBR.out HN0.out.1 (by decide))
    have hC := blk_grown9 HCC.out hgr (blk_ne HCC.out HN0.out.1 (by decide))
    have hO : Own 53 4 w w5 (.slice gg (fl.eraseIdx k).length gd) (fl.eraseIdx k).length (cl (fl.eraseIdx k)) := ⟨row_kept HO.out.1 HN0.out.1 (by decide) hgr, HJ.out.trans hON.2⟩
    have hON := hON.since HJ.out
    have e3 := hX.cell 3 (v := .slice na nas.length nc) rfl
    have f3 := hX.frozen 3
    have HON := Lib.hid (own_oth9 hON hX (by decide) hlx 3 (.slice an nas.length cn))
    have HO5 := Lib.hid (own_oth9 hO hX (by decide) hlx 3 (.slice an nas.length cn))
    have HBR5 := Lib.hid (hBR.setOther n1 3 (.slice an nas.length cn))
    have HC5 := Lib.hid (hC.setOther (hC.ne hX (by decide)) 3 (.slice an nas.length cn))
    have hX5 := hX.set 3 (.slice an nas.length cn)
    simp only [List.setIfInBounds_toArray, List.set_cons_succ, List.set_cons_zero] at hX5
    have HX5 := Lib.hid hX5
    clear hgr hX hBR hC hO hON hX5 HX HBR HCC HO HJ HN0 HRN x3
    go_upto_region 4 with fail
    clear e3 f3
    generalize w5.setCell ⟨BX, 3, none⟩ (.slice an nas.length cn) = w6 at *
    have HZX : Hid (∀ x, nas.map NA.x = x → True) := Lib.hid (fun _ _ => trivial)
    obtain ⟨gn, cn2, hgn, _, _⟩ := HON.out.some (by omega)
    injection hgn with e1 _ e2
    subst e1 e2
    have HNAT := Lib.hid (fun (W : World) (h : Own 46 9 w W (.slice (some ⟨gn, 0, none⟩) nas.length cn) nas.length (nl nas)) => node_at h hd2)
    have HRH := Lib.hid (HH.out (naA nas d) (naA_mem (by omega)))
    have HNX : Hid (ndA ⟨nas.map NA.x, fl⟩ d = (naA nas d).x) := Lib.hid (by unfold ndA naA; rw [List.getD, List.getD, List.getElem?_map, List.getElem?_eq_getElem hd2]; rfl)
    generalize hz : naA nas d = z at HNAT HRH HNX HZ
    clear hz
    go_cut [10, 11] (fun s10 s11 wx => ∃ (z' : NA) (BN : Nat), s10 = .pointer (some ⟨BN, 0, none⟩) ∧ w6.heap.size ≤ BN ∧ Blk wx BN 46 #[.int .i64 z'.x.id, .string z'.x.echoed, .bool z'.x.hasE, .string z'.x.readied, .bool z'.x.hasR, .string z'.x.delivered, .bool z'.x.hasD, .slice z'.ae z'.x.echoes.length z'.ce, .slice z'.ar z'.x.readies.length z'.cr] ∧ Hid (z'.x = (handle f b z.x c.src c.kind c.v).1) ∧ RPN b0 wx z' ∧ Own 53 4 w6 wx s11 (handle f b z.x c.src c.kind c.v).2.length (cl (handle f b z.x c.src c.kind c.v).2))
    case first =>
      have J6 := (Keeps.refl w6).drew
      have hX := HX5.out.keep J6; have hC := HC5.out.keep J6; have hON := HON.out.keep J6
      have HJW := Lib.hid HON.out.2
      refine wp_region_held_drew (S := (fun w' => w'.cell? ⟨BX, 3, none⟩ = some (.slice (some ⟨gn, 0, none⟩) nas.length cn) ∧ w'.cell? ⟨BC, 0, none⟩ = some (.int .i64 c.kind) ∧ w'.cell? ⟨BC, 1, none⟩ = some (.int .i64 c.src) ∧ w'.cell? ⟨BC, 2, none⟩ = some (.int .i64 d) ∧ w'.cell? ⟨BC, 3, none⟩ = some (.string c.v) ∧ w'.cell? ⟨gn, d * 9, none⟩ = some (.int .i64 z.x.id) ∧ w'.cell? ⟨gn, d * 9 + 1, none⟩ = some (.string z.x.echoed) ∧ w'.cell? ⟨gn, d * 9 + 2, none⟩ = some (.bool z.x.hasE) ∧ w'.cell? ⟨gn, d * 9 + 3, none⟩ = some (.string z.x.readied) ∧ w'.cell? ⟨gn, d * 9 + 4, none⟩ = some (.bool z.x.hasR) ∧ w'.cell? ⟨gn, d * 9 + 5, none⟩ = some (.string z.x.delivered) ∧ w'.cell? ⟨gn, d * 9 + 6, none⟩ = some (.bool z.x.hasD) ∧ w'.cell? ⟨gn, d * 9 + 7, none⟩ = some (.slice z.ae z.x.echoes.length z.ce) ∧ w'.cell? ⟨gn, d * 9 + 8, none⟩ = some (.slice z.ar z.x.readies.length z.cr))) (by kernel_rfl) ?_ (fun hHeld => ?_)
      · exact ⟨hX.cell 3 rfl, hC.cell 0 rfl, hC.cell 1 rfl, hC.cell 2 rfl, hC.cell 3 rfl, HNAT.out _ hON⟩
      generalize w6.drew = V0 at *
      refine wpAnyH_take (i := 0) (oi := ⟨_, _, _, _, _, _⟩) (v := ?_) rfl (by kernel_rfl) (by kernel_rfl) (by kernel_rfl) (fun _ _ _ h => h) (Or.inl ⟨by rfl, ?_⟩) (by assumption) ?_
      rotate_left 1
      · intro w hSw; (try dsimp only at hSw); go_simp <;> with_reducible rfl
      (try simp only [Act.put]); (try simp only [List.setIfInBounds_toArray]); (try simp only [List.set_cons_succ]); (try simp only [List.set_cons_zero])
      refine wpAnyH_take (i := 1) (oi := ⟨_, _, _, _, _, _⟩) (v := ?_) rfl (by kernel_rfl) (by kernel_rfl) (by kernel_rfl) (fun _ _ _ h => h) (Or.inl ⟨by rfl, ?_⟩) (by assumption) ?_
      rotate_left 1
      · intro w hSw; (try dsimp only at hSw); go_simp <;> with_reducible rfl
      (try simp only [Act.put]); (try simp only [List.setIfInBounds_toArray]); (try simp only [List.set_cons_succ]); (try simp only [List.set_cons_zero])
      refine wpAnyH_take (i := 2) (oi := ⟨_, _, _, _, _, _⟩) (v := ?_) rfl (by kernel_rfl) (by kernel_rfl) (by kernel_rfl) (fun _ _ _ h => h) (Or.inl ⟨by rfl, ?_⟩) (by assumption) ?_
      rotate_left 1
      · intro w hSw; (try dsimp only at hSw); go_simp <;> with_reducible rfl
      (try simp only [Act.put]); (try simp only [List.setIfInBounds_toArray]); (try simp only [List.set_cons_succ]); (try simp only [List.set_cons_zero])
      refine wpAnyH_take (i := 3) (oi := ⟨_, _, _, _, _, _⟩) (v := ?_) rfl (by kernel_rfl) (by kernel_rfl) (by kernel_rfl) (fun _ _ _ h => h) (Or.inl ⟨by rfl, ?_⟩) (by assumption) ?_
      rotate_left 1
      · intro w hSw; (try dsimp only at hSw); go_simp <;> with_reducible rfl
      (try simp only [Act.put]); (try simp only [List.setIfInBounds_toArray]); (try simp only [List.set_cons_succ]); (try simp only [List.set_cons_zero])
      refine wpAnyH_take (i := 4) (oi := ⟨_, _, _, _, _, _⟩) (v := ?_) rfl (by kernel_rfl) (by kernel_rfl) (by kernel_rfl) (fun _ _ _ h => h) (Or.inl ⟨by rfl, ?_⟩) (by assumption) ?_
      rotate_left 1
      · intro w hSw; (try dsimp only at hSw); go_simp <;> with_reducible rfl
      (try simp only [Act.put]); (try simp only [List.setIfInBounds_toArray]); (try simp only [List.set_cons_succ]); (try simp only [List.set_cons_zero])
      refine wpAnyH_take (i := 5) (oi := ⟨_, _, _, _, _, _⟩) (v := ?_) rfl (by kernel_rfl) (by kernel_rfl) (by kernel_rfl) (fun _ _ _ h => h) (Or.inl ⟨by rfl, ?_⟩) (by assumption) ?_
      rotate_left 1
      · intro w hSw; (try dsimp only at hSw); go_simp <;> with_reducible rfl
      (try simp only [Act.put]); (try simp only [List.setIfInBounds_toArray]); (try simp only [List.set_cons_succ]); (try simp only [List.set_cons_zero])
      refine wpAnyH_take (i := 6) (oi := ⟨_, _, _, _, _, _⟩) (v := ?_) rfl (by kernel_rfl) (by kernel_rfl) (by kernel_rfl) (fun _ _ _ h => h) (Or.inl ⟨by rfl, ?_⟩) (by assumption) ?_
      rotate_left 1
      · intro w hSw; (try dsimp only at hSw); go_simp <;> with_reducible rfl
      (try simp only [Act.put]); (try simp only [List.setIfInBounds_toArray]); (try simp only [List.set_cons_succ]); (try simp only [List.set_cons_zero])
      refine wpAnyH_take (i := 7) (oi := ⟨_, _, _, _, _, _⟩) (v := ?_) rfl (by kernel_rfl) (by kernel_rfl) (by kernel_rfl) (fun _ _ _ h => h) (Or.inl ⟨by rfl, ?_⟩) (by assumption) ?_
      rotate_left 1
      · intro w hSw; (try dsimp only at hSw); go_simp <;> with_reducible rfl
      (try simp only [Act.put]); (try simp only [List.setIfInBounds_toArray]); (try simp only [List.set_cons_succ]); (try simp only [List.set_cons_zero])
      refine wpAnyH_take (i := 8) (oi := ⟨_, _, _, _, _, _⟩) (v := ?_) rfl (by kernel_rfl) (by kernel_rfl) (by kernel_rfl) (fun _ _ _ h => h) (Or.inl ⟨by rfl, ?_⟩) (by assumption) ?_
      rotate_left 1
      · intro w hSw; (try dsimp only at hSw); go_simp <;> with_reducible rfl
      (try simp only [Act.put]); (try simp only [List.setIfInBounds_toArray]); (try simp only [List.set_cons_succ]); (try simp only [List.set_cons_zero])
      refine wpAnyH_take (i := 9) (oi := ⟨_, _, _, _, _, _⟩) (v := ?_) rfl (by kernel_rfl) (by kernel_rfl) (by kernel_rfl) (fun _ _ _ h => h) (Or.inl ⟨by rfl, ?_⟩) (by assumption) ?_
      rotate_left 1
      · intro w hSw; (try dsimp only at hSw); go_simp <;> with_reducible rfl
      (try simp only [Act.put]); (try simp only [List.setIfInBounds_toArray]); (try simp only [List.set_cons_succ]); (try simp only [List.set_cons_zero])
      refine wpAnyH_take (i := 10) (oi := ⟨_, _, _, _, _, _⟩) (v := ?_) rfl (by kernel_rfl) (by kernel_rfl) (by kernel_rfl) (fun _ _ _ h => h) (Or.inl ⟨by rfl, ?_⟩) (by assumption) ?_
      rotate_left 1
      · intro w hSw; (try dsimp only at hSw); go_simp <;> with_reducible rfl
      (try simp only [Act.put]); (try simp only [List.setIfInBounds_toArray]); (try simp only [List.set_cons_succ]); (try simp only [List.set_cons_zero])
      refine wpAnyH_take (i := 11) (oi := ⟨_, _, _, _, _, _⟩) (v := ?_) rfl (by kernel_rfl) (by kernel_rfl) (by kernel_rfl) (fun _ _ _ h => h) (Or.inl ⟨by rfl, ?_⟩) (by assumption) ?_
      rotate_left 1
      · intro w hSw; (try dsimp only at hSw); go_simp <;> with_reducible rfl
      (try simp only [Act.put]); (try simp only [List.setIfInBounds_toArray]); (try simp only [List.set_cons_succ]); (try simp only [List.set_cons_zero])
      refine wpAnyH_take (i := 12) (oi := ⟨_, _, _, _, _, _⟩) (v := ?_) rfl (by kernel_rfl) (by kernel_rfl) (by kernel_rfl) (fun _ _ _ h => h) (Or.inl ⟨by rfl, ?_⟩) (by assumption) ?_
      rotate_left 1
      · intro w hSw; (try dsimp only at hSw); go_simp <;> with_reducible rfl
      (try simp only [Act.put]); (try simp only [List.setIfInBounds_toArray]); (try simp only [List.set_cons_succ]); (try simp only [List.set_cons_zero])
      refine wpAnyH_take (i := 13) (oi := ⟨_, _, _, _, _, _⟩) (v := ?_) rfl (by kernel_rfl) (by kernel_rfl) (by kernel_rfl) (fun _ _ _ h => h) (Or.inl ⟨by rfl, ?_⟩) (by assumption) ?_
      rotate_left 1
      · intro w hSw; (try dsimp only at hSw); go_simp <;> with_reducible rfl
      (try simp only [Act.put]); (try simp only [List.setIfInBounds_toArray]); (try simp only [List.set_cons_succ]); (try simp only [List.set_cons_zero])
      refine wpAnyH_ready (rs := [14, 18]) (by kernel_rfl) (by simp) ?_
      refine AllReadyH.cons (o := ⟨_, _, _, _, _, _⟩) rfl (fun K hK => ?_) (AllReadyH.cons (o := ⟨_, _, _, _, _, _⟩) rfl (fun K hK => ?_) AllReadyH.nil)
      · go_simp
        have HHD := Lib.hid (rhandle39_any fa fm fc f ba bm bc b z c.src c.kind c.v b0 V0 (JB.trans (HJW.out.trans J6)) (HF.out.keep (HJW.out.trans J6)) (HB.out.keep (HJW.out.trans J6)) (RPN.keep HRH.out (HJW.out.trans J6) JB) HZ.out.1 HZ.out.2)
        unfold vn at HHD
        refine HHD.out.mono ?_
        rintro e V1 ⟨z', uo, rfl, e1, hRP, hu⟩
        have HE1 := Lib.hid e1
        clear e1 HHD
        have kk := hu.2
        replace hu := hu.since J6
        replace J6 := J6.trans kk
        replace hX := hX.keep kk
        replace hC := hC.keep kk
        replace hON := hON.keep kk
        clear kk
        refine hK.out _ _ ?_ (fun hHeld => ?_)
        · exact ⟨hX.cell 3 rfl, hC.cell 0 rfl, hC.cell 1 rfl, hC.cell 2 rfl, hC.cell 3 rfl, HNAT.out _ hON⟩
        clear hK K
        (try simp only [Act.put]); (try simp only [List.setIfInBounds_toArray]); (try simp only [List.set_cons_succ]); (try simp only [List.set_cons_zero])
        refine wpAnyH_take (i := 15) (oi := ⟨_, _, _, _, _, _⟩) (v := ?_) rfl (by kernel_rfl) (by kernel_rfl) (by kernel_rfl) (fun _ _ _ h => h) (Or.inl ⟨by rfl, ?_⟩) (by assumption) ?_
        rotate_left 1
        · intro w hSw; (try dsimp only at hSw); go_simp <;> with_reducible rfl
        (try simp only [Act.put]); (try simp only [List.setIfInBounds_toArray]); (try simp only [List.set_cons_succ]); (try simp only [List.set_cons_zero])
        refine wpAnyH_take (i := 16) (oi := ⟨_, _, _, _, _, _⟩) (v := ?_) rfl (by kernel_rfl) (by kernel_rfl) (by kernel_rfl) (fun _ _ _ h => h) (Or.inl ⟨by rfl, ?_⟩) (by assumption) ?_
        rotate_left 1
        · intro w hSw; (try dsimp only at hSw); go_simp <;> with_reducible rfl
        (try simp only [Act.put]); (try simp only [List.setIfInBounds_toArray]); (try simp only [List.set_cons_succ]); (try simp only [List.set_cons_zero])
        refine wpAnyH_take (i := 17) (oi := ⟨_, _, _, _, _, _⟩) (v := ?_) rfl (by kernel_rfl) (by kernel_rfl) (by kernel_rfl) (fun _ _ _ h => h) (Or.inl ⟨by rfl, ?_⟩) (by assumption) ?_
        rotate_left 1
        · intro w hSw; (try dsimp only at hSw); go_simp <;> with_reducible rfl
        (try simp only [Act.put]); (try simp only [List.setIfInBounds_toArray]); (try simp only [List.set_cons_succ]); (try simp only [List.set_cons_zero])
        refine wpAnyH_ready (rs := [18]) (by kernel_rfl) (by simp) ?_
        refine AllReadyH.cons (o := ⟨_, _, _, _, _, _⟩) rfl (fun K hK => ?_) AllReadyH.nil
        go_simp
        have h5 := Blk.new V1 46 #[.int .i64 0, .string ⟨#[]⟩, .bool false, .string ⟨#[]⟩, .bool false, .string ⟨#[]⟩, .bool false, .slice none 0 0, .slice none 0 0]
        have kA := (Keeps.refl V1).alloc (.cells #[.int .i64 0, .string ⟨#[]⟩, .bool false, .string ⟨#[]⟩, .bool false, .string ⟨#[]⟩, .bool false, .slice none 0 0, .slice none 0 0] 46)
        replace hX := hX.keep kA
        replace hC := hC.keep kA
        replace hON := hON.keep kA
        replace hu := hu.keep kA
        replace hRP := RPN.keep hRP kA (JB.trans (HJW.out.trans J6))
        obtain ⟨BN, hBN⟩ : ∃ C, C = V1.heap.size := ⟨_, rfl⟩
        rw [← hBN] at h5 ⊢
        have HL2 : Hid (w6.heap.size ≤ BN) := Lib.hid (by rw [hBN]; exact J6.size)
        replace J6 := J6.trans kA
        clear kA hBN
        generalize V1.alloc (.cells #[.int .i64 0, .string ⟨#[]⟩, .bool false, .string ⟨#[]⟩, .bool false, .string ⟨#[]⟩, .bool false, .slice none 0 0, .slice none 0 0] 46) = V2 at *
        refine hK.out _ _ ?_ (fun hHeld => ?_)
        · exact ⟨hX.cell 3 rfl, hC.cell 0 rfl, hC.cell 1 rfl, hC.cell 2 rfl, hC.cell 3 rfl, HNAT.out _ hON⟩
        clear hK K
        (try simp only [Act.put]); (try simp only [List.setIfInBounds_toArray]); (try simp only [List.set_cons_succ]); (try simp only [List.set_cons_zero])
        refine wpAnyH_ready (rs := [19]) (by kernel_rfl) (by simp) ?_
        refine AllReadyH.cons (o := ⟨_, _, _, _, _, _⟩) rfl (fun K hK => ?_) AllReadyH.nil
        obtain ⟨c0, c1, c2, c3, c4, c5, c6, c7, c8⟩ := Blk.c9 h5
        obtain ⟨g0, g1, g2, g3, g4, g5, g6, g7, g8⟩ := Blk.f9 h5
        go_simp
        clear c0 c1 c2 c3 c4 c5 c6 c7 c8 g0 g1 g2 g3 g4 g5 g6 g7 g8
        replace hu := own_other9 hu h5 (by decide) HL2.out (.int .i64 z'.x.id) (.string z'.x.echoed) (.bool z'.x.hasE) (.string z'.x.readied) (.bool z'.x.hasR) (.string z'.x.delivered) (.bool z'.x.hasD) (.slice z'.ae z'.x.echoes.length z'.ce) (.slice z'.ar z'.x.readies.length z'.cr)
        replace hRP := RPN.set9 hRP h5 (by decide) (Nat.le_trans (JB.trans HJW.out).size HL2.out) (JB.trans (HJW.out.trans J6)) (.int .i64 z'.x.id) (.string z'.x.echoed) (.bool z'.x.hasE) (.string z'.x.readied) (.bool z'.x.hasR) (.string z'.x.delivered) (.bool z'.x.hasD) (.slice z'.ae z'.x.echoes.length z'.ce) (.slice z'.ar z'.x.readies.length z'.cr)
        replace hX := hX.other9 (hX.ne h5 (by decide)) (.int .i64 z'.x.id) (.string z'.x.echoed) (.bool z'.x.hasE) (.string z'.x.readied) (.bool z'.x.hasR) (.string z'.x.delivered) (.bool z'.x.hasD) (.slice z'.ae z'.x.echoes.length z'.ce) (.slice z'.ar z'.x.readies.length z'.cr)
        replace hC := hC.other9 (hC.ne h5 (by decide)) (.int .i64 z'.x.id) (.string z'.x.echoed) (.bool z'.x.hasE) (.string z'.x.readied) (.bool z'.x.hasR) (.string z'.x.delivered) (.bool z'.x.hasD) (.slice z'.ae z'.x.echoes.length z'.ce) (.slice z'.ar z'.x.readies.length z'.cr)
        replace hON := HON.out.keep (keeps_set9 J6 HL2.out (.int .i64 z'.x.id) (.string z'.x.echoed) (.bool z'.x.hasE) (.string z'.x.readied) (.bool z'.x.hasR) (.string z'.x.delivered) (.bool z'.x.hasD) (.slice z'.ae z'.x.echoes.length z'.ce) (.slice z'.ar z'.x.readies.length z'.cr))
        replace J6 := keeps_set9 J6 HL2.out (.int .i64 z'.x.id) (.string z'.x.echoed) (.bool z'.x.hasE) (.string z'.x.readied) (.bool z'.x.hasR) (.string z'.x.delivered) (.bool z'.x.hasD) (.slice z'.ae z'.x.echoes.length z'.ce) (.slice z'.ar z'.x.readies.length z'.cr)
        replace h5 := h5.set9 (.int .i64 z'.x.id) (.string z'.x.echoed) (.bool z'.x.hasE) (.string z'.x.readied) (.bool z'.x.hasR) (.string z'.x.delivered) (.bool z'.x.hasD) (.slice z'.ae z'.x.echoes.length z'.ce) (.slice z'.ar z'.x.readies.length z'.cr)
        generalize (((((((((V2.setCell ⟨BN, 0, none⟩ (.int .i64 z'.x.id)).setCell ⟨BN, 1, none⟩ (.string z'.x.echoed)).setCell ⟨BN, 2, none⟩ (.bool z'.x.hasE)).setCell ⟨BN, 3, none⟩ (.string z'.x.readied)).setCell ⟨BN, 4, none⟩ (.bool z'.x.hasR)).setCell ⟨BN, 5, none⟩ (.string z'.x.delivered)).setCell ⟨BN, 6, none⟩ (.bool z'.x.hasD)).setCell ⟨BN, 7, none⟩ (.slice z'.ae z'.x.echoes.length z'.ce)).setCell ⟨BN, 8, none⟩ (.slice z'.ar z'.x.readies.length z'.cr)) = V9 at *
        refine hK.out _ _ ?_ (fun hHeld => ?_)
        · exact ⟨hX.cell 3 rfl, hC.cell 0 rfl, hC.cell 1 rfl, hC.cell 2 rfl, hC.cell 3 rfl, HNAT.out _ hON⟩
        clear hK K
        (try simp only [Act.put]); (try simp only [List.setIfInBounds_toArray]); (try simp only [List.set_cons_succ]); (try simp only [List.set_cons_zero])
        refine wpAnyH_take (i := 20) (oi := ⟨_, _, _, _, _, _⟩) (v := ?_) rfl (by kernel_rfl) (by kernel_rfl) (by kernel_rfl) (fun _ _ _ h => h) (Or.inl ⟨by rfl, ?_⟩) (by assumption) ?_
        rotate_left 1
        · intro w hSw; (try dsimp only at hSw); go_simp <;> with_reducible rfl
        (try simp only [Act.put]); (try simp only [List.setIfInBounds_toArray]); (try simp only [List.set_cons_succ]); (try simp only [List.set_cons_zero])
        refine wpAnyH_done (by kernel_rfl) ?_ _
        go_wp2_with fail
        go_meet
        case rel => exact ⟨z', BN, rfl, HL2.out, h5, HE1, hRP, hu⟩
      · go_simp
        have h5 := Blk.new V0 46 #[.int .i64 0, .string ⟨#[]⟩, .bool false, .string ⟨#[]⟩, .bool false, .string ⟨#[]⟩, .bool false, .slice none 0 0, .slice none 0 0]
        have kA := (Keeps.refl V0).alloc (.cells #[.int .i64 0, .string ⟨#[]⟩, .bool false, .string ⟨#[]⟩, .bool false, .string ⟨#[]⟩, .bool false, .slice none 0 0, .slice none 0 0] 46)
        replace hX := hX.keep kA
        replace hC := hC.keep kA
        replace hON := hON.keep kA
        obtain ⟨BN, hBN⟩ : ∃ C, C = V0.heap.size := ⟨_, rfl⟩
        rw [← hBN] at h5 ⊢
        have HL2 : Hid (w6.heap.size ≤ BN) := Lib.hid (by rw [hBN]; exact J6.size)
        replace J6 := J6.trans kA
        clear kA hBN
        generalize V0.alloc (.cells #[.int .i64 0, .string ⟨#[]⟩, .bool false, .string ⟨#[]⟩, .bool false, .string ⟨#[]⟩, .bool false, .slice none 0 0, .slice none 0 0] 46) = V1 at *
        refine hK.out _ _ ?_ (fun hHeld => ?_)
        · exact ⟨hX.cell 3 rfl, hC.cell 0 rfl, hC.cell 1 rfl, hC.cell 2 rfl, hC.cell 3 rfl, HNAT.out _ hON⟩
        clear hK K
        (try simp only [Act.put]); (try simp only [List.setIfInBounds_toArray]); (try simp only [List.set_cons_succ]); (try simp only [List.set_cons_zero])
        refine wpAnyH_ready (rs := [14]) (by kernel_rfl) (by simp) ?_
        refine AllReadyH.cons (o := ⟨_, _, _, _, _, _⟩) rfl (fun K hK => ?_) AllReadyH.nil
        go_simp
        have HHD := Lib.hid (rhandle39_any fa fm fc f ba bm bc b z c.src c.kind c.v b0 V1 (JB.trans (HJW.out.trans J6)) (HF.out.keep (HJW.out.trans J6)) (HB.out.keep (HJW.out.trans J6)) (RPN.keep HRH.out (HJW.out.trans J6) JB) HZ.out.1 HZ.out.2)
        unfold vn at HHD
        refine HHD.out.mono ?_
        rintro e V2 ⟨z', uo, rfl, e1, hRP, hu⟩
        have HE1 := Lib.hid e1
        clear e1 HHD
        have kk := hu.2
        replace hu := hu.since J6
        replace J6 := J6.trans kk
        replace hX := hX.keep kk
        replace hC := hC.keep kk
        replace hON := hON.keep kk
        replace h5 := h5.keep kk
        clear kk
        refine hK.out _ _ ?_ (fun hHeld => ?_)
        · exact ⟨hX.cell 3 rfl, hC.cell 0 rfl, hC.cell 1 rfl, hC.cell 2 rfl, hC.cell 3 rfl, HNAT.out _ hON⟩
        clear hK K
        (try simp only [Act.put]); (try simp only [List.setIfInBounds_toArray]); (try simp only [List.set_cons_succ]); (try simp only [List.set_cons_zero])
        refine wpAnyH_take (i := 15) (oi := ⟨_, _, _, _, _, _⟩) (v := ?_) rfl (by kernel_rfl) (by kernel_rfl) (by kernel_rfl) (fun _ _ _ h => h) (Or.inl ⟨by rfl, ?_⟩) (by assumption) ?_
        rotate_left 1
        · intro w hSw; (try dsimp only at hSw); go_simp <;> with_reducible rfl
        (try simp only [Act.put]); (try simp only [List.setIfInBounds_toArray]); (try simp only [List.set_cons_succ]); (try simp only [List.set_cons_zero])
        refine wpAnyH_take (i := 16) (oi := ⟨_, _, _, _, _, _⟩) (v := ?_) rfl (by kernel_rfl) (by kernel_rfl) (by kernel_rfl) (fun _ _ _ h => h) (Or.inl ⟨by rfl, ?_⟩) (by assumption) ?_
        rotate_left 1
        · intro w hSw; (try dsimp only at hSw); go_simp <;> with_reducible rfl
        (try simp only [Act.put]); (try simp only [List.setIfInBounds_toArray]); (try simp only [List.set_cons_succ]); (try simp only [List.set_cons_zero])
        refine wpAnyH_take (i := 17) (oi := ⟨_, _, _, _, _, _⟩) (v := ?_) rfl (by kernel_rfl) (by kernel_rfl) (by kernel_rfl) (fun _ _ _ h => h) (Or.inl ⟨by rfl, ?_⟩) (by assumption) ?_
        rotate_left 1
        · intro w hSw; (try dsimp only at hSw); go_simp <;> with_reducible rfl
        (try simp only [Act.put]); (try simp only [List.setIfInBounds_toArray]); (try simp only [List.set_cons_succ]); (try simp only [List.set_cons_zero])
        refine wpAnyH_ready (rs := [19]) (by kernel_rfl) (by simp) ?_
        refine AllReadyH.cons (o := ⟨_, _, _, _, _, _⟩) rfl (fun K hK => ?_) AllReadyH.nil
        obtain ⟨c0, c1, c2, c3, c4, c5, c6, c7, c8⟩ := Blk.c9 h5
        obtain ⟨g0, g1, g2, g3, g4, g5, g6, g7, g8⟩ := Blk.f9 h5
        go_simp
        clear c0 c1 c2 c3 c4 c5 c6 c7 c8 g0 g1 g2 g3 g4 g5 g6 g7 g8
        replace hu := own_other9 hu h5 (by decide) HL2.out (.int .i64 z'.x.id) (.string z'.x.echoed) (.bool z'.x.hasE) (.string z'.x.readied) (.bool z'.x.hasR) (.string z'.x.delivered) (.bool z'.x.hasD) (.slice z'.ae z'.x.echoes.length z'.ce) (.slice z'.ar z'.x.readies.length z'.cr)
        replace hRP := RPN.set9 hRP h5 (by decide) (Nat.le_trans (JB.trans HJW.out).size HL2.out) (JB.trans (HJW.out.trans J6)) (.int .i64 z'.x.id) (.string z'.x.echoed) (.bool z'.x.hasE) (.string z'.x.readied) (.bool z'.x.hasR) (.string z'.x.delivered) (.bool z'.x.hasD) (.slice z'.ae z'.x.echoes.length z'.ce) (.slice z'.ar z'.x.readies.length z'.cr)
        replace hX := hX.other9 (hX.ne h5 (by decide)) (.int .i64 z'.x.id) (.string z'.x.echoed) (.bool z'.x.hasE) (.string z'.x.readied) (.bool z'.x.hasR) (.string z'.x.delivered) (.bool z'.x.hasD) (.slice z'.ae z'.x.echoes.length z'.ce) (.slice z'.ar z'.x.readies.length z'.cr)
        replace hC := hC.other9 (hC.ne h5 (by decide)) (.int .i64 z'.x.id) (.string z'.x.echoed) (.bool z'.x.hasE) (.string z'.x.readied) (.bool z'.x.hasR) (.string z'.x.delivered) (.bool z'.x.hasD) (.slice z'.ae z'.x.echoes.length z'.ce) (.slice z'.ar z'.x.readies.length z'.cr)
        replace hON := HON.out.keep (keeps_set9 J6 HL2.out (.int .i64 z'.x.id) (.string z'.x.echoed) (.bool z'.x.hasE) (.string z'.x.readied) (.bool z'.x.hasR) (.string z'.x.delivered) (.bool z'.x.hasD) (.slice z'.ae z'.x.echoes.length z'.ce) (.slice z'.ar z'.x.readies.length z'.cr))
        replace J6 := keeps_set9 J6 HL2.out (.int .i64 z'.x.id) (.string z'.x.echoed) (.bool z'.x.hasE) (.string z'.x.readied) (.bool z'.x.hasR) (.string z'.x.delivered) (.bool z'.x.hasD) (.slice z'.ae z'.x.echoes.length z'.ce) (.slice z'.ar z'.x.readies.length z'.cr)
        replace h5 := h5.set9 (.int .i64 z'.x.id) (.string z'.x.echoed) (.bool z'.x.hasE) (.string z'.x.readied) (.bool z'.x.hasR) (.string z'.x.delivered) (.bool z'.x.hasD) (.slice z'.ae z'.x.echoes.length z'.ce) (.slice z'.ar z'.x.readies.length z'.cr)
        generalize (((((((((V2.setCell ⟨BN, 0, none⟩ (.int .i64 z'.x.id)).setCell ⟨BN, 1, none⟩ (.string z'.x.echoed)).setCell ⟨BN, 2, none⟩ (.bool z'.x.hasE)).setCell ⟨BN, 3, none⟩ (.string z'.x.readied)).setCell ⟨BN, 4, none⟩ (.bool z'.x.hasR)).setCell ⟨BN, 5, none⟩ (.string z'.x.delivered)).setCell ⟨BN, 6, none⟩ (.bool z'.x.hasD)).setCell ⟨BN, 7, none⟩ (.slice z'.ae z'.x.echoes.length z'.ce)).setCell ⟨BN, 8, none⟩ (.slice z'.ar z'.x.readies.length z'.cr)) = V9 at *
        refine hK.out _ _ ?_ (fun hHeld => ?_)
        · exact ⟨hX.cell 3 rfl, hC.cell 0 rfl, hC.cell 1 rfl, hC.cell 2 rfl, hC.cell 3 rfl, HNAT.out _ hON⟩
        clear hK K
        (try simp only [Act.put]); (try simp only [List.setIfInBounds_toArray]); (try simp only [List.set_cons_succ]); (try simp only [List.set_cons_zero])
        refine wpAnyH_take (i := 20) (oi := ⟨_, _, _, _, _, _⟩) (v := ?_) rfl (by kernel_rfl) (by kernel_rfl) (by kernel_rfl) (fun _ _ _ h => h) (Or.inl ⟨by rfl, ?_⟩) (by assumption) ?_
        rotate_left 1
        · intro w hSw; (try dsimp only at hSw); go_simp <;> with_reducible rfl
        (try simp only [Act.put]); (try simp only [List.setIfInBounds_toArray]); (try simp only [List.set_cons_succ]); (try simp only [List.set_cons_zero])
        refine wpAnyH_done (by kernel_rfl) ?_ _
        go_wp2_with fail
        go_meet
        case rel => exact ⟨z', BN, rfl, HL2.out, h5, HE1, hRP, hu⟩
    case rest =>
      obtain ⟨z', BN, rfl, hBNlo, hBN, HZ1, hRP, hOut⟩ := hcut
      have kk := hOut.2
      have hX := HX5.out.keep kk; have hBR := HBR5.out.keep kk; have hC := HC5.out.keep kk; have hON := HON.out.keep kk; have hO := HO5.out.keep kk
      clear HX5 HBR5 HC5 HO5 kk
      have hg9 := grown9n wc gn (d * 9) (.int .i64 z'.x.id) (.string z'.x.echoed) (.bool z'.x.hasE) (.string z'.x.readied) (.bool z'.x.hasR) (.string z'.x.delivered) (.bool z'.x.hasD) (.slice z'.ae z'.x.echoes.length z'.ce) (.slice z'.ar z'.x.readies.length z'.cr)
      have hS := own_set9 hON (d * 9) (.int .i64 z'.x.id) (.string z'.x.echoed) (.bool z'.x.hasE) (.string z'.x.readied) (.bool z'.x.hasR) (.string z'.x.delivered) (.bool z'.x.hasD) (.slice z'.ae z'.x.echoes.length z'.ce) (.slice z'.ar z'.x.readies.length z'.cr)
      rw [← nl_set nas d z' hd2] at hS
      have HRP2 := Lib.hid (RPN.grown hRP hON (JB.trans hS.2) hg9)
      have HOut := Lib.hid (row_kept hOut.1 hON.1 (by decide) hg9)
      have HO := Lib.hid (show Own 53 4 w _ _ _ _ from ⟨row_kept hO.1 hON.1 (by decide) hg9, hS.2⟩)
      have HX := Lib.hid (blk_grown9 hX hg9 (blk_ne hX hON.1 (by decide)))
      have HBR := Lib.hid (blk_grown9 hBR hg9 (blk_ne hBR hON.1 (by decide)))
      have HS9 := Lib.hid hS
      have x3 := hX.cell 3 (v := .slice (some ⟨gn, 0, none⟩) nas.length cn) rfl
      have y2 := hC.cell 2 (v := .int .i64 d) rfl
      obtain ⟨c0, c1, c2, c3, c4, c5, c6, c7, c8⟩ := Blk.c9 hBN
      obtain ⟨p0, p1, p2, p3, p4, p5, p6, p7, p8⟩ := HNAT.out _ hON
      obtain ⟨q0, q1, q2, q3, q4, q5, q6, q7, q8⟩ := node_fz hON d
      clear hX hBR hC hON hO hOut hRP hg9 hS hBN
      go_upto_region 6 with fail
      clear x3 y2 c0 c1 c2 c3 c4 c5 c6 c7 c8 p0 p1 p2 p3 p4 p5 p6 p7 p8 q0 q1 q2 q3 q4 q5 q6 q7 q8
      generalize (((((((((wc.setCell ⟨gn, d * 9, none⟩ (.int .i64 z'.x.id)).setCell ⟨gn, d * 9 + 1, none⟩ (.string z'.x.echoed)).setCell ⟨gn, d * 9 + 2, none⟩ (.bool z'.x.hasE)).setCell ⟨gn, d * 9 + 3, none⟩ (.string z'.x.readied)).setCell ⟨gn, d * 9 + 4, none⟩ (.bool z'.x.hasR)).setCell ⟨gn, d * 9 + 5, none⟩ (.string z'.x.delivered)).setCell ⟨gn, d * 9 + 6, none⟩ (.bool z'.x.hasD)).setCell ⟨gn, d * 9 + 7, none⟩ (.slice z'.ae z'.x.echoes.length z'.ce)).setCell ⟨gn, d * 9 + 8, none⟩ (.slice z'.ar z'.x.readies.length z'.cr)) = w8 at *
      have HHV : Hid ((handle f b z.x c.src c.kind c.v) = (z'.x, (handle f b z.x c.src c.kind c.v).2)) := Lib.hid (by rw [HZ1.out])
      have HDS := Lib.hid (handle_dst f b z.x c.src c.kind c.v)
      have HOL := Lib.hid (handle_out f b z.x c.src c.kind c.v)
      generalize (handle f b z.x c.src c.kind c.v).2 = out at *
      obtain ⟨ao, co, rfl, hro⟩ := own_rd HOut.out
      have hput := rput39_any n hn byz source (some ⟨gn, 0, none⟩) nas.length cn gg gd (fl.eraseIdx k) ao co out w8 HO.out.row0.rd hro (by rw [List.length_eraseIdx_of_lt hk]; omega) (by have := HOL.out; omega)
      rw [putL_out n byz out HDS.out] at hput
      obtain ⟨FL, hFL⟩ : ∃ FL, FL = fl.eraseIdx k ++ out.flatMap (toAll n byz) := ⟨_, rfl⟩
      rw [← hFL] at hput
      have HFL := Lib.hid hFL
      clear hFL
      unfold vCast at hput
      have HPUT := Lib.hid hput
      obtain ⟨x0, x1, x2, x3, x4⟩ := Go.Proofs.YtbcfkgolhklkaaaDoor.c5 HX.out
      clear hput hro
      go_wp2_with fail
      refine HPUT.out.mono ?_
      rintro e w9 ⟨gv', rfl, hP⟩
      obtain ⟨ag, cg, rfl, _⟩ := hP.rd
      have hBR := HBR.out.keep hP.2
      have HBR9 := Lib.hid hBR
      obtain ⟨d0, d1, d2, d3, d4⟩ := Go.Proofs.YtbcfkgolhklkaaaDoor.c5 hBR
      obtain ⟨g0, g1, g2, g3, g4⟩ := f5 hBR
      have HP := Lib.hid (hP.since HO.out.2)
      have HSF := Lib.hid (HS9.out.keep hP.2)
      have HRF := Lib.hid (RPN.keep HRP2.out hP.2 (JB.trans HO.out.2))
      clear x0 x1 x2 x3 x4 hBR hP HPUT
      go_wp2_with fail
      clear d0 d1 d2 d3 d4 g0 g1 g2 g3 g4
      refine bodyPost_ret (resC1 (n := (n : Int)) (byz := byz) (source := source) (nv := .slice (some ⟨gn, 0, none⟩) nas.length cn) (gv := .slice ag FL.length cg) rfl (set5 HBR9.out _ _ _ _ _) rfl) rfl ?_
      have b1 := HBR9.out.set 0 (.int .i64 n); have b2 := b1.set 1 (.int .u16 (sv byz)); have b3 := b2.set 2 (.int .i64 source); have b4 := b3.set 3 (.slice (some ⟨gn, 0, none⟩) nas.length cn)
      have hf5 := own_oth9 (own_oth9 (own_oth9 (own_oth9 (own_oth9 HP.out HBR9.out (by decide) hlr 0 (.int .i64 n)) b1 (by decide) hlr 1 (.int .u16 (sv byz))) b2 (by decide) hlr 2 (.int .i64 source)) b3 (by decide) hlr 3 (.slice (some ⟨gn, 0, none⟩) nas.length cn)) b4 (by decide) hlr 4 (.slice ag FL.length cg)
      have hn5 := own_oth9 (own_oth9 (own_oth9 (own_oth9 (own_oth9 HSF.out HBR9.out (by decide) hlr 0 (.int .i64 n)) b1 (by decide) hlr 1 (.int .u16 (sv byz))) b2 (by decide) hlr 2 (.int .i64 source)) b3 (by decide) hlr 3 (.slice (some ⟨gn, 0, none⟩) nas.length cn)) b4 (by decide) hlr 4 (.slice ag FL.length cg)
      refine ⟨_, nas.set d z', _, FL, rfl, by rw [List.length_set]; exact hn5, hf5, fun y hy => ?_, ?_⟩
      · rcases List.mem_or_eq_of_mem_set hy with hy | rfl
        · exact RPN.keep (HH.out y hy) hf5.2 JB
        · exact RPN.set5 HRF.out HBR9.out (by decide) (Nat.le_trans JB.size hlr) (JB.trans HP.out.2) _ _ _ _ _
      · unfold deliv
        dsimp only
        rw [HC.out, HD1.out, Int.toNat_natCast, HNX.out, HHV.out, List.map_set, HFL.out]
end Go.Proofs.YtbcfkgolhklkaaaDoor
