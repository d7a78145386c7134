/- Texts joined into one, what is needed of them (a program of ours). -/
import Derived.Test.YtbcfkgolhklkaaaDoorEKY
import Derived.Test.YtbcfkgolhklkaaaDoorEKO
namespace Go.Proofs.YtbcfkgolhklkaaaDoor
open Go.RowKit Go.Lib Go.Shelf

theorem st5_oth {W : World} {B C : Nat} {T : TypeId} {cs : Array Value} (h : Blk W B T cs) (hn : B ≠ C) (u0 u1 u2 u3 u4 : Value) : Blk (st5 W C u0 u1 u2 u3 u4) B T cs :=
  ((((h.setOther hn 0 u0).setOther hn 1 u1).setOther hn 2 u2).setOther hn 3 u3).setOther hn 4 u4
theorem full_bit : ∀ (n : Fin 9) (i : Fin 16), (1#16 <<< n.val - 1#16).getLsbD i.val = decide (i.val < n.val) := by decide +kernel
theorem rest_mem {n : Nat} (t : S) (hn : n ≤ 8) : memL (restS n t) = corrL n t := by
  have h1 : ∀ i, i < 16 → (restS n t).getLsbD i = corr n t i := fun i hi => by
    unfold restS corr
    rw [BitVec.getLsbD_and, BitVec.getLsbD_not, full_bit ⟨n, by omega⟩ ⟨i, hi⟩, decide_eq_true hi, Bool.true_and]
  unfold memL corrL
  have hr : ∀ m : Nat, n + m = 16 → List.range 16 = List.range n ++ (List.range m).map (n + ·) := fun m hm => by rw [← hm, List.range_add]
  rw [List.filter_congr (fun i hi => h1 i (List.mem_range.1 hi)), hr (16 - n) (by omega), List.filter_append]
  have h2 : ((List.range (16 - n)).map (n + ·)).filter (corr n t) = [] := List.filter_eq_nil_iff.2 fun i hi => by
    obtain ⟨j, _, rfl⟩ := List.mem_map.1 hi
    unfold corr
    rw [decide_eq_false (by omega)]
    simp
  rw [h2, List.append_nil]
theorem cnt_low {n : Nat} {t : S} (h : t.toNat < 2 ^ n) : ∀ m, cntTo t (n + m) = cntTo t n
  | 0 => rfl
  | m + 1 => by
    show cntTo t (n + m) + (t.toNat >>> (n + m)) % 2 = _
    rw [cnt_low h m, Nat.shiftRight_eq_div_pow, Nat.div_eq_of_lt (Nat.lt_of_lt_of_le h (Nat.pow_le_pow_right (by decide) (by omega)))]
    rfl
theorem filter_two {α : Type} (p : α → Bool) : ∀ l : List α, (l.filter p).length + (l.filter fun x => !p x).length = l.length
  | [] => rfl
  | a :: r => by
    have := filter_two p r
    rw [List.filter_cons, List.filter_cons]
    cases p a <;> simp <;> omega
theorem rest_eq {n : Nat} {t : S} (hn : n ≤ 8) (h : t.toNat < 2 ^ n) : memL (restS n t) = corrL n t ∧ (corrL n t).length + cnt t = n := by
  refine ⟨rest_mem t hn, ?_⟩
  have h1 := cnt_low h (16 - n)
  rw [show n + (16 - n) = 16 by omega] at h1
  have h2 := filter_two (fun i => (t >>> i) &&& 1#16 == 1#16) (List.range n)
  rw [List.length_range] at h2
  have h3 : (memTo t n).length = cntTo t n := memTo_cnt t n
  unfold memTo at h3
  rw [← corTo_eq]
  unfold corTo cnt
  rw [h1]
  omega
theorem memTo_memL (s : S) : memTo s 16 = memL s := by
  unfold memTo memL
  refine List.filter_congr fun i _ => ?_
  rw [hbT]
  rfl
theorem im_cons (a : Nat) (r : List Nat) : im (a :: r) 0 = a := rfl
theorem mem_head0 {t : S} (h : small t) (h0 : t ≠ 0#16) : memL t = tzS t :: members (t &&& (t - 1#16)) := (memL_small h).trans (members_step h h0).1
theorem mem_head {t : S} (h : small t) (h0 : t ≠ 0#16) : im (memL t) 0 = tzS t ∧ 0 < (memL t).length := by
  have e := mem_head0 h h0
  generalize memL t = L at e ⊢
  subst e
  exact ⟨im_cons _ _, Nat.succ_pos _⟩
set_option maxHeartbeats 1000000 in
theorem rsplit39_any (q p t : S) (n : Nat) (hn : n ≤ 8) (ht : t.toNat < 2 ^ n) (w : World) :
    Calls Tryd.prog 57 #[.int .u16 (sv q), .int .u16 (sv p), .int .u16 (sv t), .int .i64 n] w fun e w' => e = .returned (.bool (splP n q p t)) ∧ Keeps w w' := by
  have hc := rcorrect9_any n t w (by omega)
  have hw1 := within7_any (q &&& p) t w
  have hw2 := within7_any q t w
  have hw3 := within7_any p t w
  have hlen := (rest_eq hn ht).2
  have HS : Hid (splP n q p t = (!(t == 0#16 || !(q &&& p &&& ~~~t == 0#16)) && !((q &&& ~~~t == 0#16 || p &&& ~~~t == 0#16) && !decide ((((corrL n t).length : Nat) : Int) ≥ 2)))) := Lib.hid (by
    unfold splP
    congr 3
    rw [Bool.eq_iff_iff, Bool.not_eq_true', decide_eq_true_eq, decide_eq_false_iff_not]
    omega)
  have HC := Lib.hid hc
  have hl16 : (((corrL n t).length : Nat) : Int) ≤ 16 := by omega
  clear hc hlen ht hn
  generalize splP n q p t = r at *
  generalize corrL n t = L at *
  cases b0 : (t == 0#16) with
  | true =>
    have HR : Hid (r = false) := Lib.hid (by rw [HS.out, b0]; rfl)
    clear HS hw1 hw2 hw3 HC
    go_enter Tryd.func57, Tryd.ntmps57
    go_wp2_with fail
    go_ret
    exact ⟨by rw [HR.out]; rfl, Keeps.refl _⟩
  | false =>
    cases b1 : (q &&& p &&& ~~~t == 0#16) with
    | false =>
      have HR : Hid (r = false) := Lib.hid (by rw [HS.out, b0, b1]; rfl)
      rw [b1] at hw1
      have H1 := Lib.hid hw1
      clear HS hw1 hw2 hw3 HC b1
      go_enter Tryd.func57, Tryd.ntmps57
      go_wp2_with (go_at_call 86; refine H1.out.mono ?_; rintro e w' ⟨rfl, rfl⟩)
      go_ret
      exact ⟨by rw [HR.out]; rfl, Keeps.refl _⟩
    | true =>
      rw [b1] at hw1
      have H1 := Lib.hid hw1
      cases b2 : (q &&& ~~~t == 0#16) with
      | true =>
        rw [b2] at hw2
        have H2 := Lib.hid hw2
        have HR : Hid (r = decide (((L.length : Nat) : Int) ≥ 2)) := Lib.hid (by rw [HS.out, b0, b1, b2]; simp)
        clear HS hw1 hw2 hw3 b1 b2
        go_enter Tryd.func57, Tryd.ntmps57
        go_wp2_with fail
        refine H1.out.mono ?_
        rintro e w' ⟨rfl, rfl⟩
        go_wp2_with fail
        refine H2.out.mono ?_
        rintro e w' ⟨rfl, rfl⟩
        go_wp2_with fail
        refine HC.out.mono ?_
        rintro e w1 ⟨v, rfl, hO⟩
        obtain ⟨a, c, rfl, _⟩ := hO.rd
        have HK := Lib.hid hO.2
        clear hO HC
        go_wp2_with fail
        go_ret
        exact ⟨by rw [HR.out]; rfl, HK.out⟩
      | false =>
        rw [b2] at hw2
        have H2 := Lib.hid hw2
        cases b3 : (p &&& ~~~t == 0#16) with
        | true =>
          rw [b3] at hw3
          have H3 := Lib.hid hw3
          have HR : Hid (r = decide (((L.length : Nat) : Int) ≥ 2)) := Lib.hid (by rw [HS.out, b0, b1, b2, b3]; simp)
          clear HS hw1 hw2 hw3 b1 b2 b3
          go_enter Tryd.func57, Tryd.ntmps57
          go_wp2_with fail
          refine H1.out.mono ?_
          rintro e w' ⟨rfl, rfl⟩
          go_wp2_with fail
          refine H2.out.mono ?_
          rintro e w' ⟨rfl, rfl⟩
          go_wp2_with fail
          refine H3.out.mono ?_
          rintro e w' ⟨rfl, rfl⟩
          go_wp2_with fail
          refine HC.out.mono ?_
          rintro e w1 ⟨v, rfl, hO⟩
          obtain ⟨a, c, rfl, _⟩ := hO.rd
          have HK := Lib.hid hO.2
          clear hO HC
          go_wp2_with fail
          go_ret
          exact ⟨by rw [HR.out]; rfl, HK.out⟩
        | false =>
          rw [b3] at hw3
          have H3 := Lib.hid hw3
          have HR : Hid (r = true) := Lib.hid (by rw [HS.out, b0, b1, b2, b3]; rfl)
          clear HS hw1 hw2 hw3 b1 b2 b3 HC
          go_enter Tryd.func57, Tryd.ntmps57
          go_wp2_with fail
          refine H1.out.mono ?_
          rintro e w' ⟨rfl, rfl⟩
          go_wp2_with fail
          refine H2.out.mono ?_
          rintro e w' ⟨rfl, rfl⟩
          go_wp2_with fail
          refine H3.out.mono ?_
          rintro e w' ⟨rfl, rfl⟩
          go_wp2_with fail
          go_ret
          exact ⟨by rw [HR.out]; rfl, Keeps.refl _⟩
end Go.Proofs.YtbcfkgolhklkaaaDoor
namespace Go.Proofs.YtbcfkgolhklkaaaDoor
open Go.RowKit Go.Lib Go.Shelf

theorem idxL_first {P : Ct → Bool} : ∀ {l : List Ct} {k : Nat}, (∀ i, i < k → P (ctA l i) = false) → k < l.length → P (ctA l k) = true → idxL P l = some k
  | [], k, _, h, _ => by simp at h
  | c :: t, 0, _, _, h => by unfold idxL; rw [if_pos (show P c = true from h)]
  | c :: t, k + 1, h1, h2, h3 => by
    unfold idxL
    have h0 : P c = false := h1 0 (by omega)
    rw [if_neg (by rw [h0]; simp), idxL_first (k := k) (fun i hi => h1 (i + 1) (by omega)) (by simpa using h2) h3]
    rfl
theorem idxL_nil {P : Ct → Bool} : ∀ {l : List Ct}, (∀ i, i < l.length → P (ctA l i) = false) → idxL P l = none
  | [], _ => rfl
  | c :: t, h1 => by
    unfold idxL
    have h0 : P c = false := h1 0 (by simp)
    rw [if_neg (by rw [h0]; simp), idxL_nil (fun i hi => h1 (i + 1) (by simpa using hi))]
    rfl
theorem HasB.flr {w0 w : World} {c : CD} {N : Int} {bz : S} {sc : Int} {nv : Value} {ag : Option Addr} {m cg : Nat} (h : HasB w0 w c (vCast N bz sc nv (.slice ag m cg))) : Rd w ag m cg 4 (cl c.st.flight) := by
  obtain ⟨_, _, _, ag', cg', he, _, h2, _, _⟩ := h
  unfold vCast at he
  simp only [Value.agg.injEq, Array.mk.injEq, List.cons.injEq, Value.slice.injEq] at he
  obtain ⟨_, _, _, _, ⟨rfl, rfl, rfl⟩, _⟩ := he
  exact h2.1
theorem inA_bits {A byz : S} {c : Ct} {d s : Nat} (hd : c.dst = (d : Int)) (hs : c.src = (s : Int)) : inA A byz c = (((A >>> d) &&& 1#16 == 1#16) && (((A ||| byz) >>> s) &&& 1#16 == 1#16)) := by
  unfold inA
  rw [hd, hs, hbT, hbT]
  simp
  rfl
set_option maxRecDepth 200000 in
set_option maxHeartbeats 8000000 in
theorem rside39_any (fa : Option Addr) (fm fc : Nat) (f : List S) (ba : Option Addr) (bm bc : Nat) (b : List S) (n : Nat) (hn : n ≤ 8) (byz : S) (so : Nat) (hso : so < 16) (st : St) (A p : S) (v : Str) (val : Value) (w0 w : World) (J0 : Keeps w0 w)
    (hf : Rd w fa fm fc 1 (sl f)) (hb : Rd w ba bm bc 1 (sl b)) (hv : HasB w0 w ⟨n, byz, so, st⟩ val) (hA : InN n A) (hAO : AOk n st) (hfl : st.flight.length ≤ 2000) :
    Calls Tryd.prog 60 #[.slice fa fm fc, .slice ba bm bc, val, .int .u16 (sv A), .int .u16 (sv p), .string v] w fun e w' => ∃ v', e = .returned v' ∧ HasB w0 w' ⟨n, byz, so, sideS f b n byz so st A p v⟩ v' ∧ Keeps w w' := by
  have hv0 := hv
  obtain ⟨an, cn, nas, ag, cg, rfl, _, _, _, _⟩ := hv
  obtain ⟨nodes, F0⟩ := st
  dsimp only at *
  have hs : ∀ (W : World) o, (W.alloc o).heap.size = W.heap.size + 1 := fun W o => World.size_alloc ..
  have k1 := (Keeps.refl w).alloc (.cells #[.int .i64 n, .int .u16 (sv byz), .int .i64 so, .slice an nas.length cn, .slice ag F0.length cg] 32)
  have k2 := (Keeps.refl (w.alloc (.cells #[.int .i64 n, .int .u16 (sv byz), .int .i64 so, .slice an nas.length cn, .slice ag F0.length cg] 32))).alloc (.cells #[.int .i64 0, .int .u16 0, .int .i64 0, .slice none 0 0, .slice none 0 0] 32)
  have hX := (Blk.new w 32 #[.int .i64 n, .int .u16 (sv byz), .int .i64 so, .slice an nas.length cn, .slice ag F0.length cg]).keep k2
  have hBR := Blk.new (w.alloc (.cells #[.int .i64 n, .int .u16 (sv byz), .int .i64 so, .slice an nas.length cn, .slice ag F0.length cg] 32)) 32 #[.int .i64 0, .int .u16 0, .int .i64 0, .slice none 0 0, .slice none 0 0]
  rw [hs] at hBR
  have J := k1.trans k2
  clear hs k1 k2
  obtain ⟨W0, hW0⟩ : ∃ W, W = (w.alloc (.cells #[.int .i64 n, .int .u16 (sv byz), .int .i64 so, .slice an nas.length cn, .slice ag F0.length cg] 32)).alloc (.cells #[.int .i64 0, .int .u16 0, .int .i64 0, .slice none 0 0, .slice none 0 0] 32) := ⟨_, rfl⟩
  rw [← hW0] at hX hBR J
  have hcv := hv0.keep J J0
  unfold vCast at hcv
  have hlx : w.heap.size ≤ w.heap.size := Nat.le_refl _
  have hlx0 : w0.heap.size ≤ w.heap.size := J0.size
  have hlr : w.heap.size ≤ w.heap.size + 1 := by omega
  have hlr0 : w0.heap.size ≤ w.heap.size + 1 := by have := J0.size; omega
  have HAP := Lib.hid (hAO.push (A := A) (p := p) (byz := byz) hso hA v)
  have HSS : Hid (sideS f b n byz so ⟨nodes, F0⟩ A p v = playS f b n byz A ⟨nodes, F0 ++ pushL A p byz so v⟩) := Lib.hid rfl
  have HM := Lib.hid (fun W => members7_any A W)
  have HMQ := Lib.hid (fun W => members7_any (p &&& byz) W)
  rw [memTo_memL] at HM HMQ
  have hml := memL_len A
  have hml2 := memL_len (p &&& byz)
  have HSA : Hid (∀ (kind : Int) (src : Nat) k, (memL A).length ≤ k → sayP (memL A) kind src v k = sayL A kind src v) := Lib.hid (fun kind src k h => sayP_all A kind src v k h)
  have HKN := Lib.hid (fun j h => kndP_succ A p byz v j h)
  have HF := Lib.hid hf; have HB := Lib.hid hb; have HX := Lib.hid hX; have HBR := Lib.hid hBR; have HCV := Lib.hid hcv; have HJ := Lib.hid J; have HJ0 := Lib.hid J0
  have HF0 := Lib.hid hfl
  generalize sideS f b n byz so ⟨nodes, F0⟩ A p v = RS at *
  generalize memL A = M at *
  obtain ⟨M2, hM2⟩ : ∃ M2, M2 = memL (p &&& byz) := ⟨_, rfl⟩
  rw [← hM2] at HMQ hml2 HKN
  clear hM2 hv0 hf hb hX hBR hcv J J0 hAO hA hfl
  unfold vCast
  rw [hW0] at HX HBR HCV HJ
  clear hW0
  go_enter Tryd.func60, Tryd.ntmps60
  go_upto_region 1 with fail
  generalize (w.alloc (.cells #[.int .i64 n, .int .u16 (sv byz), .int .i64 so, .slice an nas.length cn, .slice ag F0.length cg] 32)).alloc (.cells #[.int .i64 0, .int .u16 0, .int .i64 0, .slice none 0 0, .slice none 0 0] 32) = W0 at *
  obtain ⟨P2, hP2⟩ : ∃ P, P = w.heap.size + 1 := ⟨_, rfl⟩
  obtain ⟨P1, hP1⟩ : ∃ P, P = w.heap.size := ⟨_, rfl⟩
  rw [← hP2] at HBR hlr hlr0 ⊢
  have n12 : P1 ≠ P2 := by omega
  rw [← hP1] at HX hlx0 ⊢
  rw [show (w.heap.size ≤ w.heap.size) = (w.heap.size ≤ P1) by rw [hP1]] at hlx
  clear hP1 hP2
  go_wp2_with fail
  refine (HM.out _).mono ?_
  rintro e w1 ⟨mv, rfl, hI⟩
  obtain ⟨am, cm, rfl, _⟩ := hI.rd
  have hX := HX.out.keep hI.2; have hBR := HBR.out.keep hI.2; have hcv := HCV.out.keep hI.2 (HJ0.out.trans HJ.out); have J := HJ.out.trans hI.2
  have hto : RowB w w1 3 1 am M.length cm (il M) := .new (hI.since HJ.out)
  clear HX HBR HCV HJ HM hI
  have HX := Lib.hid hX; have HBR := Lib.hid hBR; have HCV := Lib.hid hcv; have HJ := Lib.hid J; have HTO := Lib.hid hto
  clear hX hBR hcv J hto
  go_wp2_with fail
  go_loopw [14] (fun u wr => ∃ (k : Nat) (an : Option Addr) (nas : List NA) (cn : Nat) (ag : Option Addr) (cg : Nat) (L : List Ct), k ≤ M.length ∧ u = .int .i64 k ∧ Blk wr P1 32 #[.int .i64 n, .int .u16 (sv byz), .int .i64 so, .slice an nas.length cn, .slice ag L.length cg] ∧ Blk wr P2 32 #[.int .i64 0, .int .u16 0, .int .i64 0, .slice none 0 0, .slice none 0 0] ∧ HasB w0 wr ⟨n, byz, so, ⟨nodes, L⟩⟩ (.agg #[.int .i64 n, .int .u16 (sv byz), .int .i64 so, .slice an nas.length cn, .slice ag L.length cg]) ∧ Keeps w wr ∧ RowB w wr 3 1 am M.length cm (il M) ∧ Hid (L = F0 ++ sayP M 1 so v k) ∧ Hid (L.length ≤ F0.length + k)) (fun u _ => M.length - (RowKit.intOf u).toNat)
  case atStart => exact ⟨0, an, nas, cn, ag, cg, F0, Nat.zero_le _, rfl, HX.out, HBR.out, HCV.out, HJ.out, HTO.out, Lib.hid (by simp [sayP]), Lib.hid (by omega)⟩
  case round =>
    clear HX HBR HCV HJ HTO
    obtain ⟨k, an, nas, cn, ag, cg, L, hk, rfl, hX, hBR, hcv, J, hto, HL, HLB⟩ := hrel
    by_cases hlt : k < M.length
    · skip
      have hao := hto.1.isSome (by omega)
      have HSUC := Lib.hid (sayP_succ M 1 so v k hlt)
      have hq := il_at M k hlt
      generalize im M k = d at *
      have HPL : Hid (putL n byz [(⟨1, so, (d : Int), v⟩ : Ct)] = [⟨1, so, (d : Int), v⟩]) := Lib.hid (by unfold putL putC; rw [List.flatMap_cons, List.flatMap_nil, List.append_nil, if_pos (show (0 : Int) ≤ (d : Int) by omega)])
      have HX := Lib.hid hX; have HBR := Lib.hid hBR; have HCV := Lib.hid hcv; have HJ := Lib.hid J; have HTO := Lib.hid hto
      clear hX hBR hcv J hto
      go_upto_region 5 with fail
      have kd := (Keeps.refl wr).drew
      have hX := HX.out.keep kd; have hBR := HBR.out.keep kd; have hcv := HCV.out.keep kd (HJ0.out.trans HJ.out); have J := HJ.out.trans kd; have hto := HTO.out.keep kd
      clear kd HX HBR HCV HJ HTO
      refine wp_region_held_drew (S := (fun w' => w'.cell? ⟨P1, 2, none⟩ = some (.int .i64 so) ∧ w'.cell? (adr am k) = some (.int .i64 d))) (by kernel_rfl) ?_ (fun hHeld => ?_)
      · exact ⟨hX.cell 2 rfl, hto.1.cell k _ hq⟩
      generalize wr.drew = V0 at *
      refine wpAnyH_take (i := 1) (oi := ⟨_, _, _, _, _, _⟩) (v := ?_) rfl (by kernel_rfl) (by kernel_rfl) (by kernel_rfl) (fun _ _ _ h => h) (Or.inl ⟨by rfl, ?_⟩) (by assumption) ?_
      rotate_left 1
      · intro w hSw; (try dsimp only at hSw); go_simp <;> with_reducible rfl
      (try simp only [Act.put]); (try simp only [List.setIfInBounds_toArray]); (try simp only [List.set_cons_succ]); (try simp only [List.set_cons_zero])
      refine wpAnyH_take (i := 2) (oi := ⟨_, _, _, _, _, _⟩) (v := ?_) rfl (by kernel_rfl) (by kernel_rfl) (by kernel_rfl) (fun _ _ _ h => h) (Or.inl ⟨by rfl, ?_⟩) (by assumption) ?_
      rotate_left 1
      · intro w hSw; (try dsimp only at hSw); go_simp <;> with_reducible rfl
      (try simp only [Act.put]); (try simp only [List.setIfInBounds_toArray]); (try simp only [List.set_cons_succ]); (try simp only [List.set_cons_zero])
      refine wpAnyH_take (i := 3) (oi := ⟨_, _, _, _, _, _⟩) (v := ?_) rfl (by kernel_rfl) (by kernel_rfl) (by kernel_rfl) (fun _ _ _ h => h) (Or.inl ⟨by rfl, ?_⟩) (by assumption) ?_
      rotate_left 1
      · intro w hSw; (try dsimp only at hSw); go_simp <;> with_reducible rfl
      (try simp only [Act.put]); (try simp only [List.setIfInBounds_toArray]); (try simp only [List.set_cons_succ]); (try simp only [List.set_cons_zero])
      refine wpAnyH_take (i := 4) (oi := ⟨_, _, _, _, _, _⟩) (v := ?_) rfl (by kernel_rfl) (by kernel_rfl) (by kernel_rfl) (fun _ _ _ h => h) (Or.inl ⟨by rfl, ?_⟩) (by assumption) ?_
      rotate_left 1
      · intro w hSw; (try dsimp only at hSw); go_simp <;> with_reducible rfl
      (try simp only [Act.put]); (try simp only [List.setIfInBounds_toArray]); (try simp only [List.set_cons_succ]); (try simp only [List.set_cons_zero])
      refine wpAnyH_take (i := 5) (oi := ⟨_, _, _, _, _, _⟩) (v := ?_) rfl (by kernel_rfl) (by kernel_rfl) (by kernel_rfl) (fun _ _ _ h => h) (Or.inl ⟨by rfl, ?_⟩) (by assumption) ?_
      rotate_left 1
      · intro w hSw; (try dsimp only at hSw); go_simp <;> with_reducible rfl
      (try simp only [Act.put]); (try simp only [List.setIfInBounds_toArray]); (try simp only [List.set_cons_succ]); (try simp only [List.set_cons_zero])
      refine wpAnyH_take (i := 6) (oi := ⟨_, _, _, _, _, _⟩) (v := ?_) rfl (by kernel_rfl) (by kernel_rfl) (by kernel_rfl) (fun _ _ _ h => h) (Or.inl ⟨by rfl, ?_⟩) (by assumption) ?_
      rotate_left 1
      · intro w hSw; (try dsimp only at hSw); go_simp <;> with_reducible rfl
      (try simp only [Act.put]); (try simp only [List.setIfInBounds_toArray]); (try simp only [List.set_cons_succ]); (try simp only [List.set_cons_zero])
      refine wpAnyH_take (i := 7) (oi := ⟨_, _, _, _, _, _⟩) (v := ?_) rfl (by kernel_rfl) (by kernel_rfl) (by kernel_rfl) (fun _ _ _ h => h) (Or.inl ⟨by rfl, ?_⟩) (by assumption) ?_
      rotate_left 1
      · intro w hSw; (try dsimp only at hSw); go_simp <;> with_reducible rfl
      (try simp only [Act.put]); (try simp only [List.setIfInBounds_toArray]); (try simp only [List.set_cons_succ]); (try simp only [List.set_cons_zero])
      refine wpAnyH_take (i := 8) (oi := ⟨_, _, _, _, _, _⟩) (v := ?_) rfl (by kernel_rfl) (by kernel_rfl) (by kernel_rfl) (fun _ _ _ h => h) (Or.inl ⟨by rfl, ?_⟩) (by assumption) ?_
      rotate_left 1
      · intro w hSw; (try dsimp only at hSw); go_simp <;> with_reducible rfl
      (try simp only [Act.put]); (try simp only [List.setIfInBounds_toArray]); (try simp only [List.set_cons_succ]); (try simp only [List.set_cons_zero])
      refine wpAnyH_ready (rs := [0, 9]) (by kernel_rfl) (by simp) ?_
      refine AllReadyH.cons (o := ⟨_, _, _, _, _, _⟩) rfl (fun K hK => ?_) (AllReadyH.cons (o := ⟨_, _, _, _, _, _⟩) rfl (fun K hK => ?_) AllReadyH.nil)
      · obtain ⟨y0, y1, y2, y3, y4⟩ := Go.Proofs.YtbcfkgolhklkaaaDoor.c5 hX
        go_simp
        clear y0 y1 y2 y3 y4
        refine hK.out _ _ ?_ (fun hHeld => ?_)
        · exact ⟨hX.cell 2 rfl, hto.1.cell k _ hq⟩
        clear hK K
        (try simp only [Act.put]); (try simp only [List.setIfInBounds_toArray]); (try simp only [List.set_cons_succ]); (try simp only [List.set_cons_zero])
        refine wpAnyH_ready (rs := [9]) (by kernel_rfl) (by simp) ?_
        refine AllReadyH.cons (o := ⟨_, _, _, _, _, _⟩) rfl (fun K hK => ?_) AllReadyH.nil
        go_simp
        have r1 : Rd (V0.alloc (.cells #[.int .i64 1, .int .i64 so, .int .i64 d, .string v] 53)) (some ⟨V0.heap.size, 0, none⟩) 1 1 4 (cl [(⟨1, so, (d : Int), v⟩ : Ct)]) := rd_new 53 4 V0 _ 1 (by decide) rfl
        have kA := (Keeps.refl V0).alloc (.cells #[.int .i64 1, .int .i64 so, .int .i64 d, .string v] 53)
        replace hX := hX.keep kA; replace hBR := hBR.keep kA; replace hcv := hcv.keep kA (HJ0.out.trans J); replace J := J.trans kA
        replace hto := hto.keep kA
        clear kA
        generalize V0.alloc (.cells #[.int .i64 1, .int .i64 so, .int .i64 d, .string v] 53) = V1 at *
        generalize V0.heap.size = BQ at *
        refine hK.out _ _ ?_ (fun hHeld => ?_)
        · exact ⟨hX.cell 2 rfl, hto.1.cell k _ hq⟩
        clear hK K
        (try simp only [Act.put]); (try simp only [List.setIfInBounds_toArray]); (try simp only [List.set_cons_succ]); (try simp only [List.set_cons_zero])
        refine wpAnyH_ready (rs := [10]) (by kernel_rfl) (by simp) ?_
        refine AllReadyH.cons (o := ⟨_, _, _, _, _, _⟩) rfl (fun K hK => ?_) AllReadyH.nil
        go_simp
        have hput := rputB_any n (by omega) ⟨n, byz, so, ⟨nodes, L⟩⟩ rfl _ _ _ [(⟨1, so, (d : Int), v⟩ : Ct)] w0 V1 (HJ0.out.trans J) hcv r1 (by have := HLB.out; have := HF0.out; dsimp only; omega) (by simp)
        dsimp only at hput
        rw [HPL.out] at hput
        have HPUT := Lib.hid hput
        clear hput
        refine HPUT.out.mono ?_
        rintro e V2 ⟨v9, rfl, hcv9, k9⟩
        clear HPUT
        replace hcv := hcv9
        clear hcv9
        replace hX := hX.keep k9
        replace hBR := hBR.keep k9
        replace J := J.trans k9
        replace hto := hto.keep k9
        clear k9 r1
        have hcv0 := hcv
        obtain ⟨an9, cn9, nas9, ag9, cg9, rfl, _, _, _, _⟩ := hcv0
        unfold vCast at hcv ⊢
        obtain ⟨L', hL'⟩ : ∃ L', L' = L ++ [(⟨1, so, (d : Int), v⟩ : Ct)] := ⟨_, rfl⟩
        dsimp only at hcv ⊢
        rw [← hL'] at hcv ⊢
        have HL' := Lib.hid hL'
        clear hL'
        refine hK.out _ _ ?_ (fun hHeld => ?_)
        · exact ⟨hX.cell 2 rfl, hto.1.cell k _ hq⟩
        clear hK K
        (try simp only [Act.put]); (try simp only [List.setIfInBounds_toArray]); (try simp only [List.set_cons_succ]); (try simp only [List.set_cons_zero])
        refine wpAnyH_ready (rs := [11]) (by kernel_rfl) (by simp) ?_
        refine AllReadyH.cons (o := ⟨_, _, _, _, _, _⟩) rfl (fun K hK => ?_) AllReadyH.nil
        obtain ⟨y0, y1, y2, y3, y4⟩ := Go.Proofs.YtbcfkgolhklkaaaDoor.c5 hX
        obtain ⟨g0, g1, g2, g3, g4⟩ := f5 hX
        go_simp
        clear y0 y1 y2 y3 y4 g0 g1 g2 g3 g4
        replace hcv := hcv.st5 hX hlx0 (HJ0.out.trans J) (.int .i64 n) (.int .u16 (sv byz)) (.int .i64 so) (.slice an9 nas9.length cn9) (.slice ag9 L'.length cg9)
        replace hBR := st5_oth hBR (Ne.symm n12) (.int .i64 n) (.int .u16 (sv byz)) (.int .i64 so) (.slice an9 nas9.length cn9) (.slice ag9 L'.length cg9)
        replace hto := hto.st5 hX (by decide) hlx J (.int .i64 n) (.int .u16 (sv byz)) (.int .i64 so) (.slice an9 nas9.length cn9) (.slice ag9 L'.length cg9)
        have hX9 := set5 hX (.int .i64 n) (.int .u16 (sv byz)) (.int .i64 so) (.slice an9 nas9.length cn9) (.slice ag9 L'.length cg9)
        replace J := keeps_set5 J hlx (.int .i64 n) (.int .u16 (sv byz)) (.int .i64 so) (.slice an9 nas9.length cn9) (.slice ag9 L'.length cg9)
        replace hX := hX9
        clear hX9
        unfold st5 at hX hBR hcv J hto
        generalize ((((V2.setCell ⟨P1, 0, none⟩ (.int .i64 n)).setCell ⟨P1, 1, none⟩ (.int .u16 (sv byz))).setCell ⟨P1, 2, none⟩ (.int .i64 so)).setCell ⟨P1, 3, none⟩ (.slice an9 nas9.length cn9)).setCell ⟨P1, 4, none⟩ (.slice ag9 L'.length cg9) = VF at *
        refine hK.out _ _ ?_ (fun hHeld => ?_)
        · exact ⟨hX.cell 2 rfl, hto.1.cell k _ hq⟩
        clear hK K
        (try simp only [Act.put]); (try simp only [List.setIfInBounds_toArray]); (try simp only [List.set_cons_succ]); (try simp only [List.set_cons_zero])
        refine wpAnyH_done (by kernel_rfl) ?_ _
        have HX := Lib.hid hX; have HBR := Lib.hid hBR; have HCV := Lib.hid hcv; have HJ := Lib.hid J; have HTO := Lib.hid hto
        clear hX hBR hcv J hto
        go_wp2_with fail
        go_roundw
        case rel => exact ⟨k + 1, an9, nas9, cn9, ag9, cg9, L', by omega, by go_num, HX.out, HBR.out, HCV.out, HJ.out, HTO.out, Lib.hid (by rw [HL'.out, HL.out, HSUC.out, List.append_assoc]), Lib.hid (by rw [HL'.out, List.length_append, List.length_singleton]; have := HLB.out; omega)⟩
        case measure => simp [RowKit.intOf]; omega
      · go_simp
        have r1 : Rd (V0.alloc (.cells #[.int .i64 1, .int .i64 so, .int .i64 d, .string v] 53)) (some ⟨V0.heap.size, 0, none⟩) 1 1 4 (cl [(⟨1, so, (d : Int), v⟩ : Ct)]) := rd_new 53 4 V0 _ 1 (by decide) rfl
        have kA := (Keeps.refl V0).alloc (.cells #[.int .i64 1, .int .i64 so, .int .i64 d, .string v] 53)
        replace hX := hX.keep kA; replace hBR := hBR.keep kA; replace hcv := hcv.keep kA (HJ0.out.trans J); replace J := J.trans kA
        replace hto := hto.keep kA
        clear kA
        generalize V0.alloc (.cells #[.int .i64 1, .int .i64 so, .int .i64 d, .string v] 53) = V3 at *
        generalize V0.heap.size = BQ at *
        refine hK.out _ _ ?_ (fun hHeld => ?_)
        · exact ⟨hX.cell 2 rfl, hto.1.cell k _ hq⟩
        clear hK K
        (try simp only [Act.put]); (try simp only [List.setIfInBounds_toArray]); (try simp only [List.set_cons_succ]); (try simp only [List.set_cons_zero])
        refine wpAnyH_ready (rs := [0]) (by kernel_rfl) (by simp) ?_
        refine AllReadyH.cons (o := ⟨_, _, _, _, _, _⟩) rfl (fun K hK => ?_) AllReadyH.nil
        obtain ⟨y0, y1, y2, y3, y4⟩ := Go.Proofs.YtbcfkgolhklkaaaDoor.c5 hX
        go_simp
        clear y0 y1 y2 y3 y4
        refine hK.out _ _ ?_ (fun hHeld => ?_)
        · exact ⟨hX.cell 2 rfl, hto.1.cell k _ hq⟩
        clear hK K
        (try simp only [Act.put]); (try simp only [List.setIfInBounds_toArray]); (try simp only [List.set_cons_succ]); (try simp only [List.set_cons_zero])
        refine wpAnyH_ready (rs := [10]) (by kernel_rfl) (by simp) ?_
        refine AllReadyH.cons (o := ⟨_, _, _, _, _, _⟩) rfl (fun K hK => ?_) AllReadyH.nil
        go_simp
        have hput := rputB_any n (by omega) ⟨n, byz, so, ⟨nodes, L⟩⟩ rfl _ _ _ [(⟨1, so, (d : Int), v⟩ : Ct)] w0 V3 (HJ0.out.trans J) hcv r1 (by have := HLB.out; have := HF0.out; dsimp only; omega) (by simp)
        dsimp only at hput
        rw [HPL.out] at hput
        have HPUT := Lib.hid hput
        clear hput
        refine HPUT.out.mono ?_
        rintro e V4 ⟨v9, rfl, hcv9, k9⟩
        clear HPUT
        replace hcv := hcv9
        clear hcv9
        replace hX := hX.keep k9
        replace hBR := hBR.keep k9
        replace J := J.trans k9
        replace hto := hto.keep k9
        clear k9 r1
        have hcv0 := hcv
        obtain ⟨an9, cn9, nas9, ag9, cg9, rfl, _, _, _, _⟩ := hcv0
        unfold vCast at hcv ⊢
        obtain ⟨L', hL'⟩ : ∃ L', L' = L ++ [(⟨1, so, (d : Int), v⟩ : Ct)] := ⟨_, rfl⟩
        dsimp only at hcv ⊢
        rw [← hL'] at hcv ⊢
        have HL' := Lib.hid hL'
        clear hL'
        refine hK.out _ _ ?_ (fun hHeld => ?_)
        · exact ⟨hX.cell 2 rfl, hto.1.cell k _ hq⟩
        clear hK K
        (try simp only [Act.put]); (try simp only [List.setIfInBounds_toArray]); (try simp only [List.set_cons_succ]); (try simp only [List.set_cons_zero])
        refine wpAnyH_ready (rs := [11]) (by kernel_rfl) (by simp) ?_
        refine AllReadyH.cons (o := ⟨_, _, _, _, _, _⟩) rfl (fun K hK => ?_) AllReadyH.nil
        obtain ⟨y0, y1, y2, y3, y4⟩ := Go.Proofs.YtbcfkgolhklkaaaDoor.c5 hX
        obtain ⟨g0, g1, g2, g3, g4⟩ := f5 hX
        go_simp
        clear y0 y1 y2 y3 y4 g0 g1 g2 g3 g4
        replace hcv := hcv.st5 hX hlx0 (HJ0.out.trans J) (.int .i64 n) (.int .u16 (sv byz)) (.int .i64 so) (.slice an9 nas9.length cn9) (.slice ag9 L'.length cg9)
        replace hBR := st5_oth hBR (Ne.symm n12) (.int .i64 n) (.int .u16 (sv byz)) (.int .i64 so) (.slice an9 nas9.length cn9) (.slice ag9 L'.length cg9)
        replace hto := hto.st5 hX (by decide) hlx J (.int .i64 n) (.int .u16 (sv byz)) (.int .i64 so) (.slice an9 nas9.length cn9) (.slice ag9 L'.length cg9)
        have hX9 := set5 hX (.int .i64 n) (.int .u16 (sv byz)) (.int .i64 so) (.slice an9 nas9.length cn9) (.slice ag9 L'.length cg9)
        replace J := keeps_set5 J hlx (.int .i64 n) (.int .u16 (sv byz)) (.int .i64 so) (.slice an9 nas9.length cn9) (.slice ag9 L'.length cg9)
        replace hX := hX9
        clear hX9
        unfold st5 at hX hBR hcv J hto
        generalize ((((V4.setCell ⟨P1, 0, none⟩ (.int .i64 n)).setCell ⟨P1, 1, none⟩ (.int .u16 (sv byz))).setCell ⟨P1, 2, none⟩ (.int .i64 so)).setCell ⟨P1, 3, none⟩ (.slice an9 nas9.length cn9)).setCell ⟨P1, 4, none⟩ (.slice ag9 L'.length cg9) = VF at *
        refine hK.out _ _ ?_ (fun hHeld => ?_)
        · exact ⟨hX.cell 2 rfl, hto.1.cell k _ hq⟩
        clear hK K
        (try simp only [Act.put]); (try simp only [List.setIfInBounds_toArray]); (try simp only [List.set_cons_succ]); (try simp only [List.set_cons_zero])
        refine wpAnyH_done (by kernel_rfl) ?_ _
        have HX := Lib.hid hX; have HBR := Lib.hid hBR; have HCV := Lib.hid hcv; have HJ := Lib.hid J; have HTO := Lib.hid hto
        clear hX hBR hcv J hto
        go_wp2_with fail
        go_roundw
        case rel => exact ⟨k + 1, an9, nas9, cn9, ag9, cg9, L', by omega, by go_num, HX.out, HBR.out, HCV.out, HJ.out, HTO.out, Lib.hid (by rw [HL'.out, HL.out, HSUC.out, List.append_assoc]), Lib.hid (by rw [HL'.out, List.length_append, List.length_singleton]; have := HLB.out; omega)⟩
        case measure => simp [RowKit.intOf]; omega
    · have HL1 : Hid (L = F0 ++ sayL A 1 so v) := Lib.hid (by rw [HL.out, HSA.out 1 so k (by omega)])
      have HLB1 : Hid (L.length ≤ F0.length + 16) := Lib.hid (by have := HLB.out; omega)
      clear HL HLB
      have y1 := hX.cell 1 (v := .int .u16 (sv byz)) rfl
      have HX := Lib.hid hX; have HBR := Lib.hid hBR; have HCV := Lib.hid hcv; have HJ := Lib.hid J; have HTO := Lib.hid hto
      clear hX hBR hcv J hto
      go_wp2_with fail
      refine (HMQ.out _).mono ?_
      rintro e w2 ⟨mv2, rfl, hI⟩
      obtain ⟨am2, cm2, rfl, _⟩ := hI.rd
      have hX := HX.out.keep hI.2; have hBR := HBR.out.keep hI.2; have hcv := HCV.out.keep hI.2 (HJ0.out.trans HJ.out); have J := HJ.out.trans hI.2; have hto := HTO.out.keep hI.2
      have hm2 : RowB w w2 3 1 am2 M2.length cm2 (il M2) := .new (hI.since HJ.out)
      clear HX HBR HCV HJ HTO HMQ hI y1
      have HX := Lib.hid hX; have HBR := Lib.hid hBR; have HCV := Lib.hid hcv; have HJ := Lib.hid J; have HTO := Lib.hid hto; have HM2 := Lib.hid hm2
      clear hX hBR hcv J hto hm2
      obtain ⟨F1, hF1⟩ : ∃ F1, F1 = L := ⟨_, rfl⟩
      rw [← hF1] at HX HCV HL1 HLB1
      clear hF1
      go_wp2_with fail
      go_loopw [16] (fun u wr => ∃ (kd : Nat) (an : Option Addr) (nas : List NA) (cn : Nat) (ag : Option Addr) (cg : Nat) (L : List Ct), 2 ≤ kd ∧ kd ≤ 4 ∧ u = .int .i64 kd ∧ Blk wr P1 32 #[.int .i64 n, .int .u16 (sv byz), .int .i64 so, .slice an nas.length cn, .slice ag L.length cg] ∧ Blk wr P2 32 #[.int .i64 0, .int .u16 0, .int .i64 0, .slice none 0 0, .slice none 0 0] ∧ HasB w0 wr ⟨n, byz, so, ⟨nodes, L⟩⟩ (.agg #[.int .i64 n, .int .u16 (sv byz), .int .i64 so, .slice an nas.length cn, .slice ag L.length cg]) ∧ Keeps w wr ∧ RowB w wr 3 1 am M.length cm (il M) ∧ RowB w wr 3 1 am2 M2.length cm2 (il M2) ∧ Hid (L = F1 ++ kndP A p byz v (kd - 2)) ∧ Hid (L.length + 512 ≤ F0.length + 16 + 256 * kd)) (fun u _ => 4 - (RowKit.intOf u).toNat)
      case atStart => exact ⟨2, an, nas, cn, ag, cg, F1, by omega, by omega, rfl, HX.out, HBR.out, HCV.out, HJ.out, HTO.out, HM2.out, Lib.hid (by simp [kndP]), Lib.hid (by have := HLB1.out; omega)⟩
      case round =>
        clear HX HBR HCV HJ HTO HM2
        obtain ⟨kd, an, nas, cn, ag, cg, L, hk1, hk2, rfl, hX, hBR, hcv, J, hto, hm2, HL, HLB⟩ := hrel
        by_cases hlk : kd < 4
        · have HKS := Lib.hid (HKN.out (kd - 2) (by omega))
          have HKI : Hid (im [2, 3] (kd - 2) = kd) := Lib.hid (by rcases (by omega : kd = 2 ∨ kd = 3) with rfl | rfl <;> rfl)
          have hki : (kd : Int) ≤ 3 := by omega
          have HX := Lib.hid hX; have HBR := Lib.hid hBR; have HCV := Lib.hid hcv; have HJ := Lib.hid J; have HTO := Lib.hid hto; have HM2 := Lib.hid hm2
          clear hX hBR hcv J hto hm2
          obtain ⟨F2, hF2⟩ : ∃ F2, F2 = L := ⟨_, rfl⟩
          rw [← hF2] at HX HCV HL HLB
          have HL2 := HL; have HLB2 := HLB
          clear hF2 HL HLB
          go_wp2_with fail
          go_loopw [17] (fun u wr => ∃ (i : Nat) (an : Option Addr) (nas : List NA) (cn : Nat) (ag : Option Addr) (cg : Nat) (L : List Ct), i ≤ M2.length ∧ u = .int .i64 i ∧ Blk wr P1 32 #[.int .i64 n, .int .u16 (sv byz), .int .i64 so, .slice an nas.length cn, .slice ag L.length cg] ∧ Blk wr P2 32 #[.int .i64 0, .int .u16 0, .int .i64 0, .slice none 0 0, .slice none 0 0] ∧ HasB w0 wr ⟨n, byz, so, ⟨nodes, L⟩⟩ (.agg #[.int .i64 n, .int .u16 (sv byz), .int .i64 so, .slice an nas.length cn, .slice ag L.length cg]) ∧ Keeps w wr ∧ RowB w wr 3 1 am M.length cm (il M) ∧ RowB w wr 3 1 am2 M2.length cm2 (il M2) ∧ Hid (L = F2 ++ inP A v kd (M2.take i)) ∧ Hid (L.length ≤ F2.length + 16 * i)) (fun u _ => M2.length - (RowKit.intOf u).toNat)
          case atStart => exact ⟨0, an, nas, cn, ag, cg, F2, Nat.zero_le _, rfl, HX.out, HBR.out, HCV.out, HJ.out, HTO.out, HM2.out, Lib.hid (by simp [inP]), Lib.hid (by omega)⟩
          case round =>
            clear HX HBR HCV HJ HTO HM2
            obtain ⟨i, an, nas, cn, ag, cg, L, hi, rfl, hX, hBR, hcv, J, hto, hm2, HL, HLB⟩ := hrel
            by_cases hli : i < M2.length
            · have HIS := Lib.hid (inP_succ A v kd M2 i hli)
              have hqs := il_at M2 i hli
              generalize im M2 i = s at *
              have HX := Lib.hid hX; have HBR := Lib.hid hBR; have HCV := Lib.hid hcv; have HJ := Lib.hid J; have HTO := Lib.hid hto; have HM2 := Lib.hid hm2
              clear hX hBR hcv J hto hm2
              obtain ⟨F3, hF3⟩ : ∃ F3, F3 = L := ⟨_, rfl⟩
              rw [← hF3] at HX HCV HL HLB
              have HL3 := HL; have HLB3 := HLB
              clear hF3 HL HLB
              go_wp2_with fail
              go_loopw [18] (fun u wr => ∃ (k : Nat) (an : Option Addr) (nas : List NA) (cn : Nat) (ag : Option Addr) (cg : Nat) (L : List Ct), k ≤ M.length ∧ u = .int .i64 k ∧ Blk wr P1 32 #[.int .i64 n, .int .u16 (sv byz), .int .i64 so, .slice an nas.length cn, .slice ag L.length cg] ∧ Blk wr P2 32 #[.int .i64 0, .int .u16 0, .int .i64 0, .slice none 0 0, .slice none 0 0] ∧ HasB w0 wr ⟨n, byz, so, ⟨nodes, L⟩⟩ (.agg #[.int .i64 n, .int .u16 (sv byz), .int .i64 so, .slice an nas.length cn, .slice ag L.length cg]) ∧ Keeps w wr ∧ RowB w wr 3 1 am M.length cm (il M) ∧ RowB w wr 3 1 am2 M2.length cm2 (il M2) ∧ Hid (L = F3 ++ sayP M kd s v k) ∧ Hid (L.length ≤ F3.length + k ∧ F3.length ≤ 3000)) (fun u _ => M.length - (RowKit.intOf u).toNat)
              case atStart => exact ⟨0, an, nas, cn, ag, cg, F3, Nat.zero_le _, rfl, HX.out, HBR.out, HCV.out, HJ.out, HTO.out, HM2.out, Lib.hid (by simp [sayP]), Lib.hid (by have h1 := HLB3.out; have h2 := HLB2.out; have h3 := HF0.out; omega)⟩
              case round =>
                clear HX HBR HCV HJ HTO HM2
                obtain ⟨k, an, nas, cn, ag, cg, L, hk, rfl, hX, hBR, hcv, J, hto, hm2, HL, HLB⟩ := hrel
                by_cases hlt : k < M.length
                · skip
                  have hao := hto.1.isSome (by omega)
                  have hao2 := hm2.1.isSome (by omega)
                  have HSUC := Lib.hid (sayP_succ M kd s v k hlt)
                  have hq := il_at M k hlt
                  generalize im M k = d at *
                  have HPL : Hid (putL n byz [(⟨kd, s, (d : Int), v⟩ : Ct)] = [⟨kd, s, (d : Int), v⟩]) := Lib.hid (by unfold putL putC; rw [List.flatMap_cons, List.flatMap_nil, List.append_nil, if_pos (show (0 : Int) ≤ (d : Int) by omega)])
                  have HX := Lib.hid hX; have HBR := Lib.hid hBR; have HCV := Lib.hid hcv; have HJ := Lib.hid J; have HTO := Lib.hid hto; have HM2 := Lib.hid hm2
                  clear hX hBR hcv J hto hm2
                  go_upto_region 16 with fail
                  have kd := (Keeps.refl wr).drew
                  have hX := HX.out.keep kd; have hBR := HBR.out.keep kd; have hcv := HCV.out.keep kd (HJ0.out.trans HJ.out); have J := HJ.out.trans kd; have hto := HTO.out.keep kd; have hm2 := HM2.out.keep kd
                  clear kd HX HBR HCV HJ HTO HM2
                  refine wp_region_held_drew (S := (fun w' => w'.cell? (adr am2 i) = some (.int .i64 s) ∧ w'.cell? (adr am k) = some (.int .i64 d))) (by kernel_rfl) ?_ (fun hHeld => ?_)
                  · exact ⟨hm2.1.cell i _ hqs, hto.1.cell k _ hq⟩
                  generalize wr.drew = V0 at *
                  refine wpAnyH_take (i := 1) (oi := ⟨_, _, _, _, _, _⟩) (v := ?_) rfl (by kernel_rfl) (by kernel_rfl) (by kernel_rfl) (fun _ _ _ h => h) (Or.inl ⟨by rfl, ?_⟩) (by assumption) ?_
                  rotate_left 1
                  · intro w hSw; (try dsimp only at hSw); go_simp <;> with_reducible rfl
                  (try simp only [Act.put]); (try simp only [List.setIfInBounds_toArray]); (try simp only [List.set_cons_succ]); (try simp only [List.set_cons_zero])
                  refine wpAnyH_take (i := 2) (oi := ⟨_, _, _, _, _, _⟩) (v := ?_) rfl (by kernel_rfl) (by kernel_rfl) (by kernel_rfl) (fun _ _ _ h => h) (Or.inl ⟨by rfl, ?_⟩) (by assumption) ?_
                  rotate_left 1
                  · intro w hSw; (try dsimp only at hSw); go_simp <;> with_reducible rfl
                  (try simp only [Act.put]); (try simp only [List.setIfInBounds_toArray]); (try simp only [List.set_cons_succ]); (try simp only [List.set_cons_zero])
                  refine wpAnyH_take (i := 3) (oi := ⟨_, _, _, _, _, _⟩) (v := ?_) rfl (by kernel_rfl) (by kernel_rfl) (by kernel_rfl) (fun _ _ _ h => h) (Or.inl ⟨by rfl, ?_⟩) (by assumption) ?_
                  rotate_left 1
                  · intro w hSw; (try dsimp only at hSw); go_simp <;> with_reducible rfl
                  (try simp only [Act.put]); (try simp only [List.setIfInBounds_toArray]); (try simp only [List.set_cons_succ]); (try simp only [List.set_cons_zero])
                  refine wpAnyH_take (i := 4) (oi := ⟨_, _, _, _, _, _⟩) (v := ?_) rfl (by kernel_rfl) (by kernel_rfl) (by kernel_rfl) (fun _ _ _ h => h) (Or.inl ⟨by rfl, ?_⟩) (by assumption) ?_
                  rotate_left 1
                  · intro w hSw; (try dsimp only at hSw); go_simp <;> with_reducible rfl
                  (try simp only [Act.put]); (try simp only [List.setIfInBounds_toArray]); (try simp only [List.set_cons_succ]); (try simp only [List.set_cons_zero])
                  refine wpAnyH_take (i := 5) (oi := ⟨_, _, _, _, _, _⟩) (v := ?_) rfl (by kernel_rfl) (by kernel_rfl) (by kernel_rfl) (fun _ _ _ h => h) (Or.inl ⟨by rfl, ?_⟩) (by assumption) ?_
                  rotate_left 1
                  · intro w hSw; (try dsimp only at hSw); go_simp <;> with_reducible rfl
                  (try simp only [Act.put]); (try simp only [List.setIfInBounds_toArray]); (try simp only [List.set_cons_succ]); (try simp only [List.set_cons_zero])
                  refine wpAnyH_take (i := 6) (oi := ⟨_, _, _, _, _, _⟩) (v := ?_) rfl (by kernel_rfl) (by kernel_rfl) (by kernel_rfl) (fun _ _ _ h => h) (Or.inl ⟨by rfl, ?_⟩) (by assumption) ?_
                  rotate_left 1
                  · intro w hSw; (try dsimp only at hSw); go_simp <;> with_reducible rfl
                  (try simp only [Act.put]); (try simp only [List.setIfInBounds_toArray]); (try simp only [List.set_cons_succ]); (try simp only [List.set_cons_zero])
                  refine wpAnyH_take (i := 7) (oi := ⟨_, _, _, _, _, _⟩) (v := ?_) rfl (by kernel_rfl) (by kernel_rfl) (by kernel_rfl) (fun _ _ _ h => h) (Or.inl ⟨by rfl, ?_⟩) (by assumption) ?_
                  rotate_left 1
                  · intro w hSw; (try dsimp only at hSw); go_simp <;> with_reducible rfl
                  (try simp only [Act.put]); (try simp only [List.setIfInBounds_toArray]); (try simp only [List.set_cons_succ]); (try simp only [List.set_cons_zero])
                  refine wpAnyH_take (i := 8) (oi := ⟨_, _, _, _, _, _⟩) (v := ?_) rfl (by kernel_rfl) (by kernel_rfl) (by kernel_rfl) (fun _ _ _ h => h) (Or.inl ⟨by rfl, ?_⟩) (by assumption) ?_
                  rotate_left 1
                  · intro w hSw; (try dsimp only at hSw); go_simp <;> with_reducible rfl
                  (try simp only [Act.put]); (try simp only [List.setIfInBounds_toArray]); (try simp only [List.set_cons_succ]); (try simp only [List.set_cons_zero])
                  refine wpAnyH_take (i := 9) (oi := ⟨_, _, _, _, _, _⟩) (v := ?_) rfl (by kernel_rfl) (by kernel_rfl) (by kernel_rfl) (fun _ _ _ h => h) (Or.inl ⟨by rfl, ?_⟩) (by assumption) ?_
                  rotate_left 1
                  · intro w hSw; (try dsimp only at hSw); go_simp <;> with_reducible rfl
                  (try simp only [Act.put]); (try simp only [List.setIfInBounds_toArray]); (try simp only [List.set_cons_succ]); (try simp only [List.set_cons_zero])
                  refine wpAnyH_take (i := 10) (oi := ⟨_, _, _, _, _, _⟩) (v := ?_) rfl (by kernel_rfl) (by kernel_rfl) (by kernel_rfl) (fun _ _ _ h => h) (Or.inl ⟨by rfl, ?_⟩) (by assumption) ?_
                  rotate_left 1
                  · intro w hSw; (try dsimp only at hSw); go_simp <;> with_reducible rfl
                  (try simp only [Act.put]); (try simp only [List.setIfInBounds_toArray]); (try simp only [List.set_cons_succ]); (try simp only [List.set_cons_zero])
                  refine wpAnyH_take (i := 11) (oi := ⟨_, _, _, _, _, _⟩) (v := ?_) rfl (by kernel_rfl) (by kernel_rfl) (by kernel_rfl) (fun _ _ _ h => h) (Or.inl ⟨by rfl, ?_⟩) (by assumption) ?_
                  rotate_left 1
                  · intro w hSw; (try dsimp only at hSw); go_simp <;> with_reducible rfl
                  (try simp only [Act.put]); (try simp only [List.setIfInBounds_toArray]); (try simp only [List.set_cons_succ]); (try simp only [List.set_cons_zero])
                  refine wpAnyH_ready (rs := [0, 12]) (by kernel_rfl) (by simp) ?_
                  refine AllReadyH.cons (o := ⟨_, _, _, _, _, _⟩) rfl (fun K hK => ?_) (AllReadyH.cons (o := ⟨_, _, _, _, _, _⟩) rfl (fun K hK => ?_) AllReadyH.nil)
                  · obtain ⟨y0, y1, y2, y3, y4⟩ := Go.Proofs.YtbcfkgolhklkaaaDoor.c5 hX
                    go_simp
                    clear y0 y1 y2 y3 y4
                    refine hK.out _ _ ?_ (fun hHeld => ?_)
                    · exact ⟨hm2.1.cell i _ hqs, hto.1.cell k _ hq⟩
                    clear hK K
                    (try simp only [Act.put]); (try simp only [List.setIfInBounds_toArray]); (try simp only [List.set_cons_succ]); (try simp only [List.set_cons_zero])
                    refine wpAnyH_ready (rs := [12]) (by kernel_rfl) (by simp) ?_
                    refine AllReadyH.cons (o := ⟨_, _, _, _, _, _⟩) rfl (fun K hK => ?_) AllReadyH.nil
                    go_simp
                    have r1 : Rd (V0.alloc (.cells #[.int .i64 kd, .int .i64 s, .int .i64 d, .string v] 53)) (some ⟨V0.heap.size, 0, none⟩) 1 1 4 (cl [(⟨kd, s, (d : Int), v⟩ : Ct)]) := rd_new 53 4 V0 _ 1 (by decide) rfl
                    have kA := (Keeps.refl V0).alloc (.cells #[.int .i64 kd, .int .i64 s, .int .i64 d, .string v] 53)
                    replace hX := hX.keep kA; replace hBR := hBR.keep kA; replace hcv := hcv.keep kA (HJ0.out.trans J); replace J := J.trans kA
                    replace hto := hto.keep kA
                    replace hm2 := hm2.keep kA
                    clear kA
                    generalize V0.alloc (.cells #[.int .i64 kd, .int .i64 s, .int .i64 d, .string v] 53) = V1 at *
                    generalize V0.heap.size = BQ at *
                    refine hK.out _ _ ?_ (fun hHeld => ?_)
                    · exact ⟨hm2.1.cell i _ hqs, hto.1.cell k _ hq⟩
                    clear hK K
                    (try simp only [Act.put]); (try simp only [List.setIfInBounds_toArray]); (try simp only [List.set_cons_succ]); (try simp only [List.set_cons_zero])
                    refine wpAnyH_ready (rs := [13]) (by kernel_rfl) (by simp) ?_
                    refine AllReadyH.cons (o := ⟨_, _, _, _, _, _⟩) rfl (fun K hK => ?_) AllReadyH.nil
                    go_simp
                    have hput := rputB_any n (by omega) ⟨n, byz, so, ⟨nodes, L⟩⟩ rfl _ _ _ [(⟨kd, s, (d : Int), v⟩ : Ct)] w0 V1 (HJ0.out.trans J) hcv r1 (by have := HLB.out; have := HF0.out; dsimp only; omega) (by simp)
                    dsimp only at hput
                    rw [HPL.out] at hput
                    have HPUT := Lib.hid hput
                    clear hput
                    refine HPUT.out.mono ?_
                    rintro e V2 ⟨v9, rfl, hcv9, k9⟩
                    clear HPUT
                    replace hcv := hcv9
                    clear hcv9
                    replace hX := hX.keep k9
                    replace hBR := hBR.keep k9
                    replace J := J.trans k9
                    replace hto := hto.keep k9
                    replace hm2 := hm2.keep k9
                    clear k9 r1
                    have hcv0 := hcv
                    obtain ⟨an9, cn9, nas9, ag9, cg9, rfl, _, _, _, _⟩ := hcv0
                    unfold vCast at hcv ⊢
                    obtain ⟨L', hL'⟩ : ∃ L', L' = L ++ [(⟨kd, s, (d : Int), v⟩ : Ct)] := ⟨_, rfl⟩
                    dsimp only at hcv ⊢
                    rw [← hL'] at hcv ⊢
                    have HL' := Lib.hid hL'
                    clear hL'
                    refine hK.out _ _ ?_ (fun hHeld => ?_)
                    · exact ⟨hm2.1.cell i _ hqs, hto.1.cell k _ hq⟩
                    clear hK K
                    (try simp only [Act.put]); (try simp only [List.setIfInBounds_toArray]); (try simp only [List.set_cons_succ]); (try simp only [List.set_cons_zero])
                    refine wpAnyH_ready (rs := [14]) (by kernel_rfl) (by simp) ?_
                    refine AllReadyH.cons (o := ⟨_, _, _, _, _, _⟩) rfl (fun K hK => ?_) AllReadyH.nil
                    obtain ⟨y0, y1, y2, y3, y4⟩ := Go.Proofs.YtbcfkgolhklkaaaDoor.c5 hX
                    obtain ⟨g0, g1, g2, g3, g4⟩ := f5 hX
                    go_simp
                    clear y0 y1 y2 y3 y4 g0 g1 g2 g3 g4
                    replace hcv := hcv.st5 hX hlx0 (HJ0.out.trans J) (.int .i64 n) (.int .u16 (sv byz)) (.int .i64 so) (.slice an9 nas9.length cn9) (.slice ag9 L'.length cg9)
                    replace hBR := st5_oth hBR (Ne.symm n12) (.int .i64 n) (.int .u16 (sv byz)) (.int .i64 so) (.slice an9 nas9.length cn9) (.slice ag9 L'.length cg9)
                    replace hto := hto.st5 hX (by decide) hlx J (.int .i64 n) (.int .u16 (sv byz)) (.int .i64 so) (.slice an9 nas9.length cn9) (.slice ag9 L'.length cg9)
                    replace hm2 := hm2.st5 hX (by decide) hlx J (.int .i64 n) (.int .u16 (sv byz)) (.int .i64 so) (.slice an9 nas9.length cn9) (.slice ag9 L'.length cg9)
                    have hX9 := set5 hX (.int .i64 n) (.int .u16 (sv byz)) (.int .i64 so) (.slice an9 nas9.length cn9) (.slice ag9 L'.length cg9)
                    replace J := keeps_set5 J hlx (.int .i64 n) (.int .u16 (sv byz)) (.int .i64 so) (.slice an9 nas9.length cn9) (.slice ag9 L'.length cg9)
                    replace hX := hX9
                    clear hX9
                    unfold st5 at hX hBR hcv J hto hm2
                    generalize ((((V2.setCell ⟨P1, 0, none⟩ (.int .i64 n)).setCell ⟨P1, 1, none⟩ (.int .u16 (sv byz))).setCell ⟨P1, 2, none⟩ (.int .i64 so)).setCell ⟨P1, 3, none⟩ (.slice an9 nas9.length cn9)).setCell ⟨P1, 4, none⟩ (.slice ag9 L'.length cg9) = VF at *
                    refine hK.out _ _ ?_ (fun hHeld => ?_)
                    · exact ⟨hm2.1.cell i _ hqs, hto.1.cell k _ hq⟩
                    clear hK K
                    (try simp only [Act.put]); (try simp only [List.setIfInBounds_toArray]); (try simp only [List.set_cons_succ]); (try simp only [List.set_cons_zero])
                    refine wpAnyH_done (by kernel_rfl) ?_ _
                    have HX := Lib.hid hX; have HBR := Lib.hid hBR; have HCV := Lib.hid hcv; have HJ := Lib.hid J; have HTO := Lib.hid hto; have HM2 := Lib.hid hm2
                    clear hX hBR hcv J hto hm2
                    go_wp2_with fail
                    go_roundw
                    case rel => exact ⟨k + 1, an9, nas9, cn9, ag9, cg9, L', by omega, by go_num, HX.out, HBR.out, HCV.out, HJ.out, HTO.out, HM2.out, Lib.hid (by rw [HL'.out, HL.out, HSUC.out, List.append_assoc]), Lib.hid (by rw [HL'.out, List.length_append, List.length_singleton]; have := HLB.out; omega)⟩
                    case measure => simp [RowKit.intOf]; omega
                  · go_simp
                    have r1 : Rd (V0.alloc (.cells #[.int .i64 kd, .int .i64 s, .int .i64 d, .string v] 53)) (some ⟨V0.heap.size, 0, none⟩) 1 1 4 (cl [(⟨kd, s, (d : Int), v⟩ : Ct)]) := rd_new 53 4 V0 _ 1 (by decide) rfl
                    have kA := (Keeps.refl V0).alloc (.cells #[.int .i64 kd, .int .i64 s, .int .i64 d, .string v] 53)
                    replace hX := hX.keep kA; replace hBR := hBR.keep kA; replace hcv := hcv.keep kA (HJ0.out.trans J); replace J := J.trans kA
                    replace hto := hto.keep kA
                    replace hm2 := hm2.keep kA
                    clear kA
                    generalize V0.alloc (.cells #[.int .i64 kd, .int .i64 s, .int .i64 d, .string v] 53) = V3 at *
                    generalize V0.heap.size = BQ at *
                    refine hK.out _ _ ?_ (fun hHeld => ?_)
                    · exact ⟨hm2.1.cell i _ hqs, hto.1.cell k _ hq⟩
                    clear hK K
                    (try simp only [Act.put]); (try simp only [List.setIfInBounds_toArray]); (try simp only [List.set_cons_succ]); (try simp only [List.set_cons_zero])
                    refine wpAnyH_ready (rs := [0]) (by kernel_rfl) (by simp) ?_
                    refine AllReadyH.cons (o := ⟨_, _, _, _, _, _⟩) rfl (fun K hK => ?_) AllReadyH.nil
                    obtain ⟨y0, y1, y2, y3, y4⟩ := Go.Proofs.YtbcfkgolhklkaaaDoor.c5 hX
                    go_simp
                    clear y0 y1 y2 y3 y4
                    refine hK.out _ _ ?_ (fun hHeld => ?_)
                    · exact ⟨hm2.1.cell i _ hqs, hto.1.cell k _ hq⟩
                    clear hK K
                    (try simp only [Act.put]); (try simp only [List.setIfInBounds_toArray]); (try simp only [List.set_cons_succ]); (try simp only [List.set_cons_zero])
                    refine wpAnyH_ready (rs := [13]) (by kernel_rfl) (by simp) ?_
                    refine AllReadyH.cons (o := ⟨_, _, _, _, _, _⟩) rfl (fun K hK => ?_) AllReadyH.nil
                    go_simp
                    have hput := rputB_any n (by omega) ⟨n, byz, so, ⟨nodes, L⟩⟩ rfl _ _ _ [(⟨kd, s, (d : Int), v⟩ : Ct)] w0 V3 (HJ0.out.trans J) hcv r1 (by have := HLB.out; have := HF0.out; dsimp only; omega) (by simp)
                    dsimp only at hput
                    rw [HPL.out] at hput
                    have HPUT := Lib.hid hput
                    clear hput
                    refine HPUT.out.mono ?_
                    rintro e V4 ⟨v9, rfl, hcv9, k9⟩
                    clear HPUT
                    replace hcv := hcv9
                    clear hcv9
                    replace hX := hX.keep k9
                    replace hBR := hBR.keep k9
                    replace J := J.trans k9
                    replace hto := hto.keep k9
                    replace hm2 := hm2.keep k9
                    clear k9 r1
                    have hcv0 := hcv
                    obtain ⟨an9, cn9, nas9, ag9, cg9, rfl, _, _, _, _⟩ := hcv0
                    unfold vCast at hcv ⊢
                    obtain ⟨L', hL'⟩ : ∃ L', L' = L ++ [(⟨kd, s, (d : Int), v⟩ : Ct)] := ⟨_, rfl⟩
                    dsimp only at hcv ⊢
                    rw [← hL'] at hcv ⊢
                    have HL' := Lib.hid hL'
                    clear hL'
                    refine hK.out _ _ ?_ (fun hHeld => ?_)
                    · exact ⟨hm2.1.cell i _ hqs, hto.1.cell k _ hq⟩
                    clear hK K
                    (try simp only [Act.put]); (try simp only [List.setIfInBounds_toArray]); (try simp only [List.set_cons_succ]); (try simp only [List.set_cons_zero])
                    refine wpAnyH_ready (rs := [14]) (by kernel_rfl) (by simp) ?_
                    refine AllReadyH.cons (o := ⟨_, _, _, _, _, _⟩) rfl (fun K hK => ?_) AllReadyH.nil
                    obtain ⟨y0, y1, y2, y3, y4⟩ := Go.Proofs.YtbcfkgolhklkaaaDoor.c5 hX
                    obtain ⟨g0, g1, g2, g3, g4⟩ := f5 hX
                    go_simp
                    clear y0 y1 y2 y3 y4 g0 g1 g2 g3 g4
                    replace hcv := hcv.st5 hX hlx0 (HJ0.out.trans J) (.int .i64 n) (.int .u16 (sv byz)) (.int .i64 so) (.slice an9 nas9.length cn9) (.slice ag9 L'.length cg9)
                    replace hBR := st5_oth hBR (Ne.symm n12) (.int .i64 n) (.int .u16 (sv byz)) (.int .i64 so) (.slice an9 nas9.length cn9) (.slice ag9 L'.length cg9)
                    replace hto := hto.st5 hX (by decide) hlx J (.int .i64 n) (.int .u16 (sv byz)) (.int .i64 so) (.slice an9 nas9.length cn9) (.slice ag9 L'.length cg9)
                    replace hm2 := hm2.st5 hX (by decide) hlx J (.int .i64 n) (.int .u16 (sv byz)) (.int .i64 so) (.slice an9 nas9.length cn9) (.slice ag9 L'.length cg9)
                    have hX9 := set5 hX (.int .i64 n) (.int .u16 (sv byz)) (.int .i64 so) (.slice an9 nas9.length cn9) (.slice ag9 L'.length cg9)
                    replace J := keeps_set5 J hlx (.int .i64 n) (.int .u16 (sv byz)) (.int .i64 so) (.slice an9 nas9.length cn9) (.slice ag9 L'.length cg9)
                    replace hX := hX9
                    clear hX9
                    unfold st5 at hX hBR hcv J hto hm2
                    generalize ((((V4.setCell ⟨P1, 0, none⟩ (.int .i64 n)).setCell ⟨P1, 1, none⟩ (.int .u16 (sv byz))).setCell ⟨P1, 2, none⟩ (.int .i64 so)).setCell ⟨P1, 3, none⟩ (.slice an9 nas9.length cn9)).setCell ⟨P1, 4, none⟩ (.slice ag9 L'.length cg9) = VF at *
                    refine hK.out _ _ ?_ (fun hHeld => ?_)
                    · exact ⟨hm2.1.cell i _ hqs, hto.1.cell k _ hq⟩
                    clear hK K
                    (try simp only [Act.put]); (try simp only [List.setIfInBounds_toArray]); (try simp only [List.set_cons_succ]); (try simp only [List.set_cons_zero])
                    refine wpAnyH_done (by kernel_rfl) ?_ _
                    have HX := Lib.hid hX; have HBR := Lib.hid hBR; have HCV := Lib.hid hcv; have HJ := Lib.hid J; have HTO := Lib.hid hto; have HM2 := Lib.hid hm2
                    clear hX hBR hcv J hto hm2
                    go_wp2_with fail
                    go_roundw
                    case rel => exact ⟨k + 1, an9, nas9, cn9, ag9, cg9, L', by omega, by go_num, HX.out, HBR.out, HCV.out, HJ.out, HTO.out, HM2.out, Lib.hid (by rw [HL'.out, HL.out, HSUC.out, List.append_assoc]), Lib.hid (by rw [HL'.out, List.length_append, List.length_singleton]; have := HLB.out; omega)⟩
                    case measure => simp [RowKit.intOf]; omega
                · have HLE : Hid (L = F2 ++ inP A v kd (M2.take (i + 1))) := Lib.hid (by rw [HL.out, HSA.out kd s k (by omega), HL3.out, HIS.out, List.append_assoc])
                  have HLBE : Hid (L.length ≤ F2.length + 16 * (i + 1)) := Lib.hid (by have h1 := HLB.out.1; have h2 := HLB3.out; omega)
                  clear HL HLB
                  have HX := Lib.hid hX; have HBR := Lib.hid hBR; have HCV := Lib.hid hcv; have HJ := Lib.hid J; have HTO := Lib.hid hto; have HM2 := Lib.hid hm2
                  clear hX hBR hcv J hto hm2
                  go_wp2_with fail
                  go_roundw
                  case rel => exact ⟨i + 1, an, nas, cn, ag, cg, L, by omega, by go_num, HX.out, HBR.out, HCV.out, HJ.out, HTO.out, HM2.out, HLE, HLBE⟩
                  case measure => simp [RowKit.intOf]; omega
            · have HLE : Hid (L = F1 ++ kndP A p byz v (kd + 1 - 2)) := Lib.hid (by
                rw [HL.out, List.take_of_length_le (by omega), HL2.out, show kd + 1 - 2 = (kd - 2) + 1 by omega, HKS.out, HKI.out, List.append_assoc])
              have HLBE : Hid (L.length + 512 ≤ F0.length + 16 + 256 * (kd + 1)) := Lib.hid (by have h1 := HLB.out; have h2 := HLB2.out; omega)
              clear HL HLB
              have HX := Lib.hid hX; have HBR := Lib.hid hBR; have HCV := Lib.hid hcv; have HJ := Lib.hid J; have HTO := Lib.hid hto; have HM2 := Lib.hid hm2
              clear hX hBR hcv J hto hm2
              go_wp2_with fail
              go_roundw
              case rel => exact ⟨kd + 1, an, nas, cn, ag, cg, L, by omega, by omega, by go_num, HX.out, HBR.out, HCV.out, HJ.out, HTO.out, HM2.out, HLE, HLBE⟩
              case measure => simp [RowKit.intOf]; omega
        · have HLE : Hid (L = F0 ++ pushL A p byz so v) := Lib.hid (by
            rw [HL.out, HL1.out, show kd - 2 = 2 by omega, List.append_assoc, kndP_two])
          have HLBE : Hid (L.length ≤ 2600) := Lib.hid (by have h1 := HLB.out; have h2 := HF0.out; omega)
          have HRS : Hid (RS = playS f b n byz A ⟨nodes, L⟩) := Lib.hid (by rw [HSS.out, HLE.out])
          have HAO : Hid (AOk n ⟨nodes, L⟩) := Lib.hid (by rw [HLE.out]; exact HAP.out)
          have hki : ¬ (kd : Int) ≤ 3 := by omega
          clear HL HLB HLE hm2
          have HX := Lib.hid hX; have HBR := Lib.hid hBR; have HCV := Lib.hid hcv; have HJ := Lib.hid J; have HTO := Lib.hid hto
          clear hX hBR hcv J hto
          go_wp2_with fail
          go_loopg [19] (measS n ⟨nodes, L⟩ * 10000 + L.length + 1) (fun gq u wr => ∃ (at_ : Nat) (an : Option Addr) (nas : List NA) (cn : Nat) (ag : Option Addr) (cg : Nat) (st : St), at_ ≤ st.flight.length ∧ u = .int .i64 at_ ∧ Blk wr P1 32 #[.int .i64 n, .int .u16 (sv byz), .int .i64 so, .slice an nas.length cn, .slice ag st.flight.length cg] ∧ Blk wr P2 32 #[.int .i64 0, .int .u16 0, .int .i64 0, .slice none 0 0, .slice none 0 0] ∧ HasB w0 wr ⟨n, byz, so, st⟩ (.agg #[.int .i64 n, .int .u16 (sv byz), .int .i64 so, .slice an nas.length cn, .slice ag st.flight.length cg]) ∧ Keeps w wr ∧ Hid (RS = playS f b n byz A st) ∧ Hid (AOk n st) ∧ Hid (∀ i, i < at_ → inA A byz (ctA st.flight i) = false) ∧ Hid (measS n st * 10000 + (st.flight.length - at_) < gq ∧ measS n st ≤ 3000))
          case atStart => exact ⟨0, an, nas, cn, ag, cg, ⟨nodes, L⟩, Nat.zero_le _, rfl, HX.out, HBR.out, HCV.out, HJ.out, HRS, HAO, Lib.hid (fun i hi => absurd hi (by omega)), Lib.hid ⟨by dsimp only; omega, by have h1 := HAO.out.meas (by omega); have h2 := HLBE.out; dsimp only at h1; omega⟩⟩
          case round =>
            clear HX HBR HCV HJ HTO HRS HAO
            obtain ⟨at_, an, nas, cn, ag, cg, st, hat, rfl, hX, hBR, hcv, J, HRS, HAO, HNO, HME⟩ := hrel
            have hfl4 : st.flight.length ≤ 3000 := by have := HME.out.2; unfold measS at this; omega
            have y4 := hX.cell 4 (v := .slice ag st.flight.length cg) rfl
            by_cases hlt : at_ < st.flight.length
            · have rg := HasB.flr hcv
              obtain ⟨q0, q1, q2, q3⟩ := cl_at rg hlt
              have hao := rg.isSome (by omega)
              obtain ⟨d, hd, hd2⟩ := HAO.out.dst.2 _ (ctA_mem hlt)
              obtain ⟨s, hs, hs2⟩ := HAO.out.ids.2 _ (ctA_mem hlt)
              have HIN := Lib.hid (inA_bits (A := A) (byz := byz) hd hs)
              generalize hct : ctA st.flight at_ = c at *
              have HCT := Lib.hid hct
              obtain ⟨ck, cs, cd, cv⟩ := c
              dsimp only at hd hs q0 q1 q2 q3
              subst hd; subst hs
              have kA := (Keeps.refl wr).alloc (.cells #[.int .i64 ck, .int .i64 s, .int .i64 d, .string cv] 53)
              have hcB := Blk.new wr 53 #[.int .i64 ck, .int .i64 s, .int .i64 d, .string cv]
              have hX2 := hX.keep kA; have hBR2 := hBR.keep kA; have hcv2 := hcv.keep kA (HJ0.out.trans J); have J2 := J.trans kA
              have HX := Lib.hid hX2; have HBR := Lib.hid hBR2; have HCV := Lib.hid hcv2; have HJ := Lib.hid J2; have HCB := Lib.hid hcB
              clear hX hBR hcv J hX2 hBR2 hcv2 J2 hcB kA rg hct
              go_upto_region 20 with fail
              clear q0 q1 q2 q3 y4
              generalize wr.alloc (.cells #[.int .i64 ck, .int .i64 s, .int .i64 d, .string cv] 53) = w3 at *
              generalize wr.heap.size = BC at *
              have c1 := HCB.out.cell 1 (v := .int .i64 s) rfl
              have c2 := HCB.out.cell 2 (v := .int .i64 d) rfl
              have x1 := HX.out.cell 1 (v := .int .u16 (sv byz)) rfl
              have HH1 := Lib.hid (fun W => has7_any A d (by omega) W)
              have HH2 := Lib.hid (fun W => has7_any (A ||| byz) s (by omega) W)
              generalize ((A >>> d) &&& 1#16 == 1#16) = u1 at HH1 HIN
              generalize (((A ||| byz) >>> s) &&& 1#16 == 1#16) = u2 at HH2 HIN
              clear hao hd2 hs2
              cases u1 with
              | false =>
                have HNO2 : Hid (∀ i, i < at_ + 1 → inA A byz (ctA st.flight i) = false) := Lib.hid (fun i hi => by
                  by_cases hia : i < at_
                  · exact HNO.out i hia
                  · rw [show i = at_ by omega, HCT.out, HIN.out]; rfl)
                clear HH2 HNO HIN
                go_wp2_with fail
                refine (HH1.out _).mono ?_
                rintro e w' ⟨rfl, rfl⟩
                clear HH1
                go_wp2_with fail
                clear c1 c2 x1
                go_roundg (gk - 1)
                case measure => have := HME.out.1; omega
                case rel => exact ⟨at_ + 1, an, nas, cn, ag, cg, st, by omega, by go_num, HX.out, HBR.out, HCV.out, HJ.out, HRS, HAO, HNO2, Lib.hid (by have := HME.out; omega)⟩
              | true =>
                cases u2 with
                | false =>
                  have HNO2 : Hid (∀ i, i < at_ + 1 → inA A byz (ctA st.flight i) = false) := Lib.hid (fun i hi => by
                    by_cases hia : i < at_
                    · exact HNO.out i hia
                    · rw [show i = at_ by omega, HCT.out, HIN.out]; rfl)
                  clear HNO HIN
                  go_wp2_with fail
                  refine (HH1.out _).mono ?_
                  rintro e w' ⟨rfl, rfl⟩
                  clear HH1
                  go_wp2_with fail
                  refine (HH2.out _).mono ?_
                  rintro e w' ⟨rfl, rfl⟩
                  clear HH2
                  go_wp2_with fail
                  clear c1 c2 x1
                  go_roundg (gk - 1)
                  case measure => have := HME.out.1; omega
                  case rel => exact ⟨at_ + 1, an, nas, cn, ag, cg, st, by omega, by go_num, HX.out, HBR.out, HCV.out, HJ.out, HRS, HAO, HNO2, Lib.hid (by have := HME.out; omega)⟩
                | true =>
                  have HIX : Hid (idxL (inA A byz) st.flight = some at_) := Lib.hid (idxL_first HNO.out hlt (by rw [HCT.out, HIN.out]; rfl))
                  have HLT := Lib.hid hlt
                  have hdel := rdeliverB_any fa fm fc f ba bm bc b n (by omega) ⟨n, byz, so, st⟩ rfl _ at_ w0 w3 (HJ0.out.trans HJ.out) (HF.out.keep HJ.out) (HB.out.keep HJ.out) HCV.out hlt HAO.out.dst (by rw [HAO.out.dst.1]; omega) HAO.out.sm (by have h1 := HME.out.2; unfold measS at h1; dsimp only; omega)
                  have HDEL := Lib.hid hdel
                  clear HNO HIN hdel HCT
                  go_wp2_with fail
                  refine (HH1.out _).mono ?_
                  rintro e w' ⟨rfl, rfl⟩
                  clear HH1
                  go_wp2_with fail
                  refine (HH2.out _).mono ?_
                  rintro e w' ⟨rfl, rfl⟩
                  clear HH2 c1 c2 x1
                  obtain ⟨e0, e1, e2, e3, e4⟩ := Go.Proofs.YtbcfkgolhklkaaaDoor.c5 HX.out
                  go_wp2_with fail
                  refine HDEL.out.mono ?_
                  rintro e W5 ⟨v9, rfl, hcv9, k9⟩
                  (try dsimp only at hcv9)
                  obtain ⟨st9, hst9⟩ : ∃ s, s = deliv f b n byz st at_ := ⟨_, rfl⟩
                  rw [← hst9] at hcv9
                  have HST9 := Lib.hid hst9
                  have hcv0 := hcv9
                  obtain ⟨an9, cn9, nas9, ag9, cg9, rfl, _, _, _, _⟩ := hcv0
                  unfold vCast at hcv9 ⊢
                  dsimp only at hcv9 ⊢
                  have hX := HX.out.keep k9
                  have HBR2 := Lib.hid (HBR.out.keep k9); have HJ2 := Lib.hid (HJ.out.trans k9); have HC9 := Lib.hid hcv9; have HX2 := Lib.hid hX
                  clear e0 e1 e2 e3 e4 HDEL k9 hcv9 hst9
                  obtain ⟨e0, e1, e2, e3, e4⟩ := Go.Proofs.YtbcfkgolhklkaaaDoor.c5 hX
                  obtain ⟨g0, g1, g2, g3, g4⟩ := f5 hX
                  clear hX
                  go_wp2_with fail
                  clear e0 e1 e2 e3 e4 g0 g1 g2 g3 g4
                  go_roundg (gk - 1)
                  case measure => have := HME.out.1; omega
                  case rel => exact ⟨0, an9, nas9, cn9, ag9, cg9, st9, Nat.zero_le _, rfl, set5 HX2.out _ _ _ _ _, st5_oth HBR2.out (Ne.symm n12) _ _ _ _ _, HC9.out.st5 HX2.out hlx0 (HJ0.out.trans HJ2.out) _ _ _ _ _, keeps_set5 HJ2.out hlx _ _ _ _ _, Lib.hid (by rw [HRS.out, HST9.out]; exact playS_step HAO.out.dst HIX.out), Lib.hid (by rw [HST9.out]; exact HAO.out.deliv at_), Lib.hid (fun i hi => absurd hi (by omega)), Lib.hid (by rw [HST9.out]; have h1 := deliv_meas (f := f) (b := b) (n := n) (byz := byz) HLT.out (dst_at HAO.out.dst HLT.out); have h2 := HME.out; have h3 : (deliv f b n byz st at_).flight.length ≤ measS n (deliv f b n byz st at_) := Nat.le_add_right _ _; omega)⟩
            · have HND : Hid (idxL (inA A byz) st.flight = none) := Lib.hid (idxL_nil fun i hi => HNO.out i (by omega))
              have HX := Lib.hid hX; have HBR := Lib.hid hBR; have HCV := Lib.hid hcv; have HJ := Lib.hid J
              obtain ⟨d0, d1, d2, d3, d4⟩ := Go.Proofs.YtbcfkgolhklkaaaDoor.c5 hBR
              obtain ⟨g0, g1, g2, g3, g4⟩ := f5 hBR
              obtain ⟨x0, x1, x2, x3, x4⟩ := Go.Proofs.YtbcfkgolhklkaaaDoor.c5 hX
              clear hX hBR hcv J y4
              go_wp2_with fail
              clear d0 d1 d2 d3 d4 g0 g1 g2 g3 g4 x0 x1 x2 x3 x4
              refine bodyPost_ret (resC1 (n := (n : Int)) (byz := byz) (source := so) (nv := .slice an nas.length cn) (gv := .slice ag st.flight.length cg) rfl (set5 HBR.out _ _ _ _ _) rfl) rfl ?_
              have hrs : RS = st := by rw [HRS.out]; exact playS_end HND.out
              subst hrs
              exact ⟨_, rfl, HCV.out.st5 HBR.out hlr0 (HJ0.out.trans HJ.out) _ _ _ _ _, keeps_set5 HJ.out hlr _ _ _ _ _⟩
end Go.Proofs.YtbcfkgolhklkaaaDoor
