/- Texts joined into one, what is needed of them (a program of ours). -/
import Derived.Test.YtbcfkgolhklkaaaDoorEKW
import Derived.Test.YtbcfkgolhklkaaaDoorEKU
namespace Go.Proofs.YtbcfkgolhklkaaaDoor
open Go.RowKit Go.Lib Go.Shelf

/-- a row that came in, or was made since -/
def RowB (w W : World) (T : TypeId) (sz : Nat) (a : Option Addr) (n c : Nat) (xs : List Value) : Prop := Rd W a n c sz xs ∧ (Rd w a n c sz xs ∨ Own T sz w W (.slice a n c) n xs)
theorem RowB.keep {w W W' : World} {T : TypeId} {sz : Nat} {a : Option Addr} {n c : Nat} {xs : List Value} (h : RowB w W T sz a n c xs) (k : Keeps W W') : RowB w W' T sz a n c xs :=
  ⟨h.1.keep k, h.2.imp id fun o => o.keep k⟩
theorem RowB.set {w W : World} {T' : TypeId} {sz : Nat} {a : Option Addr} {n c : Nat} {xs : List Value} (h : RowB w W T' sz a n c xs) {C : Nat} {T : TypeId} {cs : Array Value} (hC : Blk W C T cs) (hT : T ≠ T') (hlo : w.heap.size ≤ C) (J : Keeps w W) (i : Nat) (u : Value) : RowB w (W.setCell ⟨C, i, none⟩ u) T' sz a n c xs := by
  rcases h.2 with h2 | h2
  · exact ⟨h2.keep (keeps_set J hlo i u), .inl h2⟩
  · have h3 := own_oth9 h2 hC hT hlo i u
    exact ⟨h3.row0.rd, .inr h3⟩
theorem RowB.st5 {w W : World} {T' : TypeId} {sz : Nat} {a : Option Addr} {n c : Nat} {xs : List Value} (h : RowB w W T' sz a n c xs) {C : Nat} {T : TypeId} {cs : Array Value} (hC : Blk W C T cs) (hT : T ≠ T') (hlo : w.heap.size ≤ C) (J : Keeps w W) (u0 u1 u2 u3 u4 : Value) : RowB w (st5 W C u0 u1 u2 u3 u4) T' sz a n c xs := by
  have b1 := hC.set 0 u0; have b2 := b1.set 1 u1; have b3 := b2.set 2 u2; have b4 := b3.set 3 u3
  have J1 := keeps_set J hlo 0 u0; have J2 := keeps_set J1 hlo 1 u1; have J3 := keeps_set J2 hlo 2 u2; have J4 := keeps_set J3 hlo 3 u3
  exact ((((h.set hC hT hlo J 0 u0).set b1 hT hlo J1 1 u1).set b2 hT hlo J2 2 u2).set b3 hT hlo J3 3 u3).set b4 hT hlo J4 4 u4
theorem RowB.new {w W : World} {T : TypeId} {sz : Nat} {a : Option Addr} {n c : Nat} {xs : List Value} (h : Own T sz w W (.slice a n c) n xs) : RowB w W T sz a n c xs := ⟨h.row0.rd, .inr h⟩
theorem RowB.old {w W : World} {T : TypeId} {sz : Nat} {a : Option Addr} {n c : Nat} {xs : List Value} (h : Rd w a n c sz xs) (k : Keeps w W) : RowB w W T sz a n c xs := ⟨h.keep k, .inl h⟩
/-- the run that a value holds, whose rows came in or were made since -/
def HasB (w W : World) (c : CD) (v : Value) : Prop := ∃ an cn nas ag cg, v = vCast c.n c.byz c.src (.slice an nas.length cn) (.slice ag c.st.flight.length cg) ∧ RowB w W 46 9 an nas.length cn (nl nas) ∧ RowB w W 53 4 ag c.st.flight.length cg (cl c.st.flight) ∧ (∀ z ∈ nas, RPN w W z) ∧ nas.map NA.x = c.st.nodes
theorem HasB.toC {w W : World} {c : CD} {v : Value} (h : HasB w W c v) : HasC W c v := by
  obtain ⟨an, cn, nas, ag, cg, rfl, h1, h2, h3, h4⟩ := h
  exact ⟨an, cn, nas, ag, cg, rfl, h1.1, h2.1, fun z hz => (h3 z hz).rdh, h4⟩
theorem HasB.keep {w W W' : World} {c : CD} {v : Value} (h : HasB w W c v) (k : Keeps W W') (J : Keeps w W) : HasB w W' c v := by
  obtain ⟨an, cn, nas, ag, cg, rfl, h1, h2, h3, h4⟩ := h
  exact ⟨an, cn, nas, ag, cg, rfl, h1.keep k, h2.keep k, fun z hz => (h3 z hz).keep k J, h4⟩
theorem HasB.st5 {w W : World} {c : CD} {v : Value} (h : HasB w W c v) {C : Nat} {cs : Array Value} (hC : Blk W C 32 cs) (hlo : w.heap.size ≤ C) (J : Keeps w W) (u0 u1 u2 u3 u4 : Value) : HasB w (st5 W C u0 u1 u2 u3 u4) c v := by
  obtain ⟨an, cn, nas, ag, cg, rfl, h1, h2, h3, h4⟩ := h
  exact ⟨an, cn, nas, ag, cg, rfl, h1.st5 hC (by decide) hlo J _ _ _ _ _, h2.st5 hC (by decide) hlo J _ _ _ _ _, fun z hz => (h3 z hz).set5 hC (by decide) hlo J _ _ _ _ _, h4⟩
theorem rdeliverB_any (fa : Option Addr) (fm fc : Nat) (f : List S) (ba : Option Addr) (bm bc : Nat) (b : List S) (n : Nat) (hn : n ≤ 12) (c : CD) (hcn : c.n = (n : Int)) (v : Value) (k : Nat) (w0 w : World) (J : Keeps w0 w)
    (hf : Rd w fa fm fc 1 (sl f)) (hb : Rd w ba bm bc 1 (sl b)) (hv : HasB w0 w c v) (hk : k < c.st.flight.length) (hdst : DstOk n c.st) (hn0 : c.st.nodes.length ≤ 1000) (hsm : SmallS c.st) (hfl : c.st.flight.length ≤ 90000) :
    Calls Tryd.prog 50 #[.slice fa fm fc, .slice ba bm bc, v, .int .i64 k] w fun e w' => ∃ v', e = .returned v' ∧ HasB w0 w' ⟨c.n, c.byz, c.src, deliv f b n c.byz c.st k⟩ v' ∧ Keeps w w' := by
  obtain ⟨an, cn, nas, ag, cg, rfl, h1, h2, h3, h4⟩ := hv
  obtain ⟨N, byz, source, nodes, fl⟩ := c
  dsimp only at *
  subst hcn
  subst h4
  rw [List.length_map] at hn0
  refine (rdeliver39_any fa fm fc f ba bm bc b n hn byz source an cn nas ag cg fl k w0 w J hf hb h1.1 h2.1 h3 hk (dst9' hdst hk) (small9 hsm) hfl hn0).mono ?_
  rintro e w' ⟨nv', nas', gv', fl', rfl, o1, o2, o3, hst⟩
  obtain ⟨an', cn', rfl, r1⟩ := o1.rd
  obtain ⟨ag', cg', rfl, r2⟩ := o2.rd
  rw [← hst]
  exact ⟨_, rfl, ⟨an', cn', nas', ag', cg', rfl, .new (o1.since J), .new (o2.since J), o3, rfl⟩, o1.2⟩
theorem rputB_any (n : Nat) (hn : n ≤ 12) (c : CD) (hcn : c.n = (n : Int)) (v : Value) (la : Option Addr) (lc : Nat) (l : List Ct) (w0 w : World) (J : Keeps w0 w) (hv : HasB w0 w c v) (hl : Rd w la l.length lc 4 (cl l)) (hfl : c.st.flight.length ≤ 100000) (hll : l.length ≤ 1000) :
    Calls Tryd.prog 48 #[v, .slice la l.length lc] w fun e w' => ∃ v', e = .returned v' ∧ HasB w0 w' ⟨c.n, c.byz, c.src, ⟨c.st.nodes, c.st.flight ++ putL n c.byz l⟩⟩ v' ∧ Keeps w w' := by
  obtain ⟨an, cn, nas, ag, cg, rfl, h1, h2, h3, h4⟩ := hv
  obtain ⟨N, byz, source, nodes, fl⟩ := c
  dsimp only at *
  subst hcn
  subst h4
  refine (rput39_any n hn byz source an nas.length cn ag cg fl la lc l w h2.1 hl hfl hll).mono ?_
  rintro e w' ⟨gv', rfl, o2⟩
  obtain ⟨ag', cg', rfl, r2⟩ := o2.rd
  exact ⟨_, rfl, ⟨an, cn, nas, ag', cg', rfl, h1.keep o2.2, .new (o2.since J), fun z hz => (h3 z hz).keep o2.2 J, rfl⟩, o2.2⟩
set_option maxHeartbeats 2000000 in
theorem rstart39_any (w0 w : World) (J0 : Keeps w0 w) (n : Nat) (byz : S) (source : Int) (hn : n ≤ 16) :
    Calls Tryd.prog 46 #[.int .i64 n, .int .u16 (sv byz), .int .i64 source] w fun e w' => ∃ v, e = .returned v ∧ HasB w0 w' ⟨n, byz, source, ⟨startN n, []⟩⟩ v ∧ Keeps w w' := by
  have hs : ∀ (W : World) o, (W.alloc o).heap.size = W.heap.size + 1 := fun W o => World.size_alloc ..
  have k1 := (Keeps.refl w).alloc (.cells #[.int .i64 0, .int .u16 0, .int .i64 0, .slice none 0 0, .slice none 0 0] 32)
  have k2 := (Keeps.refl (w.alloc (.cells #[.int .i64 0, .int .u16 0, .int .i64 0, .slice none 0 0, .slice none 0 0] 32))).alloc (.cells #[.int .i64 n, .int .u16 (sv byz), .int .i64 source, .slice none 0 0, .slice none 0 0] 32)
  have hBR := (Blk.new w 32 #[.int .i64 0, .int .u16 0, .int .i64 0, .slice none 0 0, .slice none 0 0]).keep k2
  have hX := Blk.new (w.alloc (.cells #[.int .i64 0, .int .u16 0, .int .i64 0, .slice none 0 0, .slice none 0 0] 32)) 32 #[.int .i64 n, .int .u16 (sv byz), .int .i64 source, .slice none 0 0, .slice none 0 0]
  rw [hs] at hX
  have J := k1.trans k2
  clear hs k1 k2
  have HX := Lib.hid hX; have HBR := Lib.hid hBR; have HJ := Lib.hid J
  clear hX hBR J
  go_enter Tryd.func46, Tryd.ntmps46
  go_wp2_with fail
  generalize (w.alloc (.cells #[.int .i64 0, .int .u16 0, .int .i64 0, .slice none 0 0, .slice none 0 0] 32)).alloc (.cells #[.int .i64 n, .int .u16 (sv byz), .int .i64 source, .slice none 0 0, .slice none 0 0] 32) = w2 at *
  obtain ⟨BX, hBX⟩ : ∃ B, B = w.heap.size + 1 := ⟨_, rfl⟩
  obtain ⟨BR, hBRe⟩ : ∃ B, B = w.heap.size := ⟨_, rfl⟩
  rw [← hBX, ← hBRe]
  rw [← hBX] at HX
  rw [← hBRe] at HBR
  have hlx : w.heap.size ≤ BX := by omega
  have hlr : w.heap.size ≤ BR := by omega
  have n1 : BR ≠ BX := by omega
  clear hBX hBRe
  go_loopw [8] (fun u wr => ∃ (k : Nat) (nv : Value), k ≤ n ∧ u = .int .i64 k ∧ Blk wr BX 32 #[.int .i64 n, .int .u16 (sv byz), .int .i64 source, nv, .slice none 0 0] ∧ Blk wr BR 32 #[.int .i64 0, .int .u16 0, .int .i64 0, .slice none 0 0, .slice none 0 0] ∧ Own 46 9 w wr nv k (nl (startNA k))) (fun u _ => n - (RowKit.intOf u).toNat)
  case atStart => exact ⟨0, _, Nat.zero_le _, rfl, HX.out, HBR.out, .nil _ _ HJ.out⟩
  case round =>
    clear HX HBR HJ
    obtain ⟨k, nv, hk, rfl, hX, hBR, hO⟩ := hrel
    by_cases hlt : k < n
    · have kB := (Keeps.refl wr).alloc (.cells (nl [naS k]).toArray 46)
      have r1 : Rd (wr.alloc (.cells (nl [naS k]).toArray 46)) (some ⟨wr.heap.size, 0, none⟩) 1 1 9 (nl [naS k]) := rd_new 46 9 wr _ 1 (by decide) rfl
      have HR := Lib.hid r1
      have HO := Lib.hid (hO.keep kB); have HBB := Lib.hid (hX.keep kB); have HBRR := Lib.hid (hBR.keep kB)
      have c3 := hX.cell 3 (v := nv) rfl
      clear r1 kB hO hX hBR
      go_wp2_with (at_builtin; refine wp_app ty_nl rfl _ _ rfl HO.out rfl rfl HR.out (nl_cells _) (by omega) ?_)
      intro v' w1 hO1 hgr
      obtain ⟨a1, c1, rfl, _⟩ := hO1.rd
      rw [← nl_append, ← startNA_succ] at hO1
      have hB1 := blk_grown9 HBB.out hgr (blk_ne HBB.out HO.out.1 (by decide))
      have hBR1 := blk_grown9 HBRR.out hgr (blk_ne HBRR.out HO.out.1 (by decide))
      have HO2 := Lib.hid (own_oth9 hO1 hB1 (by decide) hlx 3 (.slice a1 (k + 1) c1))
      have HBR2 := Lib.hid (hBR1.setOther n1 3 (.slice a1 (k + 1) c1))
      have e3 := hB1.cell 3 (v := nv) rfl
      have g3 := hB1.frozen 3
      have HB2 := Lib.hid (hB1.set 3 (.slice a1 (k + 1) c1))
      clear hO1 hgr hB1 hBR1 c3
      go_wp2_with fail
      go_roundw
      case rel => exact ⟨k + 1, _, by omega, by go_num, HB2.out, HBR2.out, HO2.out⟩
      case measure => simp [RowKit.intOf]; omega
    · have e1 : k = n := by omega
      subst e1
      obtain ⟨a1, c1, rfl, _⟩ := hO.rd
      have HO := Lib.hid hO; have HBR := Lib.hid hBR
      obtain ⟨x0, x1, x2, x3, x4⟩ := c5 hX
      obtain ⟨d0, d1, d2, d3, d4⟩ := c5 hBR
      obtain ⟨g0, g1, g2, g3, g4⟩ := f5 hBR
      clear hO hBR hX
      go_wp2_with fail
      clear x0 x1 x2 x3 x4 d0 d1 d2 d3 d4 g0 g1 g2 g3 g4
      refine bodyPost_ret (resC1 (n := (k : Int)) (byz := byz) (source := source) (nv := .slice a1 k c1) (gv := .slice none 0 0) rfl (set5 HBR.out _ _ _ _ _) rfl) rfl ?_
      have b1 := HBR.out.set 0 (.int .i64 k); have b2 := b1.set 1 (.int .u16 (sv byz)); have b3 := b2.set 2 (.int .i64 source); have b4 := b3.set 3 (.slice a1 k c1)
      have hn5 := own_oth9 (own_oth9 (own_oth9 (own_oth9 (own_oth9 HO.out HBR.out (by decide) hlr 0 (.int .i64 k)) b1 (by decide) hlr 1 (.int .u16 (sv byz))) b2 (by decide) hlr 2 (.int .i64 source)) b3 (by decide) hlr 3 (.slice a1 k c1)) b4 (by decide) hlr 4 (.slice none 0 0)
      have hl : k = (startNA k).length := (startNA_len k).symm
      refine ⟨_, rfl, ⟨a1, c1, startNA k, none, 0, by rw [← hl]; rfl, by rw [← hl]; exact .new (hn5.since J0), .new ((Own.nil 53 4 hn5.2).since J0), fun z hz => ?_, startNA_x k⟩, hn5.2⟩
      obtain ⟨i, _, rfl⟩ := List.mem_map.1 hz
      exact ⟨⟨(nok_start _ i).rdh.1, .inl (nok_start _ i).rdh.1⟩, ⟨(nok_start _ i).rdh.2, .inl (nok_start _ i).rdh.2⟩⟩
def geB (n : Nat) (x : S) : Bool := x >>> n != 0#16
theorem insB_any (l : List S) (n : Nat) : insB l n = !l.any (geB n) := rfl
theorem geB_iff (n : Nat) (hn : n < 16) (x : S) : decide (sv x ≥ sv (1#16 <<< n)) = geB n x := by
  unfold geB
  have e1 : (1#16 <<< n).toNat = 2 ^ n := by
    rw [BitVec.toNat_shiftLeft, Nat.shiftLeft_eq]
    have h2 : 2 ^ n ≤ 2 ^ 15 := Nat.pow_le_pow_right (by decide) (by omega)
    rw [Nat.mod_eq_of_lt (by simp; omega)]
    simp
  have e2 : (x >>> n).toNat = x.toNat / 2 ^ n := by rw [BitVec.toNat_ushiftRight, Nat.shiftRight_eq_div_pow]
  rw [Bool.eq_iff_iff, decide_eq_true_eq, bne_iff_ne]
  unfold sv
  rw [e1]
  have hp := Nat.pow_pos (n := n) (show 0 < 2 by decide)
  constructor
  · intro h hc
    have h3 := congrArg BitVec.toNat hc
    rw [e2] at h3
    have h5 : x.toNat / 2 ^ n = 0 := h3
    rcases Nat.div_eq_zero_iff.1 h5 with h6 | h6 <;> omega
  · intro h
    apply Classical.byContradiction
    intro hc
    apply h
    apply BitVec.eq_of_toNat_eq
    rw [e2, Nat.div_eq_of_lt (by omega)]
    rfl
end Go.Proofs.YtbcfkgolhklkaaaDoor
namespace Go.Proofs.YtbcfkgolhklkaaaDoor
open Go.RowKit Go.Lib Go.Shelf

set_option maxHeartbeats 2000000 in
theorem rlists39_any (n : Nat) (hn : n ≤ 8) (a1 : Option Addr) (m1 c1 : Nat) (f : List S) (a2 : Option Addr) (m2 c2 : Nat) (b : List S) (w : World) (h1 : Rd w a1 m1 c1 1 (sl f)) (h2 : Rd w a2 m2 c2 1 (sl b)) (hb1 : m1 ≤ 1000000) (hb2 : m2 ≤ 1000000) :
    Calls Tryd.prog 45 #[.slice a1 m1 c1, .slice a2 m2 c2, .int .i64 n] w fun e w' => e = .returned (.int .i64 (chk39 f b n)) ∧ Keeps w w' := by
  have hv := rValid_any a1 m1 c1 f w h1
  rw [rval_eq] at hv
  have hX : chk39 f b n = if validS f ≠ 0 then validS f else if ((f ++ b).any (geB n)) = true then 7 else 0 := by
    unfold chk39
    rw [insB_any, insB_any, List.any_append]
    cases f.any (geB n) <;> cases b.any (geB n) <;> rfl
  rw [hX]
  generalize validS f = v at hv hX ⊢
  have HV := Lib.hid hv
  have HF := Lib.hid h1; have HB := Lib.hid h2
  have l1 := h1.lenS; have l2 := h2.lenS
  clear hv hX h1 h2
  by_cases hv0 : v = 0
  · subst hv0
    have hbn : ((0 : Int) != 0) = false := rfl
    have HPOST : Hid ((if (0 : Int) ≠ 0 then (0 : Int) else if ((f ++ b).any (geB n)) = true then 7 else 0) = if ((f ++ b).any (geB n)) = true then 7 else 0) := Lib.hid (by rw [if_neg (by simp)])
    generalize (if (0 : Int) ≠ 0 then (0 : Int) else if ((f ++ b).any (geB n)) = true then 7 else 0) = res at HPOST ⊢
    go_enter Tryd.func45, Tryd.ntmps45
    go_wp2_with fail
    refine HV.out.mono ?_
    rintro e w1 ⟨rfl, k1⟩
    have ho := Own.made (e := 24) (sz := 1) (Keeps.refl w1) [] 0 (by decide) rfl
    have kA := (Keeps.refl w1).alloc (.cells #[] 24)
    have HO := Lib.hid ho; have HF1 := Lib.hid (HF.out.keep (k1.trans kA)); have HB1 := Lib.hid (HB.out.keep k1); have HK := Lib.hid k1
    clear ho kA k1 HV
    have hl1 : 0 + m1 ≤ 10000000 := by omega
    have hl2 : 0 + m1 + m2 ≤ 10000000 := by omega
    go_wp2_with (at_builtin; refine wp_app tyS rfl _ _ rfl HO.out rfl rfl HF1.out (sl_oneCell f) hl1 ?_)
    intro v' w2 hO hgr
    have HO2 := Lib.hid hO
    have HB2 := Lib.hid (HB1.out.keep hO.2)
    clear hO hgr HO HF1 HB1
    go_wp2_with (at_builtin; refine wp_app tyS rfl _ _ rfl HO2.out rfl rfl HB2.out (sl_oneCell b) (by omega) ?_)
    intro v'' w3 hO hgr
    rw [← sl_append] at hO
    obtain ⟨a3, c3, rfl, hr⟩ := hO.rd
    have HR := Lib.hid hr
    have HK3 := Lib.hid (HK.out.trans hO.2)
    have hlen : (f ++ b).length = m1 + m2 := by rw [List.length_append]; omega
    obtain ⟨L, hL⟩ : ∃ L, L = f ++ b := ⟨_, rfl⟩
    rw [← hL] at HR HPOST hlen
    have HLN := Lib.hid hlen
    obtain ⟨mm, hmm⟩ : ∃ m, m = m1 + m2 := ⟨_, rfl⟩
    rw [← hmm] at HR HLN ⊢
    have hmb : mm ≤ 2000000 := by omega
    clear hr hO hgr hL hlen hmm HO2 HB2 hbn
    go_wp2_with fail
    go_loopw [9] (fun u wr => ∃ k : Nat, k ≤ mm ∧ u = .int .i64 k ∧ Keeps w3 wr ∧ Hid (L.any (geB n) = (L.drop k).any (geB n))) (fun u _ => mm - (RowKit.intOf u).toNat)
    case atStart => exact ⟨0, Nat.zero_le _, rfl, Keeps.refl _, rfl⟩
    case round =>
      obtain ⟨k, hk, rfl, K, HA⟩ := hrel
      by_cases hlt : k < mm
      · have g0 := (HR.out.keep K).at hlt
        have hao := HR.out.isSome (by omega)
        have HD := Lib.hid (drop_at L k (by have := HLN.out; omega))
        have HG := Lib.hid (geB_iff n (by omega) (at_ L k))
        have hmin : min n 16 = n := by omega
        generalize at_ L k = x at *
        by_cases hq : sv (1#16 <<< n) ≤ sv x
        · have HT : Hid (L.any (geB n) = true) := Lib.hid (by rw [HA.out, HD.out, List.any_cons, ← HG.out]; simp [hq])
          have HKF := Lib.hid (HK3.out.trans K)
          go_wp2_with fail
          go_quiet (fail)
          go_wp2_with fail
          go_ret
          exact ⟨by rw [HPOST.out, HT.out]; rfl, HKF.out.drewN _⟩
        · have HT : Hid (L.any (geB n) = (L.drop (k + 1)).any (geB n)) := Lib.hid (by rw [HA.out, HD.out, List.any_cons, ← HG.out]; simp [hq])
          have HK4 := Lib.hid K
          clear K
          go_wp2_with fail
          go_quiet (fail)
          go_wp2_with fail
          go_roundw
          case rel => exact ⟨k + 1, by omega, by go_num, HK4.out.drewN _, HT⟩
          case measure => simp [RowKit.intOf]; omega
      · have HT : Hid (L.any (geB n) = false) := Lib.hid (by rw [HA.out, List.drop_of_length_le (by have := HLN.out; omega)]; rfl)
        have HKF := Lib.hid (HK3.out.trans K)
        clear K
        go_wp2_with fail
        go_ret
        exact ⟨by rw [HPOST.out, HT.out]; rfl, HKF.out⟩
  · have hvb : (v != 0) = true := by simpa using hv0
    have HP : Hid ((if v ≠ 0 then v else if ((f ++ b).any (geB n)) = true then 7 else 0) = v) := Lib.hid (if_pos hv0)
    generalize (if v ≠ 0 then v else if ((f ++ b).any (geB n)) = true then 7 else 0) = res at HP ⊢
    clear hv0
    go_enter Tryd.func45, Tryd.ntmps45
    go_wp2_with fail
    refine HV.out.mono ?_
    rintro e w1 ⟨rfl, k1⟩
    have HK := Lib.hid k1
    clear k1 HV
    go_wp2_with fail
    go_ret
    exact ⟨by rw [HP.out]; rfl, HK.out⟩
end Go.Proofs.YtbcfkgolhklkaaaDoor
namespace Go.Proofs.YtbcfkgolhklkaaaDoor
open Go.RowKit Go.Lib Go.Shelf

/-- whether a server can send casts of a kind on its own -/
def cnd (byz : S) (source s kd : Nat) : Bool := byz.getLsbD s && (decide (kd ≠ 1) || decide (s = source))
def cnL (c : Bool) (l : List Ct) : List Ct := if c = true then l else []
theorem cnT {c : Bool} (h : c = true) (l : List Ct) : cnL c l = l := by unfold cnL; rw [if_pos h]
theorem cnF {c : Bool} (h : c = false) (l : List Ct) : cnL c l = [] := by unfold cnL; rw [if_neg (by rw [h]; simp)]
theorem cnL_nil (c : Bool) : cnL c [] = [] := by cases c <;> rfl
def vvS (j : Nat) : Str := if j = 0 then strX else strY
theorem cn_v (n : Nat) (byz : S) (s kd j : Nat) (c : Bool) (hj : j < 2) (k : Nat) (hk : (corrL n byz).length ≤ k) : cnL c (lieV n byz s kd j) ++ cnL c (toP (corrL n byz) ⟨kd, s, 0, vvS j⟩ k) = cnL c (lieV n byz s kd (j + 1)) := by
  cases c
  · rfl
  · rw [cnT rfl, cnT rfl, cnT rfl, lieV_succ n byz s kd j hj, toP_all n byz _ k hk]; rfl
def kL (n : Nat) (byz : S) (source s j : Nat) : List Ct := if corr n byz s = true then [] else lieK n byz source s j
theorem kL_succ (n : Nat) (byz : S) (source s j : Nat) (hs : s < n) (hj : j < 3) : kL n byz source s (j + 1) = kL n byz source s j ++ cnL (cnd byz source s (j + 1)) (lieV n byz s ((j + 1 : Nat) : Int) 2) := by
  unfold kL cnd
  have hc : corr n byz s = !byz.getLsbD s := by unfold corr; simp [hs]
  rw [hc]
  cases hb : byz.getLsbD s
  · rfl
  · simp only [Bool.not_true, Bool.false_eq_true, if_false, Bool.true_and]
    rw [lieK_succ n byz source s j hj]
    congr 1
    by_cases h1 : ((j : Int) + 1 = 1 ∧ s ≠ source)
    · rw [if_pos h1, cnF]
      have : j = 0 := by omega
      subst this
      simp [h1.2]
    · rw [if_neg h1, cnT]
      · rfl
      · by_cases h0 : j = 0
        · subst h0
          have : s = source := Classical.byContradiction fun h => h1 ⟨by omega, h⟩
          simp [this]
        · simp [h0]
theorem iL_succ (n : Nat) (byz : S) (source s : Nat) : lieI n byz source (s + 1) = lieI n byz source s ++ kL n byz source s 3 := by
  rw [lieI_succ]; rfl
set_option maxRecDepth 200000 in
set_option maxHeartbeats 4000000 in
theorem rlies39_any (n : Nat) (hn : n ≤ 8) (byz : S) (source : Nat) (nv gv : Value) (w : World) :
    Calls Tryd.prog 49 #[vCast n byz source nv gv] w fun e w' => ∃ v, e = .returned v ∧ Own 53 4 w w' v (lieL n byz source strX strY).length (cl (lieL n byz source strX strY)) := by
  have hX := Blk.new w 32 #[.int .i64 n, .int .u16 (sv byz), .int .i64 source, nv, gv]
  have kX := (Keeps.refl w).alloc (.cells #[.int .i64 n, .int .u16 (sv byz), .int .i64 source, nv, gv] 32)
  have hco := rcorrect9_any n byz _ (by omega) |> fun h => (h : Calls Tryd.prog 59 #[.int .i64 n, .int .u16 (sv byz)] (w.alloc (.cells #[.int .i64 n, .int .u16 (sv byz), .int .i64 source, nv, gv] 32)) _)
  have HCO := Lib.hid hco
  have HLI := Lib.hid (lieI_all n byz source)
  obtain ⟨x0, x1, x2, x3, x4⟩ := c5 hX
  have HX := Lib.hid hX; have HKX := Lib.hid kX
  clear hco hX kX
  generalize lieL n byz source strX strY = LI at *
  unfold vCast
  go_enter Tryd.func49, Tryd.ntmps49
  go_wp2_with fail
  refine HCO.out.mono ?_
  rintro e w2 ⟨mv, rfl, hI⟩
  obtain ⟨am, cm, rfl, hM⟩ := hI.rd
  have HXX := Lib.hid (HX.out.keep hI.2)
  have HK2 := Lib.hid (HKX.out.trans hI.2)
  have HML := Lib.hid (show (corrL n byz).length ≤ 8 by unfold corrL; exact Nat.le_trans (List.length_filter_le _ _) (by simp; exact hn))
  have HTA := Lib.hid (fun s kd j c hj k hk => cn_v n byz s kd j c hj k hk)
  clear hI x0 x1 x2 x3 x4 HCO HX HKX
  generalize corrL n byz = M at *
  go_wp2_with fail
  go_loopw [3, 5] (fun u5 us wr => ∃ (s : Nat) (L : List Ct), s ≤ n ∧ us = .int .i64 s ∧ Own 53 4 w2 wr u5 L.length (cl L) ∧ Hid (L = lieI n byz source s) ∧ Hid (L.length ≤ 100 * s)) (fun _ us _ => n - (RowKit.intOf us).toNat)
  case atStart => exact ⟨0, [], Nat.zero_le _, rfl, .nil _ _ (Keeps.refl _), Lib.hid (by simp [lieI]), Lib.hid (by simp)⟩
  case round =>
    obtain ⟨s, L1, hsn, rfl, hO, HL1, HB1⟩ := hrel
    obtain ⟨x0, x1, x2, x3, x4⟩ := c5 (HXX.out.keep hO.2)
    by_cases hs : s < n
    · have HO := Lib.hid hO
      clear hO
      go_wp2_with fail
      clear x0 x1 x2 x3 x4
      go_loopw [3, 6] (fun u5 uk wr => ∃ (jk : Nat) (L : List Ct), jk ≤ 3 ∧ uk = .int .i64 ((jk + 1 : Nat) : Int) ∧ Own 53 4 w2 wr u5 L.length (cl L) ∧ Hid (L = L1 ++ kL n byz source s jk) ∧ Hid (L.length ≤ L1.length + 16 * jk)) (fun _ uk _ => 4 - (RowKit.intOf uk).toNat)
      case atStart => exact ⟨0, L1, by omega, rfl, HO.out, Lib.hid (by simp [kL, lieK]), Lib.hid (by omega)⟩
      case round =>
        clear HO
        obtain ⟨jk, L2, hjk, rfl, hO, HL2, HB2⟩ := hrel
        obtain ⟨kd, hkd⟩ : ∃ k, k = jk + 1 := ⟨_, rfl⟩
        rw [← hkd]
        have HO := Lib.hid hO
        clear hO
        by_cases hk3 : kd ≤ 3
        · have HKS := Lib.hid (kL_succ n byz source s jk hs (by omega))
          rw [← hkd] at HKS
          have HKD := Lib.hid hkd
          clear hkd
          have hle : (kd : Int) ≤ 3 := by omega
          go_wp2_with fail
          go_loopw [3, 7] (fun u5 uv wr => ∃ (j : Nat) (L : List Ct), j ≤ 2 ∧ uv = .int .i64 j ∧ Own 53 4 w2 wr u5 L.length (cl L) ∧ Hid (L = L2 ++ cnL (cnd byz source s kd) (lieV n byz s kd j)) ∧ Hid (L.length ≤ L2.length + 8 * j)) (fun _ uv _ => 2 - (RowKit.intOf uv).toNat)
          case atStart => exact ⟨0, L2, by omega, rfl, HO.out, Lib.hid (by simp [lieV, cnL_nil]), Lib.hid (by omega)⟩
          case round =>
            clear HO
            obtain ⟨j, L3, hj, rfl, hO, HL3, HB3⟩ := hrel
            have HO := Lib.hid hO
            clear hO
            by_cases hj2 : j < 2
            · have hj2i : (j : Int) < 2 := by omega
              go_wp2_with fail
              go_loopw [3, 8] (fun u5 uk wr => ∃ (k : Nat) (L : List Ct), k ≤ M.length ∧ uk = .int .i64 k ∧ Own 53 4 w2 wr u5 L.length (cl L) ∧ Hid (L = L3 ++ cnL (cnd byz source s kd) (toP M ⟨kd, s, 0, vvS j⟩ k)) ∧ Hid (L.length ≤ L3.length + k)) (fun _ uk _ => M.length - (RowKit.intOf uk).toNat)
              case atStart => exact ⟨0, L3, by omega, rfl, HO.out, Lib.hid (by simp [toP, cnL_nil]), Lib.hid (by omega)⟩
              case round =>
                clear HO
                obtain ⟨k, L, hk, rfl, hO, HLL, HB4⟩ := hrel
                have HLB := Lib.hid (show L.length ≤ 10000 by have h1 := HB1.out; have h2 := HB2.out; have h3 := HB3.out; have h4 := HB4.out; have h5 := HML.out; omega)
                obtain ⟨x0, x1, x2, x3, x4⟩ := c5 (HXX.out.keep hO.2)
                have hml := HML.out
                by_cases hkm : k < M.length
                · have HTS := Lib.hid (toP_succ M ⟨kd, s, 0, vvS j⟩ k hkm)
                  have HIM := Lib.hid (il_at M k hkm)
                  have q0 := (hM.keep hO.2).cell k _ HIM.out
                  have hao := hM.isSome (by omega)
                  have HVV : Hid ((#[.string ⟨#[120]⟩, .string ⟨#[121]⟩] : Array Value)[j]? = some (.string (vvS j))) := Lib.hid (by rcases (by omega : j = 0 ∨ j = 1) with rfl | rfl <;> rfl)
                  have hhs := has7_any byz s (by omega) wr
                  have hbt := hbT byz s
                  generalize im M k = d at *
                  generalize vvS j = vv at *
                  cases hb : ((byz >>> s) &&& 1#16 == 1#16) with
                  | false =>
                    rw [hb] at hhs hbt
                    have HHS := Lib.hid hhs
                    have HCN : Hid (cnd byz source s kd = false) := Lib.hid (by unfold cnd; rw [show byz.getLsbD s = byz.toNat.testBit s from rfl, ← hbt]; rfl)
                    clear hhs hbt hb
                    have HO := Lib.hid hO
                    clear hO
                    go_wp2_with fail
                    refine HHS.out.mono ?_
                    rintro e wz ⟨rfl, rfl⟩
                    go_wp2_with fail
                    go_roundw
                    case rel => exact ⟨k + 1, L, by omega, by go_num, HO.out, Lib.hid (by rw [HLL.out, cnF HCN.out, cnF HCN.out]), Lib.hid (by have := HB4.out; omega)⟩
                    case measure => simp [RowKit.intOf]; omega
                  | true =>
                    rw [hb] at hhs hbt
                    have HHS := Lib.hid hhs
                    have HHB : Hid (byz.getLsbD s = true) := Lib.hid hbt.symm
                    clear hhs hbt hb
                    by_cases hk1 : kd = 1
                    · have hkb : ((kd : Int) != 1) = false := by rw [hk1]; rfl
                      by_cases hk2 : s = source
                      · have HCN : Hid (cnd byz source s kd = true) := Lib.hid (by unfold cnd; rw [HHB.out]; simp [hk2])
                        have hsb : ((s : Int) == (source : Int)) = true := by rw [beq_iff_eq]; omega
                        clear hk1 hk2
                        have HO := Lib.hid hO
                        clear hO
                        go_wp2_with fail
                        refine HHS.out.mono ?_
                        rintro e wz ⟨rfl, rfl⟩
                        go_upto_region 16 with fail
                        clear x0 x1 x2 x3 x4 q0
                        have hO := HO.out
                        clear HO
                        have kz := (Keeps.refl wr).drew
                        replace hO := hO.keep kz
                        clear kz
                        refine wp_region_held_drew (S := (fun w' => w'.cell? (adr am k) = some (.int .i64 (d : Int)))) (by kernel_rfl) ?_ (fun hHeld => ?_)
                        · exact (hM.keep hO.2).cell k _ HIM.out
                        generalize wr.drew = V0 at *
                        refine wpAnyH_take (i := 0) (oi := ⟨_, _, _, _, _, _⟩) (v := ?_) rfl (by kernel_rfl) (by kernel_rfl) (by kernel_rfl) (fun _ _ _ h => h) (Or.inl ⟨by rfl, ?_⟩) (by assumption) ?_
                        rotate_left 1
                        · intro w hSw; (try dsimp only at hSw); go_simp <;> with_reducible rfl
                        (try simp only [Act.put]); (try simp only [List.setIfInBounds_toArray]); (try simp only [List.set_cons_succ]); (try simp only [List.set_cons_zero])
                        refine wpAnyH_take (i := 1) (oi := ⟨_, _, _, _, _, _⟩) (v := ?_) rfl (by kernel_rfl) (by kernel_rfl) (by kernel_rfl) (fun _ _ _ h => h) (Or.inl ⟨by rfl, ?_⟩) (by assumption) ?_
                        rotate_left 1
                        · intro w hSw; (try dsimp only at hSw); go_simp <;> with_reducible rfl
                        (try simp only [Act.put]); (try simp only [List.setIfInBounds_toArray]); (try simp only [List.set_cons_succ]); (try simp only [List.set_cons_zero])
                        refine wpAnyH_take (i := 2) (oi := ⟨_, _, _, _, _, _⟩) (v := ?_) rfl (by kernel_rfl) (by kernel_rfl) (by kernel_rfl) (fun _ _ _ h => h) (Or.inl ⟨by rfl, ?_⟩) (by assumption) ?_
                        rotate_left 1
                        · intro w hSw; (try dsimp only at hSw); go_simp <;> with_reducible rfl
                        (try simp only [Act.put]); (try simp only [List.setIfInBounds_toArray]); (try simp only [List.set_cons_succ]); (try simp only [List.set_cons_zero])
                        refine wpAnyH_take (i := 3) (oi := ⟨_, _, _, _, _, _⟩) (v := ?_) rfl (by kernel_rfl) (by kernel_rfl) (by kernel_rfl) (fun _ _ _ h => h) (Or.inl ⟨by rfl, ?_⟩) (by assumption) ?_
                        rotate_left 1
                        · intro w hSw; (try dsimp only at hSw); go_simp <;> with_reducible rfl
                        (try simp only [Act.put]); (try simp only [List.setIfInBounds_toArray]); (try simp only [List.set_cons_succ]); (try simp only [List.set_cons_zero])
                        refine wpAnyH_take (i := 4) (oi := ⟨_, _, _, _, _, _⟩) (v := ?_) rfl (by kernel_rfl) (by kernel_rfl) (by kernel_rfl) (fun _ _ _ h => h) (Or.inl ⟨by rfl, ?_⟩) (by assumption) ?_
                        rotate_left 1
                        · intro w hSw; (try dsimp only at hSw); go_simp <;> with_reducible rfl
                        (try simp only [Act.put]); (try simp only [List.setIfInBounds_toArray]); (try simp only [List.set_cons_succ]); (try simp only [List.set_cons_zero])
                        refine wpAnyH_take (i := 5) (oi := ⟨_, _, _, _, _, _⟩) (v := ?_) rfl (by kernel_rfl) (by kernel_rfl) (by kernel_rfl) (fun _ _ _ h => h) (Or.inl ⟨by rfl, ?_⟩) (by assumption) ?_
                        rotate_left 1
                        · intro w hSw; (try dsimp only at hSw); go_simp <;> with_reducible rfl
                        (try simp only [Act.put]); (try simp only [List.setIfInBounds_toArray]); (try simp only [List.set_cons_succ]); (try simp only [List.set_cons_zero])
                        refine wpAnyH_take (i := 6) (oi := ⟨_, _, _, _, _, _⟩) (v := ?_) rfl (by kernel_rfl) (by kernel_rfl) (by kernel_rfl) (fun _ _ _ h => h) (Or.inl ⟨by rfl, ?_⟩) (by assumption) ?_
                        rotate_left 1
                        · intro w hSw; (try dsimp only at hSw); go_simp <;> with_reducible rfl
                        (try simp only [Act.put]); (try simp only [List.setIfInBounds_toArray]); (try simp only [List.set_cons_succ]); (try simp only [List.set_cons_zero])
                        refine wpAnyH_take (i := 8) (oi := ⟨_, _, _, _, _, _⟩) (v := ?_) rfl (by kernel_rfl) (by kernel_rfl) (by kernel_rfl) (fun _ _ _ h => h) (Or.inl ⟨by rfl, ?_⟩) (by assumption) ?_
                        rotate_left 1
                        · intro w hSw; (try dsimp only at hSw); go_simp <;> with_reducible rfl
                        (try simp only [Act.put]); (try simp only [List.setIfInBounds_toArray]); (try simp only [List.set_cons_succ]); (try simp only [List.set_cons_zero])
                        refine wpAnyH_ready (rs := [7]) (by kernel_rfl) (by simp) ?_
                        refine AllReadyH.cons (o := ⟨_, _, _, _, _, _⟩) rfl (fun K hK => ?_) AllReadyH.nil
                        go_simp
                        have hT := Blk.new V0 9 #[.string ⟨#[120]⟩, .string ⟨#[121]⟩]
                        have kA := (Keeps.refl V0).alloc (.cells #[.string ⟨#[120]⟩, .string ⟨#[121]⟩] 9)
                        replace hO := hO.keep kA
                        clear kA
                        generalize V0.alloc (.cells #[.string ⟨#[120]⟩, .string ⟨#[121]⟩] 9) = V1 at *
                        generalize V0.heap.size = BT at *
                        refine hK.out _ _ ?_ (fun hHeld => ?_)
                        · exact (hM.keep hO.2).cell k _ HIM.out
                        clear hK K
                        (try simp only [Act.put]); (try simp only [List.setIfInBounds_toArray]); (try simp only [List.set_cons_succ]); (try simp only [List.set_cons_zero])
                        refine wpAnyH_take (i := 9) (oi := ⟨_, _, _, _, _, _⟩) (v := ?_) rfl (by kernel_rfl) (by kernel_rfl) (by kernel_rfl) (fun _ _ _ h => h) (Or.inl ⟨by rfl, ?_⟩) (by assumption) ?_
                        rotate_left 1
                        · intro w hSw; (try dsimp only at hSw); go_simp <;> with_reducible rfl
                        (try simp only [Act.put]); (try simp only [List.setIfInBounds_toArray]); (try simp only [List.set_cons_succ]); (try simp only [List.set_cons_zero])
                        refine wpAnyH_ready (rs := [10]) (by kernel_rfl) (by simp) ?_
                        refine AllReadyH.cons (o := ⟨_, _, _, _, _, _⟩) rfl (fun K hK => ?_) AllReadyH.nil
                        have hx := hT.cell j (v := .string vv) HVV.out
                        have hj0 : 0 ≤ (j : Int) := by omega
                        go_simp
                        clear hx hj0
                        refine hK.out _ _ ?_ (fun hHeld => ?_)
                        · exact (hM.keep hO.2).cell k _ HIM.out
                        clear hK K
                        (try simp only [Act.put]); (try simp only [List.setIfInBounds_toArray]); (try simp only [List.set_cons_succ]); (try simp only [List.set_cons_zero])
                        refine wpAnyH_take (i := 11) (oi := ⟨_, _, _, _, _, _⟩) (v := ?_) rfl (by kernel_rfl) (by kernel_rfl) (by kernel_rfl) (fun _ _ _ h => h) (Or.inl ⟨by rfl, ?_⟩) (by assumption) ?_
                        rotate_left 1
                        · intro w hSw; (try dsimp only at hSw); go_simp <;> with_reducible rfl
                        (try simp only [Act.put]); (try simp only [List.setIfInBounds_toArray]); (try simp only [List.set_cons_succ]); (try simp only [List.set_cons_zero])
                        refine wpAnyH_ready (rs := [12]) (by kernel_rfl) (by simp) ?_
                        refine AllReadyH.cons (o := ⟨_, _, _, _, _, _⟩) rfl (fun K hK => ?_) AllReadyH.nil
                        go_simp
                        have r1 : Rd (V1.alloc (.cells #[.int .i64 kd, .int .i64 s, .int .i64 d, .string vv] 53)) (some ⟨V1.heap.size, 0, none⟩) 1 1 4 (cl [(⟨(kd : Int), (s : Int), (d : Int), vv⟩ : Ct)]) := rd_new 53 4 V1 _ 1 (by decide) rfl
                        have kA := (Keeps.refl V1).alloc (.cells #[.int .i64 kd, .int .i64 s, .int .i64 d, .string vv] 53)
                        replace hO := hO.keep kA
                        clear kA
                        generalize V1.alloc (.cells #[.int .i64 kd, .int .i64 s, .int .i64 d, .string vv] 53) = V2 at *
                        generalize V1.heap.size = BQ at *
                        refine hK.out _ _ ?_ (fun hHeld => ?_)
                        · exact (hM.keep hO.2).cell k _ HIM.out
                        clear hK K
                        (try simp only [Act.put]); (try simp only [List.setIfInBounds_toArray]); (try simp only [List.set_cons_succ]); (try simp only [List.set_cons_zero])
                        refine wpAnyH_ready (rs := [13]) (by kernel_rfl) (by simp) ?_
                        refine AllReadyH.cons (o := ⟨_, _, _, _, _, _⟩) rfl (fun K hK => ?_) AllReadyH.nil
                        have HO := Lib.hid hO
                        refine step_app ty_cl rfl _ _ rfl HO.out rfl rfl r1 (cl_cells _) (by have := HLB.out; omega) ?_
                        intro v' V3 hO' hgr
                        dsimp only
                        obtain ⟨a9, c9, rfl, _⟩ := hO'.rd
                        rw [← cl_append] at hO'
                        obtain ⟨L', hL'⟩ : ∃ L', L' = L ++ [(⟨(kd : Int), (s : Int), (d : Int), vv⟩ : Ct)] := ⟨_, rfl⟩
                        rw [len_snoc9 L (⟨(kd : Int), (s : Int), (d : Int), vv⟩ : Ct), ← hL'] at hO' ⊢
                        have HL' := Lib.hid hL'
                        clear hL' HO r1 hgr hO hT
                        have hO := hO'
                        clear hO'
                        refine hK.out _ _ ?_ (fun hHeld => ?_)
                        · exact (hM.keep hO.2).cell k _ HIM.out
                        clear hK K
                        (try simp only [Act.put]); (try simp only [List.setIfInBounds_toArray]); (try simp only [List.set_cons_succ]); (try simp only [List.set_cons_zero])
                        refine wpAnyH_take (i := 14) (oi := ⟨_, _, _, _, _, _⟩) (v := ?_) rfl (by kernel_rfl) (by kernel_rfl) (by kernel_rfl) (fun _ _ _ h => h) (Or.inl ⟨by rfl, ?_⟩) (by assumption) ?_
                        rotate_left 1
                        · intro w hSw; (try dsimp only at hSw); go_simp <;> with_reducible rfl
                        (try simp only [Act.put]); (try simp only [List.setIfInBounds_toArray]); (try simp only [List.set_cons_succ]); (try simp only [List.set_cons_zero])
                        refine wpAnyH_done (by kernel_rfl) ?_ _
                        have HOF := Lib.hid hO
                        clear hO
                        go_wp2_with fail
                        go_roundw
                        case rel => exact ⟨k + 1, L', by omega, by go_num, HOF.out, Lib.hid (by rw [HL'.out, HLL.out, cnT HCN.out, cnT HCN.out, HTS.out, List.append_assoc]), Lib.hid (by rw [HL'.out, List.length_append, List.length_singleton]; have := HB4.out; omega)⟩
                        case measure => simp [RowKit.intOf]; omega
                      · have HCN : Hid (cnd byz source s kd = false) := Lib.hid (by unfold cnd; rw [HHB.out]; simp [hk1, hk2])
                        have hsb : ((s : Int) == (source : Int)) = false := by rw [beq_eq_false_iff_ne]; omega
                        clear hk1 hk2
                        have HO := Lib.hid hO
                        clear hO
                        go_wp2_with fail
                        refine HHS.out.mono ?_
                        rintro e wz ⟨rfl, rfl⟩
                        go_wp2_with fail
                        go_roundw
                        case rel => exact ⟨k + 1, L, by omega, by go_num, HO.out, Lib.hid (by rw [HLL.out, cnF HCN.out, cnF HCN.out]), Lib.hid (by have := HB4.out; omega)⟩
                        case measure => simp [RowKit.intOf]; omega
                    · have HCN : Hid (cnd byz source s kd = true) := Lib.hid (by unfold cnd; rw [HHB.out]; simp [hk1])
                      have hkb : ((kd : Int) != 1) = true := by rw [bne_iff_ne]; omega
                      clear hk1
                      have HO := Lib.hid hO
                      clear hO
                      go_wp2_with fail
                      refine HHS.out.mono ?_
                      rintro e wz ⟨rfl, rfl⟩
                      go_upto_region 16 with fail
                      clear x0 x1 x2 x3 x4 q0
                      have hO := HO.out
                      clear HO
                      have kz := (Keeps.refl wr).drew
                      replace hO := hO.keep kz
                      clear kz
                      refine wp_region_held_drew (S := (fun w' => w'.cell? (adr am k) = some (.int .i64 (d : Int)))) (by kernel_rfl) ?_ (fun hHeld => ?_)
                      · exact (hM.keep hO.2).cell k _ HIM.out
                      generalize wr.drew = V0 at *
                      refine wpAnyH_take (i := 0) (oi := ⟨_, _, _, _, _, _⟩) (v := ?_) rfl (by kernel_rfl) (by kernel_rfl) (by kernel_rfl) (fun _ _ _ h => h) (Or.inl ⟨by rfl, ?_⟩) (by assumption) ?_
                      rotate_left 1
                      · intro w hSw; (try dsimp only at hSw); go_simp <;> with_reducible rfl
                      (try simp only [Act.put]); (try simp only [List.setIfInBounds_toArray]); (try simp only [List.set_cons_succ]); (try simp only [List.set_cons_zero])
                      refine wpAnyH_take (i := 1) (oi := ⟨_, _, _, _, _, _⟩) (v := ?_) rfl (by kernel_rfl) (by kernel_rfl) (by kernel_rfl) (fun _ _ _ h => h) (Or.inl ⟨by rfl, ?_⟩) (by assumption) ?_
                      rotate_left 1
                      · intro w hSw; (try dsimp only at hSw); go_simp <;> with_reducible rfl
                      (try simp only [Act.put]); (try simp only [List.setIfInBounds_toArray]); (try simp only [List.set_cons_succ]); (try simp only [List.set_cons_zero])
                      refine wpAnyH_take (i := 2) (oi := ⟨_, _, _, _, _, _⟩) (v := ?_) rfl (by kernel_rfl) (by kernel_rfl) (by kernel_rfl) (fun _ _ _ h => h) (Or.inl ⟨by rfl, ?_⟩) (by assumption) ?_
                      rotate_left 1
                      · intro w hSw; (try dsimp only at hSw); go_simp <;> with_reducible rfl
                      (try simp only [Act.put]); (try simp only [List.setIfInBounds_toArray]); (try simp only [List.set_cons_succ]); (try simp only [List.set_cons_zero])
                      refine wpAnyH_take (i := 3) (oi := ⟨_, _, _, _, _, _⟩) (v := ?_) rfl (by kernel_rfl) (by kernel_rfl) (by kernel_rfl) (fun _ _ _ h => h) (Or.inl ⟨by rfl, ?_⟩) (by assumption) ?_
                      rotate_left 1
                      · intro w hSw; (try dsimp only at hSw); go_simp <;> with_reducible rfl
                      (try simp only [Act.put]); (try simp only [List.setIfInBounds_toArray]); (try simp only [List.set_cons_succ]); (try simp only [List.set_cons_zero])
                      refine wpAnyH_take (i := 4) (oi := ⟨_, _, _, _, _, _⟩) (v := ?_) rfl (by kernel_rfl) (by kernel_rfl) (by kernel_rfl) (fun _ _ _ h => h) (Or.inl ⟨by rfl, ?_⟩) (by assumption) ?_
                      rotate_left 1
                      · intro w hSw; (try dsimp only at hSw); go_simp <;> with_reducible rfl
                      (try simp only [Act.put]); (try simp only [List.setIfInBounds_toArray]); (try simp only [List.set_cons_succ]); (try simp only [List.set_cons_zero])
                      refine wpAnyH_take (i := 5) (oi := ⟨_, _, _, _, _, _⟩) (v := ?_) rfl (by kernel_rfl) (by kernel_rfl) (by kernel_rfl) (fun _ _ _ h => h) (Or.inl ⟨by rfl, ?_⟩) (by assumption) ?_
                      rotate_left 1
                      · intro w hSw; (try dsimp only at hSw); go_simp <;> with_reducible rfl
                      (try simp only [Act.put]); (try simp only [List.setIfInBounds_toArray]); (try simp only [List.set_cons_succ]); (try simp only [List.set_cons_zero])
                      refine wpAnyH_take (i := 6) (oi := ⟨_, _, _, _, _, _⟩) (v := ?_) rfl (by kernel_rfl) (by kernel_rfl) (by kernel_rfl) (fun _ _ _ h => h) (Or.inl ⟨by rfl, ?_⟩) (by assumption) ?_
                      rotate_left 1
                      · intro w hSw; (try dsimp only at hSw); go_simp <;> with_reducible rfl
                      (try simp only [Act.put]); (try simp only [List.setIfInBounds_toArray]); (try simp only [List.set_cons_succ]); (try simp only [List.set_cons_zero])
                      refine wpAnyH_take (i := 8) (oi := ⟨_, _, _, _, _, _⟩) (v := ?_) rfl (by kernel_rfl) (by kernel_rfl) (by kernel_rfl) (fun _ _ _ h => h) (Or.inl ⟨by rfl, ?_⟩) (by assumption) ?_
                      rotate_left 1
                      · intro w hSw; (try dsimp only at hSw); go_simp <;> with_reducible rfl
                      (try simp only [Act.put]); (try simp only [List.setIfInBounds_toArray]); (try simp only [List.set_cons_succ]); (try simp only [List.set_cons_zero])
                      refine wpAnyH_ready (rs := [7]) (by kernel_rfl) (by simp) ?_
                      refine AllReadyH.cons (o := ⟨_, _, _, _, _, _⟩) rfl (fun K hK => ?_) AllReadyH.nil
                      go_simp
                      have hT := Blk.new V0 9 #[.string ⟨#[120]⟩, .string ⟨#[121]⟩]
                      have kA := (Keeps.refl V0).alloc (.cells #[.string ⟨#[120]⟩, .string ⟨#[121]⟩] 9)
                      replace hO := hO.keep kA
                      clear kA
                      generalize V0.alloc (.cells #[.string ⟨#[120]⟩, .string ⟨#[121]⟩] 9) = V1 at *
                      generalize V0.heap.size = BT at *
                      refine hK.out _ _ ?_ (fun hHeld => ?_)
                      · exact (hM.keep hO.2).cell k _ HIM.out
                      clear hK K
                      (try simp only [Act.put]); (try simp only [List.setIfInBounds_toArray]); (try simp only [List.set_cons_succ]); (try simp only [List.set_cons_zero])
                      refine wpAnyH_take (i := 9) (oi := ⟨_, _, _, _, _, _⟩) (v := ?_) rfl (by kernel_rfl) (by kernel_rfl) (by kernel_rfl) (fun _ _ _ h => h) (Or.inl ⟨by rfl, ?_⟩) (by assumption) ?_
                      rotate_left 1
                      · intro w hSw; (try dsimp only at hSw); go_simp <;> with_reducible rfl
                      (try simp only [Act.put]); (try simp only [List.setIfInBounds_toArray]); (try simp only [List.set_cons_succ]); (try simp only [List.set_cons_zero])
                      refine wpAnyH_ready (rs := [10]) (by kernel_rfl) (by simp) ?_
                      refine AllReadyH.cons (o := ⟨_, _, _, _, _, _⟩) rfl (fun K hK => ?_) AllReadyH.nil
                      have hx := hT.cell j (v := .string vv) HVV.out
                      have hj0 : 0 ≤ (j : Int) := by omega
                      go_simp
                      clear hx hj0
                      refine hK.out _ _ ?_ (fun hHeld => ?_)
                      · exact (hM.keep hO.2).cell k _ HIM.out
                      clear hK K
                      (try simp only [Act.put]); (try simp only [List.setIfInBounds_toArray]); (try simp only [List.set_cons_succ]); (try simp only [List.set_cons_zero])
                      refine wpAnyH_take (i := 11) (oi := ⟨_, _, _, _, _, _⟩) (v := ?_) rfl (by kernel_rfl) (by kernel_rfl) (by kernel_rfl) (fun _ _ _ h => h) (Or.inl ⟨by rfl, ?_⟩) (by assumption) ?_
                      rotate_left 1
                      · intro w hSw; (try dsimp only at hSw); go_simp <;> with_reducible rfl
                      (try simp only [Act.put]); (try simp only [List.setIfInBounds_toArray]); (try simp only [List.set_cons_succ]); (try simp only [List.set_cons_zero])
                      refine wpAnyH_ready (rs := [12]) (by kernel_rfl) (by simp) ?_
                      refine AllReadyH.cons (o := ⟨_, _, _, _, _, _⟩) rfl (fun K hK => ?_) AllReadyH.nil
                      go_simp
                      have r1 : Rd (V1.alloc (.cells #[.int .i64 kd, .int .i64 s, .int .i64 d, .string vv] 53)) (some ⟨V1.heap.size, 0, none⟩) 1 1 4 (cl [(⟨(kd : Int), (s : Int), (d : Int), vv⟩ : Ct)]) := rd_new 53 4 V1 _ 1 (by decide) rfl
                      have kA := (Keeps.refl V1).alloc (.cells #[.int .i64 kd, .int .i64 s, .int .i64 d, .string vv] 53)
                      replace hO := hO.keep kA
                      clear kA
                      generalize V1.alloc (.cells #[.int .i64 kd, .int .i64 s, .int .i64 d, .string vv] 53) = V2 at *
                      generalize V1.heap.size = BQ at *
                      refine hK.out _ _ ?_ (fun hHeld => ?_)
                      · exact (hM.keep hO.2).cell k _ HIM.out
                      clear hK K
                      (try simp only [Act.put]); (try simp only [List.setIfInBounds_toArray]); (try simp only [List.set_cons_succ]); (try simp only [List.set_cons_zero])
                      refine wpAnyH_ready (rs := [13]) (by kernel_rfl) (by simp) ?_
                      refine AllReadyH.cons (o := ⟨_, _, _, _, _, _⟩) rfl (fun K hK => ?_) AllReadyH.nil
                      have HO := Lib.hid hO
                      refine step_app ty_cl rfl _ _ rfl HO.out rfl rfl r1 (cl_cells _) (by have := HLB.out; omega) ?_
                      intro v' V3 hO' hgr
                      dsimp only
                      obtain ⟨a9, c9, rfl, _⟩ := hO'.rd
                      rw [← cl_append] at hO'
                      obtain ⟨L', hL'⟩ : ∃ L', L' = L ++ [(⟨(kd : Int), (s : Int), (d : Int), vv⟩ : Ct)] := ⟨_, rfl⟩
                      rw [len_snoc9 L (⟨(kd : Int), (s : Int), (d : Int), vv⟩ : Ct), ← hL'] at hO' ⊢
                      have HL' := Lib.hid hL'
                      clear hL' HO r1 hgr hO hT
                      have hO := hO'
                      clear hO'
                      refine hK.out _ _ ?_ (fun hHeld => ?_)
                      · exact (hM.keep hO.2).cell k _ HIM.out
                      clear hK K
                      (try simp only [Act.put]); (try simp only [List.setIfInBounds_toArray]); (try simp only [List.set_cons_succ]); (try simp only [List.set_cons_zero])
                      refine wpAnyH_take (i := 14) (oi := ⟨_, _, _, _, _, _⟩) (v := ?_) rfl (by kernel_rfl) (by kernel_rfl) (by kernel_rfl) (fun _ _ _ h => h) (Or.inl ⟨by rfl, ?_⟩) (by assumption) ?_
                      rotate_left 1
                      · intro w hSw; (try dsimp only at hSw); go_simp <;> with_reducible rfl
                      (try simp only [Act.put]); (try simp only [List.setIfInBounds_toArray]); (try simp only [List.set_cons_succ]); (try simp only [List.set_cons_zero])
                      refine wpAnyH_done (by kernel_rfl) ?_ _
                      have HOF := Lib.hid hO
                      clear hO
                      go_wp2_with fail
                      go_roundw
                      case rel => exact ⟨k + 1, L', by omega, by go_num, HOF.out, Lib.hid (by rw [HL'.out, HLL.out, cnT HCN.out, cnT HCN.out, HTS.out, List.append_assoc]), Lib.hid (by rw [HL'.out, List.length_append, List.length_singleton]; have := HB4.out; omega)⟩
                      case measure => simp [RowKit.intOf]; omega
                · have e1 : k = M.length := by omega
                  have HO := Lib.hid hO
                  have HFL : Hid (L = L2 ++ cnL (cnd byz source s kd) (lieV n byz s kd (j + 1))) := Lib.hid (by rw [HLL.out, HL3.out, List.append_assoc, HTA.out s kd j _ hj2 k (by omega)])
                  clear hO e1
                  go_wp2_with fail
                  go_roundw
                  case rel => exact ⟨j + 1, L, by omega, by go_num, HO.out, HFL, Lib.hid (by have h3 := HB3.out; have h4 := HB4.out; have h5 := HML.out; omega)⟩
                  case measure => simp [RowKit.intOf]; omega
            · have e1 : j = 2 := by omega
              have HFL : Hid (L3 = L1 ++ kL n byz source s kd) := Lib.hid (by rw [HL3.out, HL2.out, e1, HKS.out, List.append_assoc])
              clear e1
              go_wp2_with fail
              go_roundw
              case rel => exact ⟨kd, L3, by omega, by go_num, HO.out, HFL, Lib.hid (by have h2 := HB2.out; have h3 := HB3.out; have h4 := HKD.out; omega)⟩
              case measure => have := HKD.out; simp [RowKit.intOf]; omega
        · have e1 : jk = 3 := by omega
          have HFL : Hid (L2 = lieI n byz source (s + 1)) := Lib.hid (by rw [HL2.out, HL1.out, e1, iL_succ])
          have hle : ¬ ((kd : Int) ≤ 3) := by omega
          clear hkd
          go_wp2_with fail
          go_roundw
          case rel => exact ⟨s + 1, L2, by omega, by go_num, HO.out, HFL, Lib.hid (by have h1 := HB1.out; have h2 := HB2.out; omega)⟩
          case measure => simp [RowKit.intOf]; omega
    · have e1 : s = n := by omega
      have HO := Lib.hid hO
      have HFL : Hid (L1 = LI) := Lib.hid (by rw [HL1.out, e1, HLI.out])
      clear hO e1
      go_wp2_with fail
      go_ret
      exact ⟨_, rfl, by rw [← HFL.out]; exact HO.out.since HK2.out⟩
end Go.Proofs.YtbcfkgolhklkaaaDoor
