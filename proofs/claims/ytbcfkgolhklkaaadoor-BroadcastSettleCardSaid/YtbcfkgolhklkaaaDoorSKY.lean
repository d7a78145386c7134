/- Texts joined into one, what is needed of them (a program of ours). -/
import Derived.Test.YtbcfkgolhklkaaaDoorSKW
import Derived.Test.YtbcfkgolhklkaaaDoorSKU
namespace Go.Proofs.YtbcfkgolhklkaaaDoor
open Go.RowKit Go.Lib Go.Shelf

/-- a row that came in, or was made since -/
def RowB (w W : World) (T : TypeId) (sz : Nat) (a : Option Addr) (n c : Nat) (xs : List Value) : Prop := Rd W a n c sz xs ∧ (Rd w a n c sz xs ∨ Own T sz w W (.slice a n c) n xs)
theorem RowB.keep {w W W' : World} {T : TypeId} {sz : Nat} {a : Option Addr} {n c : Nat} {xs : List Value} (h : RowB w W T sz a n c xs) (k : Keeps W W') : RowB w W' T sz a n c xs :=
  ⟨h.1.keep k, h.2.imp id fun o => o.keep k⟩
theorem RowB.set {w W : World} {T' : TypeId} {sz : Nat} {a : Option Addr} {n c : Nat} {xs : List Value} (h : RowB w W T' sz a n c xs) {C : Nat} {T : TypeId} {cs : Array Value} (hC : Blk W C T cs) (hT : T ≠ T') (hlo : w.heap.size ≤ C) (J : Keeps w W) (i : Nat) (u : Value) : RowB w (W.setCell ⟨C, i, none⟩ u) T' sz a n c xs := by
  rcases h.2 with h2 | h2
  · exact ⟨h2.keep (keeps_set J hlo i u), .inl h2⟩
  · have h3 := own_oth9 h2 hC hT hlo i u
    exact ⟨h3.row0.rd, .inr h3⟩
theorem RowB.st5 {w W : World} {T' : TypeId} {sz : Nat} {a : Option Addr} {n c : Nat} {xs : List Value} (h : RowB w W T' sz a n c xs) {C : Nat} {T : TypeId} {cs : Array Value} (hC : Blk W C T cs) (hT : T ≠ T') (hlo : w.heap.size ≤ C) (J : Keeps w W) (u0 u1 u2 u3 u4 : Value) : RowB w (st5 W C u0 u1 u2 u3 u4) T' sz a n c xs := by
  have b1 := hC.set 0 u0; have b2 := b1.set 1 u1; have b3 := b2.set 2 u2; have b4 := b3.set 3 u3
  have J1 := keeps_set J hlo 0 u0; have J2 := keeps_set J1 hlo 1 u1; have J3 := keeps_set J2 hlo 2 u2; have J4 := keeps_set J3 hlo 3 u3
  exact ((((h.set hC hT hlo J 0 u0).set b1 hT hlo J1 1 u1).set b2 hT hlo J2 2 u2).set b3 hT hlo J3 3 u3).set b4 hT hlo J4 4 u4
theorem RowB.new {w W : World} {T : TypeId} {sz : Nat} {a : Option Addr} {n c : Nat} {xs : List Value} (h : Own T sz w W (.slice a n c) n xs) : RowB w W T sz a n c xs := ⟨h.row0.rd, .inr h⟩
theorem RowB.old {w W : World} {T : TypeId} {sz : Nat} {a : Option Addr} {n c : Nat} {xs : List Value} (h : Rd w a n c sz xs) (k : Keeps w W) : RowB w W T sz a n c xs := ⟨h.keep k, .inl h⟩
/-- the run that a value holds, whose rows came in or were made since -/
def HasB (w W : World) (c : CD) (v : Value) : Prop := ∃ an cn nas ag cg, v = vCast c.n c.byz c.src (.slice an nas.length cn) (.slice ag c.st.flight.length cg) ∧ RowB w W 46 9 an nas.length cn (nl nas) ∧ RowB w W 53 4 ag c.st.flight.length cg (cl c.st.flight) ∧ (∀ z ∈ nas, RPN w W z) ∧ nas.map NA.x = c.st.nodes
theorem HasB.toC {w W : World} {c : CD} {v : Value} (h : HasB w W c v) : HasC W c v := by
  obtain ⟨an, cn, nas, ag, cg, rfl, h1, h2, h3, h4⟩ := h
  exact ⟨an, cn, nas, ag, cg, rfl, h1.1, h2.1, fun z hz => (h3 z hz).rdh, h4⟩
theorem HasC.toB {w W : World} {c : CD} {v : Value} (h : HasC w c v) (k : Keeps w W) : HasB w W c v := by
  obtain ⟨an, cn, nas, ag, cg, rfl, h1, h2, h3, h4⟩ := h
  exact ⟨an, cn, nas, ag, cg, rfl, .old h1 k, .old h2 k, fun z hz => ⟨⟨(h3 z hz).1.keep k, .inl (h3 z hz).1⟩, ⟨(h3 z hz).2.keep k, .inl (h3 z hz).2⟩⟩, h4⟩
theorem HasB.keep {w W W' : World} {c : CD} {v : Value} (h : HasB w W c v) (k : Keeps W W') (J : Keeps w W) : HasB w W' c v := by
  obtain ⟨an, cn, nas, ag, cg, rfl, h1, h2, h3, h4⟩ := h
  exact ⟨an, cn, nas, ag, cg, rfl, h1.keep k, h2.keep k, fun z hz => (h3 z hz).keep k J, h4⟩
theorem HasB.st5 {w W : World} {c : CD} {v : Value} (h : HasB w W c v) {C : Nat} {cs : Array Value} (hC : Blk W C 32 cs) (hlo : w.heap.size ≤ C) (J : Keeps w W) (u0 u1 u2 u3 u4 : Value) : HasB w (st5 W C u0 u1 u2 u3 u4) c v := by
  obtain ⟨an, cn, nas, ag, cg, rfl, h1, h2, h3, h4⟩ := h
  exact ⟨an, cn, nas, ag, cg, rfl, h1.st5 hC (by decide) hlo J _ _ _ _ _, h2.st5 hC (by decide) hlo J _ _ _ _ _, fun z hz => (h3 z hz).set5 hC (by decide) hlo J _ _ _ _ _, h4⟩
theorem rdeliverB_any (fa : Option Addr) (fm fc : Nat) (f : List S) (ba : Option Addr) (bm bc : Nat) (b : List S) (n : Nat) (hn : n ≤ 12) (c : CD) (hcn : c.n = (n : Int)) (v : Value) (k : Nat) (w0 w : World) (J : Keeps w0 w)
    (hf : Rd w fa fm fc 1 (sl f)) (hb : Rd w ba bm bc 1 (sl b)) (hv : HasB w0 w c v) (hk : k < c.st.flight.length) (hdst : DstOk n c.st) (hn0 : c.st.nodes.length ≤ 1000) (hsm : SmallS c.st) (hfl : c.st.flight.length ≤ 90000) :
    Calls Tryd.prog 50 #[.slice fa fm fc, .slice ba bm bc, v, .int .i64 k] w fun e w' => ∃ v', e = .returned v' ∧ HasB w0 w' ⟨c.n, c.byz, c.src, deliv f b n c.byz c.st k⟩ v' ∧ Keeps w w' := by
  obtain ⟨an, cn, nas, ag, cg, rfl, h1, h2, h3, h4⟩ := hv
  obtain ⟨N, byz, source, nodes, fl⟩ := c
  dsimp only at *
  subst hcn
  subst h4
  rw [List.length_map] at hn0
  refine (rdeliver39_any fa fm fc f ba bm bc b n hn byz source an cn nas ag cg fl k w0 w J hf hb h1.1 h2.1 h3 hk (dst9' hdst hk) (small9 hsm) hfl hn0).mono ?_
  rintro e w' ⟨nv', nas', gv', fl', rfl, o1, o2, o3, hst⟩
  obtain ⟨an', cn', rfl, r1⟩ := o1.rd
  obtain ⟨ag', cg', rfl, r2⟩ := o2.rd
  rw [← hst]
  exact ⟨_, rfl, ⟨an', cn', nas', ag', cg', rfl, .new (o1.since J), .new (o2.since J), o3, rfl⟩, o1.2⟩
def geB (n : Nat) (x : S) : Bool := x >>> n != 0#16
theorem insB_any (l : List S) (n : Nat) : insB l n = !l.any (geB n) := rfl
theorem geB_iff (n : Nat) (hn : n < 16) (x : S) : decide (sv x ≥ sv (1#16 <<< n)) = geB n x := by
  unfold geB
  have e1 : (1#16 <<< n).toNat = 2 ^ n := by
    rw [BitVec.toNat_shiftLeft, Nat.shiftLeft_eq]
    have h2 : 2 ^ n ≤ 2 ^ 15 := Nat.pow_le_pow_right (by decide) (by omega)
    rw [Nat.mod_eq_of_lt (by simp; omega)]
    simp
  have e2 : (x >>> n).toNat = x.toNat / 2 ^ n := by rw [BitVec.toNat_ushiftRight, Nat.shiftRight_eq_div_pow]
  rw [Bool.eq_iff_iff, decide_eq_true_eq, bne_iff_ne]
  unfold sv
  rw [e1]
  have hp := Nat.pow_pos (n := n) (show 0 < 2 by decide)
  constructor
  · intro h hc
    have h3 := congrArg BitVec.toNat hc
    rw [e2] at h3
    have h5 : x.toNat / 2 ^ n = 0 := h3
    rcases Nat.div_eq_zero_iff.1 h5 with h6 | h6 <;> omega
  · intro h
    apply Classical.byContradiction
    intro hc
    apply h
    apply BitVec.eq_of_toNat_eq
    rw [e2, Nat.div_eq_of_lt (by omega)]
    rfl
end Go.Proofs.YtbcfkgolhklkaaaDoor
namespace Go.Proofs.YtbcfkgolhklkaaaDoor
open Go.RowKit Go.Lib Go.Shelf

set_option maxHeartbeats 2000000 in
theorem rlists39_any (n : Nat) (hn : n ≤ 8) (a1 : Option Addr) (m1 c1 : Nat) (f : List S) (a2 : Option Addr) (m2 c2 : Nat) (b : List S) (w : World) (h1 : Rd w a1 m1 c1 1 (sl f)) (h2 : Rd w a2 m2 c2 1 (sl b)) (hb1 : m1 ≤ 1000000) (hb2 : m2 ≤ 1000000) :
    Calls Tryd.prog 45 #[.slice a1 m1 c1, .slice a2 m2 c2, .int .i64 n] w fun e w' => e = .returned (.int .i64 (chk39 f b n)) ∧ Keeps w w' := by
  have hv := rValid_any a1 m1 c1 f w h1
  rw [rval_eq] at hv
  have hX : chk39 f b n = if validS f ≠ 0 then validS f else if ((f ++ b).any (geB n)) = true then 7 else 0 := by
    unfold chk39
    rw [insB_any, insB_any, List.any_append]
    cases f.any (geB n) <;> cases b.any (geB n) <;> rfl
  rw [hX]
  generalize validS f = v at hv hX ⊢
  have HV := Lib.hid hv
  have HF := Lib.hid h1; have HB := Lib.hid h2
  have l1 := h1.lenS; have l2 := h2.lenS
  clear hv hX h1 h2
  by_cases hv0 : v = 0
  · subst hv0
    have hbn : ((0 : Int) != 0) = false := rfl
    have HPOST : Hid ((if (0 : Int) ≠ 0 then (0 : Int) else if ((f ++ b).any (geB n)) = true then 7 else 0) = if ((f ++ b).any (geB n)) = true then 7 else 0) := Lib.hid (by rw [if_neg (by simp)])
    generalize (if (0 : Int) ≠ 0 then (0 : Int) else if ((f ++ b).any (geB n)) = true then 7 else 0) = res at HPOST ⊢
    go_enter Tryd.func45, Tryd.ntmps45
    go_wp2_with fail
    refine HV.out.mono ?_
    rintro e w1 ⟨rfl, k1⟩
    have ho := Own.made (e := 24) (sz := 1) (Keeps.refl w1) [] 0 (by decide) rfl
    have kA := (Keeps.refl w1).alloc (.cells #[] 24)
    have HO := Lib.hid ho; have HF1 := Lib.hid (HF.out.keep (k1.trans kA)); have HB1 := Lib.hid (HB.out.keep k1); have HK := Lib.hid k1
    clear ho kA k1 HV
    have hl1 : 0 + m1 ≤ 10000000 := by omega
    have hl2 : 0 + m1 + m2 ≤ 10000000 := by omega
    go_wp2_with (at_builtin; refine wp_app tyS rfl _ _ rfl HO.out rfl rfl HF1.out (sl_oneCell f) hl1 ?_)
    intro v' w2 hO hgr
    have HO2 := Lib.hid hO
    have HB2 := Lib.hid (HB1.out.keep hO.2)
    clear hO hgr HO HF1 HB1
    go_wp2_with (at_builtin; refine wp_app tyS rfl _ _ rfl HO2.out rfl rfl HB2.out (sl_oneCell b) (by omega) ?_)
    intro v'' w3 hO hgr
    rw [← sl_append] at hO
    obtain ⟨a3, c3, rfl, hr⟩ := hO.rd
    have HR := Lib.hid hr
    have HK3 := Lib.hid (HK.out.trans hO.2)
    have hlen : (f ++ b).length = m1 + m2 := by rw [List.length_append]; omega
    obtain ⟨L, hL⟩ : ∃ L, L = f ++ b := ⟨_, rfl⟩
    rw [← hL] at HR HPOST hlen
    have HLN := Lib.hid hlen
    obtain ⟨mm, hmm⟩ : ∃ m, m = m1 + m2 := ⟨_, rfl⟩
    rw [← hmm] at HR HLN ⊢
    have hmb : mm ≤ 2000000 := by omega
    clear hr hO hgr hL hlen hmm HO2 HB2 hbn
    go_wp2_with fail
    go_loopw [9] (fun u wr => ∃ k : Nat, k ≤ mm ∧ u = .int .i64 k ∧ Keeps w3 wr ∧ Hid (L.any (geB n) = (L.drop k).any (geB n))) (fun u _ => mm - (RowKit.intOf u).toNat)
    case atStart => exact ⟨0, Nat.zero_le _, rfl, Keeps.refl _, rfl⟩
    case round =>
      obtain ⟨k, hk, rfl, K, HA⟩ := hrel
      by_cases hlt : k < mm
      · have g0 := (HR.out.keep K).at hlt
        have hao := HR.out.isSome (by omega)
        have HD := Lib.hid (drop_at L k (by have := HLN.out; omega))
        have HG := Lib.hid (geB_iff n (by omega) (at_ L k))
        have hmin : min n 16 = n := by omega
        generalize at_ L k = x at *
        by_cases hq : sv (1#16 <<< n) ≤ sv x
        · have HT : Hid (L.any (geB n) = true) := Lib.hid (by rw [HA.out, HD.out, List.any_cons, ← HG.out]; simp [hq])
          have HKF := Lib.hid (HK3.out.trans K)
          go_wp2_with fail
          go_quiet (fail)
          go_wp2_with fail
          go_ret
          exact ⟨by rw [HPOST.out, HT.out]; rfl, HKF.out.drewN _⟩
        · have HT : Hid (L.any (geB n) = (L.drop (k + 1)).any (geB n)) := Lib.hid (by rw [HA.out, HD.out, List.any_cons, ← HG.out]; simp [hq])
          have HK4 := Lib.hid K
          clear K
          go_wp2_with fail
          go_quiet (fail)
          go_wp2_with fail
          go_roundw
          case rel => exact ⟨k + 1, by omega, by go_num, HK4.out.drewN _, HT⟩
          case measure => simp [RowKit.intOf]; omega
      · have HT : Hid (L.any (geB n) = false) := Lib.hid (by rw [HA.out, List.drop_of_length_le (by have := HLN.out; omega)]; rfl)
        have HKF := Lib.hid (HK3.out.trans K)
        clear K
        go_wp2_with fail
        go_ret
        exact ⟨by rw [HPOST.out, HT.out]; rfl, HKF.out⟩
  · have hvb : (v != 0) = true := by simpa using hv0
    have HP : Hid ((if v ≠ 0 then v else if ((f ++ b).any (geB n)) = true then 7 else 0) = v) := Lib.hid (if_pos hv0)
    generalize (if v ≠ 0 then v else if ((f ++ b).any (geB n)) = true then 7 else 0) = res at HP ⊢
    clear hv0
    go_enter Tryd.func45, Tryd.ntmps45
    go_wp2_with fail
    refine HV.out.mono ?_
    rintro e w1 ⟨rfl, k1⟩
    have HK := Lib.hid k1
    clear k1 HV
    go_wp2_with fail
    go_ret
    exact ⟨by rw [HP.out]; rfl, HK.out⟩
end Go.Proofs.YtbcfkgolhklkaaaDoor
namespace Go.Proofs.YtbcfkgolhklkaaaDoor
open Go.RowKit Go.Lib Go.Shelf

end Go.Proofs.YtbcfkgolhklkaaaDoor
