/- Texts joined into one, what is needed of them (a program of ours). -/
import Derived.Test.YtbcfkgolhklkaaaDoorEKO
namespace Go.Proofs.YtbcfkgolhklkaaaDoor
open Go.RowKit Go.Lib Go.Shelf

/-- the run that a value holds -/
structure CD where
  n : Int
  byz : S
  src : Int
  st : St
def RdH (W : World) (z : NA) : Prop := Rd W z.ae z.x.echoes.length z.ce 2 (hl z.x.echoes) ∧ Rd W z.ar z.x.readies.length z.cr 2 (hl z.x.readies)
theorem RdH.keep {W W' : World} {z : NA} (h : RdH W z) (k : Keeps W W') : RdH W' z := ⟨h.1.keep k, h.2.keep k⟩
theorem NOk.rdh {W : World} {z : NA} (h : NOk W z) : RdH W z := ⟨h.1.rd, h.2.rd⟩
def HasC (W : World) (c : CD) (v : Value) : Prop := ∃ an cn nas ag cg, v = vCast c.n c.byz c.src (.slice an nas.length cn) (.slice ag c.st.flight.length cg) ∧ Rd W an nas.length cn 9 (nl nas) ∧ Rd W ag c.st.flight.length cg 4 (cl c.st.flight) ∧ (∀ z ∈ nas, RdH W z) ∧ nas.map NA.x = c.st.nodes
theorem HasC.keep {W W' : World} {c : CD} {v : Value} (h : HasC W c v) (k : Keeps W W') : HasC W' c v := by
  obtain ⟨an, cn, nas, ag, cg, rfl, h1, h2, h3, h4⟩ := h
  exact ⟨an, cn, nas, ag, cg, rfl, h1.keep k, h2.keep k, fun z hz => (h3 z hz).keep k, h4⟩
def cd0 : CD := ⟨0, 0#16, 0, ⟨[], []⟩⟩
theorem hasC_zero (W : World) : HasC W cd0 zCast := ⟨none, 0, [], none, 0, rfl, (Own.nil 46 9 (Keeps.refl W)).row0.rd, (Own.nil 53 4 (Keeps.refl W)).row0.rd, fun z hz => (by cases hz), rfl⟩
theorem hasC_own {w w' : World} {N : Int} {byz : S} {source : Int} {nv gv : Value} {nas : List NA} {fl : List Ct} (h1 : Own 46 9 w w' nv nas.length (nl nas)) (h2 : Own 53 4 w w' gv fl.length (cl fl)) (h3 : ∀ z ∈ nas, NOk w' z) : HasC w' ⟨N, byz, source, ⟨nas.map NA.x, fl⟩⟩ (vCast N byz source nv gv) := by
  obtain ⟨an, cn, rfl, r1⟩ := h1.rd
  obtain ⟨ag, cg, rfl, r2⟩ := h2.rd
  exact ⟨an, cn, nas, ag, cg, rfl, r1, r2, fun z hz => (h3 z hz).rdh, rfl⟩
/-- a run or an error -/
def RetC (w : World) (er : Int) (c : CD) (e : Ending) (w' : World) : Prop := Keeps w w' ∧ ∃ v, e = .returned (.tuple #[v, .int .i64 er]) ∧ HasC w' (if er = 0 then c else cd0) v
def runE (f b : List S) (N : Int) (byz : S) (source : Int) (m : Nat) : Int := if N < 1 ∨ 8 < N ∨ byz >>> N.toNat ≠ 0#16 ∨ source < 0 ∨ N ≤ source then 7 else lstErr f b N.toNat m
theorem runE_bad {f b : List S} {N : Int} {byz : S} {source : Int} {m : Nat} (h : ¬ RngOk N byz source) : runE f b N byz source m = 7 := by
  unfold runE
  rw [if_pos]
  apply Classical.byContradiction
  intro h2
  simp only [not_or, Decidable.not_not] at h2
  exact h ⟨by omega, by omega, h2.2.2.1, by omega, by omega⟩
theorem runE_ok {f b : List S} {N : Int} {byz : S} {source : Int} {m : Nat} (h : RngOk N byz source) : runE f b N byz source m = lstErr f b N.toNat m := by
  obtain ⟨h1, h2, h3, h4, h5⟩ := h
  unfold runE
  rw [if_neg]
  simp only [not_or, Decidable.not_not]
  exact ⟨by omega, by omega, h3, by omega, by omega⟩
theorem runC_any (w : World) (fa : Option Addr) (fm fc : Nat) (f : List S) (ba : Option Addr) (bm bc : Nat) (b : List S) (N : Int) (byz : S) (source : Int) (ca : Option Addr) (cm cc : Nat) (chs : List Nat)
    (hf : Rd w fa fm fc 1 (sl f)) (hb : Rd w ba bm bc 1 (sl b)) (hch : Rd w ca cm cc 1 (bl chs)) (h256 : ∀ c ∈ chs, c < 256) (hcl : chs.length ≤ 1000000) :
    Calls Tryd.prog 10 #[.slice fa fm fc, .slice ba bm bc, .int .i64 N, .int .u16 (sv byz), .int .i64 source, .slice ca cm cc] w fun e w' => RetC w (runE f b N byz source chs.length) ⟨N, byz, source, runS f b N.toNat byz (lieL N.toNat byz source.toNat strX strY) (startS N.toNat byz source.toNat strX 0) chs⟩ e w' := by
  have hm : cm = chs.length := by have := hch.len; simpa [bl] using this.symm
  subst hm
  by_cases hr : RngOk N byz source
  · rw [runE_ok hr]
    obtain ⟨h1, h2, h3, h4, h5⟩ := hr
    obtain ⟨n, rfl⟩ : ∃ n : Nat, N = n := ⟨N.toNat, by omega⟩
    obtain ⟨s, rfl⟩ : ∃ s : Nat, source = s := ⟨source.toNat, by omega⟩
    rw [Int.toNat_natCast] at h3 ⊢
    rw [Int.toNat_natCast]
    by_cases he : lstErr f b n chs.length = 0
    · have hc : chk39 f b n = 0 ∧ chs.length ≤ 200 := by
        unfold lstErr at he
        split at he
        · rename_i h; exact absurd he h
        · rename_i h
          split at he
          · cases he
          · exact ⟨by omega, by omega⟩
      refine (runOk39_any w fa fm fc f ba bm bc b n byz s ca _ cc chs hf hb hch (by omega) (by omega) h3 (by omega) hc.1 hc.2 h256).mono ?_
      rintro e w' ⟨nv, nas, gv, fl, rfl, o1, o2, o3, hst⟩
      refine ⟨o1.2, _, by rw [he], ?_⟩
      rw [if_pos he, hst]
      exact hasC_own o1 o2 o3
    · refine (runList_any w fa fm fc f ba bm bc b n byz s ca _ cc hf hb (by omega) (by omega) h3 (by omega) he hcl).mono ?_
      rintro e w' ⟨rfl, k⟩
      refine ⟨k, _, rfl, ?_⟩
      rw [if_neg he]
      exact hasC_zero w'
  · rw [runE_bad hr]
    refine (runRange_any w _ _ _ N byz source hr).mono ?_
    rintro e w' ⟨rfl, k⟩
    exact ⟨k, _, rfl, hasC_zero w'⟩
theorem settleC_any (w : World) (fa : Option Addr) (fm fc : Nat) (f : List S) (ba : Option Addr) (bm bc : Nat) (b : List S) (c : CD) (v : Value)
    (hf : Rd w fa fm fc 1 (sl f)) (hb : Rd w ba bm bc 1 (sl b)) (hv : HasC w c v) (hfl : c.st.flight.length ≤ 10000) (hnn : c.st.nodes.length ≤ 10000) (hsm : SmallS c.st) :
    Calls Tryd.prog 23 #[.slice fa fm fc, .slice ba bm bc, v] w fun e w' => RetC w (setE f b c.n c.byz c.st.nodes c.st.flight) ⟨c.n, c.byz, c.src, settleS f b c.n.toNat c.byz c.st⟩ e w' := by
  obtain ⟨an, cn, nas, ag, cg, rfl, h1, h2, h3, h4⟩ := hv
  obtain ⟨N, byz, source, nodes, fl⟩ := c
  dsimp only at *
  subst h4
  rw [List.length_map] at hnn
  refine (settle39_any w fa fm fc f ba bm bc b N byz source an cn nas ag cg fl hf hb h1 h2 hfl hnn h3 hsm).mono ?_
  rintro e w' ⟨k, ⟨he, rfl⟩ | ⟨he, nv, nas', gv, fl', rfl, o1, o2, o3, hst⟩⟩
  · refine ⟨k, _, rfl, ?_⟩
    rw [if_neg he]
    exact hasC_zero w'
  · refine ⟨k, _, by rw [he], ?_⟩
    rw [if_pos he, hst]
    exact hasC_own o1 o2 o3
theorem attackC_any (w : World) (hT : Tab w) (fa : Option Addr) (fm fc : Nat) (f : List S) (ba : Option Addr) (bm bc : Nat) (b : List S) (N : Int) (hf : Rd w fa fm fc 1 (sl f)) (hb : Rd w ba bm bc 1 (sl b)) :
    Calls Tryd.prog 13 #[.slice fa fm fc, .slice ba bm bc, .int .i64 N] w fun e w' => RetC w (atkE f b N) ((splI N.toNat b f).elim cd0 fun r => ⟨N, r.2.2, tzS r.2.2, atkS f b N.toNat r.1 r.2.1 r.2.2⟩) e w' := by
  refine (attack39_any w hT fa fm fc f ba bm bc b N hf hb).mono ?_
  rintro e w' ⟨k, ⟨he, rfl⟩ | ⟨he, q, p, t, hs, nv, nas', gv, fl', rfl, o1, o2, o3, hst⟩⟩
  · refine ⟨k, _, rfl, ?_⟩
    rw [if_neg he]
    exact hasC_zero w'
  · refine ⟨k, _, by rw [he], ?_⟩
    rw [if_pos he, hs]
    show HasC w' ⟨N, t, tzS t, atkS f b N.toNat q p t⟩ _
    rw [hst]
    exact hasC_own o1 o2 o3
def delC (c : CD) : List Str := delL c.byz c.st.nodes
theorem deliveredC_any (w : World) (c : CD) (v : Value) (hv : HasC w c v) (hnn : c.st.nodes.length ≤ 1000000) :
    Calls Tryd.prog 27 #[v] w fun e w' => ∃ u, e = .returned u ∧ Own 9 1 w w' u (delC c).length (stl (delC c)) := by
  obtain ⟨an, cn, nas, ag, cg, rfl, h1, h2, h3, h4⟩ := hv
  unfold delC
  rw [← h4] at hnn ⊢
  rw [List.length_map] at hnn
  exact deliveredL_any w _ _ _ an cn nas _ h1 hnn
theorem consistentC_any (w : World) (c : CD) (v : Value) (hv : HasC w c v) (hnn : c.st.nodes.length ≤ 1000000) :
    Calls Tryd.prog 29 #[v] w fun e w' => e = .returned (.bool (consB (delC c))) ∧ Keeps w w' := by
  obtain ⟨an, cn, nas, ag, cg, rfl, h1, h2, h3, h4⟩ := hv
  unfold delC
  rw [← h4] at hnn ⊢
  rw [List.length_map] at hnn
  exact consistent39_any w _ _ _ an cn nas _ h1 hnn
end Go.Proofs.YtbcfkgolhklkaaaDoor
namespace Go.Proofs.YtbcfkgolhklkaaaDoor
open Go.RowKit Go.Lib Go.Shelf

def eqT (l m : List Str) : Bool := decide (l = m)
theorem stl_rdlen {w : World} {a : Option Addr} {n c : Nat} {l : List Str} (h : Rd w a n c 1 (stl l)) : l.length = n := by have := h.len; simpa [stl] using this
set_option maxHeartbeats 1600000 in
theorem equalT_any (a1 : Option Addr) (n1 c1 : Nat) (l : List Str) (a2 : Option Addr) (n2 c2 : Nat) (m : List Str) (w : World) (h1 : Rd w a1 n1 c1 1 (stl l)) (h2 : Rd w a2 n2 c2 1 (stl m)) :
    Calls Tryd.prog 26 #[.slice a1 n1 c1, .slice a2 n2 c2] w fun e w' => e = .returned (.bool (eqT l m)) ∧ Keeps w w' := by
  have l1 := stl_rdlen h1
  have l2 := stl_rdlen h2
  have s1 := h1.small; have s2 := h2.small
  by_cases hn : n1 = n2
  · subst hn
    have L1 := Lib.hid l1; have L2 := Lib.hid l2
    clear l1 l2
    go_enter Tryd.func26, Tryd.ntmps26
    go_wp2_with fail
    go_loopw [13] (fun u wr => ∃ k : Nat, k ≤ n1 ∧ u = .int .i64 k ∧ Keeps w wr ∧ Hid (eqT l m = eqT (l.drop k) (m.drop k))) (fun u _ => n1 - (RowKit.intOf u).toNat)
    case atStart => exact ⟨0, Nat.zero_le _, rfl, Keeps.refl _, rfl⟩
    case round =>
      obtain ⟨k, hk, rfl, K, HE⟩ := hrel
      by_cases hlt : k < n1
      · have g1 := stl_at (h1.keep K) hlt
        have g2 := stl_at (h2.keep K) hlt
        have a1s := h1.isSome (by omega)
        have a2s := h2.isSome (by omega)
        have HD1 := Lib.hid (drop_stA l k (by have := L1.out; omega))
        have HD2 := Lib.hid (drop_stA m k (by have := L2.out; omega))
        generalize stA l k = x at *
        generalize stA m k = y at *
        by_cases hxy : x = y
        · have HX := Lib.hid hxy
          have hb : (decide (x = y)) = true := decide_eq_true hxy
          subst hxy
          go_wp2_with fail
          go_quiet (fail)
          go_wp2_with fail
          go_roundw
          case rel => exact ⟨k + 1, by omega, by go_num, K.drewN _, hrfl <| by rw [HE.out, HD1.out, HD2.out]; unfold eqT; simp⟩
          case measure => simp [RowKit.intOf]; omega
        · have HX := Lib.hid hxy
          have HF : Hid (eqT l m = false) := Lib.hid (by rw [HE.out, HD1.out, HD2.out]; unfold eqT; simp [hxy])
          go_wp2_with fail
          go_quiet (fail)
          go_wp2_with fail
          go_ret
          exact ⟨by rw [HF.out]; rfl, K.drewN _⟩
      · have HT : Hid (eqT l m = true) := Lib.hid (by
          rw [HE.out, List.drop_of_length_le (by have := L1.out; omega), List.drop_of_length_le (by have := L2.out; omega)]; rfl)
        have HK := Lib.hid K
        clear K
        go_wp2_with fail
        go_ret
        exact ⟨by rw [HT.out]; rfl, HK.out⟩
  · have hb : (((n1 : Nat) : Int) != ((n2 : Nat) : Int)) = true := by rw [bne_iff_ne]; omega
    have HF : Hid (eqT l m = false) := Lib.hid (by unfold eqT; rw [decide_eq_false]; intro h; rw [h] at l1; omega)
    clear l1 l2
    go_enter Tryd.func26, Tryd.ntmps26
    go_wp2_with fail
    go_ret
    exact ⟨by rw [HF.out]; rfl, Keeps.refl _⟩
def aw3 : List S := [7#16, 11#16, 13#16, 14#16]
def aw2 : List S := [3#16, 5#16, 6#16, 9#16, 10#16, 12#16]
def aw1 : List S := [1#16, 2#16, 4#16, 8#16]
theorem aw_runE : runE aw3 aw1 4 0#16 0 0 = 0 := by decide +kernel
theorem aw_setE : setE aw3 aw1 4 0#16 (startS 4 0#16 0 strX 0).nodes (startS 4 0#16 0 strX 0).flight = 0 := by decide +kernel
theorem aw_del : delL 0#16 (settleS aw3 aw1 4 0#16 (startS 4 0#16 0 strX 0)).nodes = [strX, strX, strX, strX] := by decide +kernel
theorem aw_spl2 : splI 4 aw1 aw2 = some (3#16, 5#16, 1#16) := by decide +kernel
theorem aw_atk : delL 1#16 (atkS aw2 aw1 4 3#16 5#16 1#16).nodes = [strX, strY] := by decide +kernel
theorem aw_atkE : atkE aw2 aw1 4 = 0 := by decide +kernel
theorem aw_atkE2 : atkE aw3 aw1 4 = 13 := by decide +kernel
theorem aw_tz : tzS 1#16 = 0 := by decide +kernel
end Go.Proofs.YtbcfkgolhklkaaaDoor
namespace Go.Proofs.YtbcfkgolhklkaaaDoor
open Go.RowKit Go.Lib Go.Shelf

def cdR : CD := ⟨4, 0#16, 0, startS 4 0#16 0 strX 0⟩
def cdS : CD := ⟨4, 0#16, 0, settleS aw3 aw1 4 0#16 (startS 4 0#16 0 strX 0)⟩
def cdA : CD := ⟨4, 1#16, 0, atkS aw2 aw1 4 3#16 5#16 1#16⟩
theorem cdR_len : cdR.st.flight.length ≤ 10000 ∧ cdR.st.nodes.length ≤ 10000 ∧ cdS.st.nodes.length ≤ 1000000 ∧ cdA.st.nodes.length ≤ 1000000 := by decide +kernel
theorem cdR_small : SmallS cdR.st := (AOk.start 4 (by decide)).sm
theorem aw_run (w : World) (fa : Option Addr) (fm fc : Nat) (ba : Option Addr) (bm bc : Nat) (hf : Rd w fa fm fc 1 (sl aw3)) (hb : Rd w ba bm bc 1 (sl aw1)) :
    Calls Tryd.prog 10 #[.slice fa fm fc, .slice ba bm bc, .int .i64 4, .int .u16 0, .int .i64 0, .slice none 0 0] w fun e w' => Keeps w w' ∧ ∃ v, e = .returned (.tuple #[v, .int .i64 0]) ∧ HasC w' cdR v := by
  have h := runC_any w fa fm fc aw3 ba bm bc aw1 4 0#16 0 none 0 0 [] hf hb (Own.nil 5 1 (Keeps.refl w)).row0.rd (fun c hc => by cases hc) (by decide)
  refine h.mono ?_
  rintro e w' ⟨k, v, rfl, hv⟩
  have e0 : runE aw3 aw1 4 0#16 0 ([] : List Nat).length = 0 := aw_runE
  rw [e0] at hv ⊢
  rw [if_pos rfl] at hv
  exact ⟨k, v, rfl, hv⟩
theorem aw_settle (w : World) (fa : Option Addr) (fm fc : Nat) (ba : Option Addr) (bm bc : Nat) (hf : Rd w fa fm fc 1 (sl aw3)) (hb : Rd w ba bm bc 1 (sl aw1)) (v : Value) (hv : HasC w cdR v) :
    Calls Tryd.prog 23 #[.slice fa fm fc, .slice ba bm bc, v] w fun e w' => Keeps w w' ∧ ∃ v, e = .returned (.tuple #[v, .int .i64 0]) ∧ HasC w' cdS v := by
  have h := settleC_any w fa fm fc aw3 ba bm bc aw1 cdR v hf hb hv cdR_len.1 cdR_len.2.1 cdR_small
  refine h.mono ?_
  rintro e w' ⟨k, v, rfl, hv⟩
  have e0 : setE aw3 aw1 cdR.n cdR.byz cdR.st.nodes cdR.st.flight = 0 := aw_setE
  rw [e0] at hv ⊢
  rw [if_pos rfl] at hv
  exact ⟨k, v, rfl, hv⟩
theorem aw_attack (w : World) (hT : Tab w) (fa : Option Addr) (fm fc : Nat) (ba : Option Addr) (bm bc : Nat) (hf : Rd w fa fm fc 1 (sl aw2)) (hb : Rd w ba bm bc 1 (sl aw1)) :
    Calls Tryd.prog 13 #[.slice fa fm fc, .slice ba bm bc, .int .i64 4] w fun e w' => Keeps w w' ∧ ∃ v, e = .returned (.tuple #[v, .int .i64 0]) ∧ HasC w' cdA v := by
  have h := attackC_any w hT fa fm fc aw2 ba bm bc aw1 4 hf hb
  refine h.mono ?_
  rintro e w' ⟨k, v, rfl, hv⟩
  have e1 : splI (4 : Int).toNat aw1 aw2 = some (3#16, 5#16, 1#16) := aw_spl2
  rw [aw_atkE, e1] at hv
  rw [if_pos rfl] at hv
  refine ⟨k, v, by rw [aw_atkE], ?_⟩
  have e2 : cdA = ⟨4, 1#16, (tzS 1#16 : Nat), atkS aw2 aw1 4 3#16 5#16 1#16⟩ := by rw [aw_tz]; rfl
  rw [e2]
  exact hv
theorem aw_attack2 (w : World) (hT : Tab w) (fa : Option Addr) (fm fc : Nat) (ba : Option Addr) (bm bc : Nat) (hf : Rd w fa fm fc 1 (sl aw3)) (hb : Rd w ba bm bc 1 (sl aw1)) :
    Calls Tryd.prog 13 #[.slice fa fm fc, .slice ba bm bc, .int .i64 4] w fun e w' => Keeps w w' ∧ ∃ v, e = .returned (.tuple #[v, .int .i64 13]) ∧ HasC w' cd0 v := by
  have h := attackC_any w hT fa fm fc aw3 ba bm bc aw1 4 hf hb
  refine h.mono ?_
  rintro e w' ⟨k, v, rfl, hv⟩
  rw [aw_atkE2] at hv
  rw [if_neg (by decide)] at hv
  exact ⟨k, v, by rw [aw_atkE2], hv⟩
set_option maxHeartbeats 4000000 in
set_option maxRecDepth 20000 in
theorem awake39_any (w : World) (hT : Tab w) : Calls Tryd.prog 9 #[] w fun e w' => e = .returned (.bool true) ∧ Keeps w w' := by
  have hs : ∀ (W : World) o, (W.alloc o).heap.size = W.heap.size + 1 := fun W o => World.size_alloc ..
  have k1 := (Keeps.refl w).alloc (.cells #[.int .u16 7, .int .u16 11, .int .u16 13, .int .u16 14] 24)
  have k2 := (Keeps.refl (w.alloc (.cells #[.int .u16 7, .int .u16 11, .int .u16 13, .int .u16 14] 24))).alloc (.cells #[.int .u16 3, .int .u16 5, .int .u16 6, .int .u16 9, .int .u16 10, .int .u16 12] 24)
  have k3 := (Keeps.refl ((w.alloc (.cells #[.int .u16 7, .int .u16 11, .int .u16 13, .int .u16 14] 24)).alloc (.cells #[.int .u16 3, .int .u16 5, .int .u16 6, .int .u16 9, .int .u16 10, .int .u16 12] 24))).alloc (.cells #[.int .u16 1, .int .u16 2, .int .u16 4, .int .u16 8] 24)
  have r3 : Rd (w.alloc (.cells #[.int .u16 7, .int .u16 11, .int .u16 13, .int .u16 14] 24)) (some ⟨w.heap.size, 0, none⟩) 4 4 1 (sl aw3) := rd_new 24 1 w _ 4 (by decide) rfl
  have r2 : Rd ((w.alloc (.cells #[.int .u16 7, .int .u16 11, .int .u16 13, .int .u16 14] 24)).alloc (.cells #[.int .u16 3, .int .u16 5, .int .u16 6, .int .u16 9, .int .u16 10, .int .u16 12] 24)) (some ⟨(w.alloc (.cells #[.int .u16 7, .int .u16 11, .int .u16 13, .int .u16 14] 24)).heap.size, 0, none⟩) 6 6 1 (sl aw2) := rd_new 24 1 _ _ 6 (by decide) rfl
  have r1 : Rd (((w.alloc (.cells #[.int .u16 7, .int .u16 11, .int .u16 13, .int .u16 14] 24)).alloc (.cells #[.int .u16 3, .int .u16 5, .int .u16 6, .int .u16 9, .int .u16 10, .int .u16 12] 24)).alloc (.cells #[.int .u16 1, .int .u16 2, .int .u16 4, .int .u16 8] 24)) (some ⟨((w.alloc (.cells #[.int .u16 7, .int .u16 11, .int .u16 13, .int .u16 14] 24)).alloc (.cells #[.int .u16 3, .int .u16 5, .int .u16 6, .int .u16 9, .int .u16 10, .int .u16 12] 24)).heap.size, 0, none⟩) 4 4 1 (sl aw1) := rd_new 24 1 _ _ 4 (by decide) rfl
  rw [hs, hs] at r1
  rw [hs] at r2
  have R3 := Lib.hid ((r3.keep k2).keep k3); have R2 := Lib.hid (r2.keep k3); have R1 := Lib.hid r1
  have HT := Lib.hid (hT.keep ((k1.trans k2).trans k3))
  have HK := Lib.hid ((k1.trans k2).trans k3)
  clear hs k1 k2 k3 r3 r2 r1 hT
  go_enter Tryd.func9, Tryd.ntmps9
  go_upto_region 2 with fail
  generalize (((w.alloc (.cells #[.int .u16 7, .int .u16 11, .int .u16 13, .int .u16 14] 24)).alloc (.cells #[.int .u16 3, .int .u16 5, .int .u16 6, .int .u16 9, .int .u16 10, .int .u16 12] 24)).alloc (.cells #[.int .u16 1, .int .u16 2, .int .u16 4, .int .u16 8] 24)) = WA at *
  have hc := aw_run WA _ _ _ _ _ _ R3.out R1.out
  have HC := Lib.hid hc
  clear hc
  go_wp2_with fail
  refine HC.out.mono ?_
  rintro e W1 ⟨kk, v, rfl, hv⟩
  clear HC
  have HV := hv
  obtain ⟨an1, cn1, nas1, ag1, cg1, rfl, _, _, _, _⟩ := hv
  unfold vCast at HV ⊢
  have R3 := Lib.hid (R3.out.keep kk); have R2 := Lib.hid (R2.out.keep kk); have R1 := Lib.hid (R1.out.keep kk); have HT := Lib.hid (HT.out.keep kk); have HK := Lib.hid (HK.out.trans kk)
  have kb := (Keeps.refl W1).alloc (.cells #[.int .i64 cdR.n, .int .u16 (sv cdR.byz), .int .i64 cdR.src, .slice an1 nas1.length cn1, .slice ag1 cdR.st.flight.length cg1] 32)
  have b1 := Blk.new W1 32 #[.int .i64 cdR.n, .int .u16 (sv cdR.byz), .int .i64 cdR.src, .slice an1 nas1.length cn1, .slice ag1 cdR.st.flight.length cg1]
  have HV := Lib.hid (HV.keep kb)
  have R3 := Lib.hid (R3.out.keep kb); have R2 := Lib.hid (R2.out.keep kb); have R1 := Lib.hid (R1.out.keep kb); have HT := Lib.hid (HT.out.keep kb); have HK := Lib.hid (HK.out.trans kb)
  have B1 := Lib.hid b1
  clear kk kb b1
  go_upto_region 3 with fail
  generalize W1.alloc (.cells #[.int .i64 cdR.n, .int .u16 (sv cdR.byz), .int .i64 cdR.src, .slice an1 nas1.length cn1, .slice ag1 cdR.st.flight.length cg1] 32) = V1 at *
  generalize W1.heap.size = P1 at *
  have HV1 := HV
  have HV1 := Lib.hid HV1.out
  clear HV
  have hc := aw_settle V1 _ _ _ _ _ _ R3.out R1.out _ HV1.out
  have HC := Lib.hid hc
  clear hc
  obtain ⟨x0, x1, x2, x3, x4⟩ := c5 B1.out
  go_wp2_with fail
  refine HC.out.mono ?_
  rintro e W2 ⟨kk, v, rfl, hv⟩
  clear HC
  clear x0 x1 x2 x3 x4
  have HV2 := hv
  obtain ⟨an2, cn2, nas2, ag2, cg2, rfl, _, _, _, _⟩ := hv
  unfold vCast at HV2 ⊢
  have kb := (Keeps.refl W2).alloc (.cells #[.int .i64 cdS.n, .int .u16 (sv cdS.byz), .int .i64 cdS.src, .slice an2 nas2.length cn2, .slice ag2 cdS.st.flight.length cg2] 32)
  have b2 := Blk.new W2 32 #[.int .i64 cdS.n, .int .u16 (sv cdS.byz), .int .i64 cdS.src, .slice an2 nas2.length cn2, .slice ag2 cdS.st.flight.length cg2]
  have HV2 := Lib.hid (HV2.keep kb)
  have B2 := Lib.hid b2
  have R3 := Lib.hid ((R3.out.keep kk).keep kb)
  have R2 := Lib.hid ((R2.out.keep kk).keep kb)
  have R1 := Lib.hid ((R1.out.keep kk).keep kb)
  have HT := Lib.hid ((HT.out.keep kk).keep kb)
  have HK := Lib.hid ((HK.out.trans kk).trans kb)
  have B1 := Lib.hid ((B1.out.keep kk).keep kb)
  have HV1 := Lib.hid ((HV1.out.keep kk).keep kb)
  clear kk kb b2
  go_upto_region 4 with fail
  generalize W2.alloc (.cells #[.int .i64 cdS.n, .int .u16 (sv cdS.byz), .int .i64 cdS.src, .slice an2 nas2.length cn2, .slice ag2 cdS.st.flight.length cg2] 32) = V2 at *
  generalize W2.heap.size = P2 at *
  have hc := aw_attack V2 HT.out _ _ _ _ _ _ R2.out R1.out
  have HC := Lib.hid hc
  clear hc
  go_wp2_with fail
  refine HC.out.mono ?_
  rintro e W3 ⟨kk, v, rfl, hv⟩
  clear HC
  have HV3 := hv
  obtain ⟨an3, cn3, nas3, ag3, cg3, rfl, _, _, _, _⟩ := hv
  unfold vCast at HV3 ⊢
  have kb := (Keeps.refl W3).alloc (.cells #[.int .i64 cdA.n, .int .u16 (sv cdA.byz), .int .i64 cdA.src, .slice an3 nas3.length cn3, .slice ag3 cdA.st.flight.length cg3] 32)
  have b3 := Blk.new W3 32 #[.int .i64 cdA.n, .int .u16 (sv cdA.byz), .int .i64 cdA.src, .slice an3 nas3.length cn3, .slice ag3 cdA.st.flight.length cg3]
  have HV3 := Lib.hid (HV3.keep kb)
  have B3 := Lib.hid b3
  have R3 := Lib.hid ((R3.out.keep kk).keep kb)
  have R2 := Lib.hid ((R2.out.keep kk).keep kb)
  have R1 := Lib.hid ((R1.out.keep kk).keep kb)
  have HT := Lib.hid ((HT.out.keep kk).keep kb)
  have HK := Lib.hid ((HK.out.trans kk).trans kb)
  have B1 := Lib.hid ((B1.out.keep kk).keep kb)
  have HV1 := Lib.hid ((HV1.out.keep kk).keep kb)
  have B2 := Lib.hid ((B2.out.keep kk).keep kb)
  have HV2 := Lib.hid ((HV2.out.keep kk).keep kb)
  clear kk kb b3
  go_upto_region 5 with fail
  generalize W3.alloc (.cells #[.int .i64 cdA.n, .int .u16 (sv cdA.byz), .int .i64 cdA.src, .slice an3 nas3.length cn3, .slice ag3 cdA.st.flight.length cg3] 32) = V3 at *
  generalize W3.heap.size = P3 at *
  have hc := aw_attack2 V3 HT.out _ _ _ _ _ _ R3.out R1.out
  have HC := Lib.hid hc
  clear hc
  go_wp2_with fail
  refine HC.out.mono ?_
  rintro e W4 ⟨kk, v, rfl, hv⟩
  clear HC
  have HV4 := hv
  obtain ⟨an4, cn4, nas4, ag4, cg4, rfl, _, _, _, _⟩ := hv
  unfold vCast at HV4 ⊢
  have kb := (Keeps.refl W4).alloc (.cells #[.int .i64 cd0.n, .int .u16 (sv cd0.byz), .int .i64 cd0.src, .slice an4 nas4.length cn4, .slice ag4 cd0.st.flight.length cg4] 32)
  have b4 := Blk.new W4 32 #[.int .i64 cd0.n, .int .u16 (sv cd0.byz), .int .i64 cd0.src, .slice an4 nas4.length cn4, .slice ag4 cd0.st.flight.length cg4]
  have HV4 := Lib.hid (HV4.keep kb)
  have B4 := Lib.hid b4
  have R3 := Lib.hid ((R3.out.keep kk).keep kb)
  have R2 := Lib.hid ((R2.out.keep kk).keep kb)
  have R1 := Lib.hid ((R1.out.keep kk).keep kb)
  have HT := Lib.hid ((HT.out.keep kk).keep kb)
  have HK := Lib.hid ((HK.out.trans kk).trans kb)
  have B1 := Lib.hid ((B1.out.keep kk).keep kb)
  have HV1 := Lib.hid ((HV1.out.keep kk).keep kb)
  have B2 := Lib.hid ((B2.out.keep kk).keep kb)
  have HV2 := Lib.hid ((HV2.out.keep kk).keep kb)
  have B3 := Lib.hid ((B3.out.keep kk).keep kb)
  have HV3 := Lib.hid ((HV3.out.keep kk).keep kb)
  clear kk kb b4
  go_upto_region 6 with fail
  generalize W4.alloc (.cells #[.int .i64 cd0.n, .int .u16 (sv cd0.byz), .int .i64 cd0.src, .slice an4 nas4.length cn4, .slice ag4 cd0.st.flight.length cg4] 32) = V4 at *
  generalize W4.heap.size = P4 at *
  have hc := deliveredC_any V4 cdS _ HV2.out cdR_len.2.2.1
  have e1 : delC cdS = [strX, strX, strX, strX] := aw_del
  rw [e1] at hc
  have HC := Lib.hid hc
  clear hc e1
  obtain ⟨x0, x1, x2, x3, x4⟩ := c5 B2.out
  go_wp2_with fail
  refine HC.out.mono ?_
  rintro e W5 ⟨u, rfl, hO⟩
  obtain ⟨au, cu, rfl, hr⟩ := hO.rd
  clear x0 x1 x2 x3 x4 HC
  have kb := (Keeps.refl W5).alloc (.cells #[.string ⟨#[120]⟩, .string ⟨#[120]⟩, .string ⟨#[120]⟩, .string ⟨#[120]⟩] 9)
  have rs : Rd (W5.alloc (.cells #[.string ⟨#[120]⟩, .string ⟨#[120]⟩, .string ⟨#[120]⟩, .string ⟨#[120]⟩] 9)) (some ⟨W5.heap.size, 0, none⟩) 4 4 1 (stl [strX, strX, strX, strX]) := rd_new 9 1 _ _ 4 (by decide) rfl
  have hq := equalT_any au 4 cu _ _ 4 4 _ _ (hr.keep kb) rs
  have e2 : eqT [strX, strX, strX, strX] [strX, strX, strX, strX] = true := by decide
  rw [e2] at hq
  have HQ := Lib.hid hq
  have B3 := Lib.hid ((B3.out.keep hO.2).keep kb)
  have HV3 := Lib.hid ((HV3.out.keep hO.2).keep kb)
  have HK := Lib.hid ((HK.out.trans hO.2).trans kb)
  clear hr hO hq e2 rs kb
  go_wp2_with fail
  refine HQ.out.mono ?_
  rintro e W6 ⟨rfl, k6⟩
  have B3 := Lib.hid (B3.out.keep k6)
  have HV3 := Lib.hid (HV3.out.keep k6)
  have HK := Lib.hid (HK.out.trans k6)
  clear HQ k6
  obtain ⟨x0, x1, x2, x3, x4⟩ := c5 B3.out
  have y1 : sv cdA.byz = 1 := rfl
  have y2 : cdA.src = 0 := rfl
  have y3 : cdA.n = 4 := rfl
  have hc := deliveredC_any W6 cdA _ HV3.out cdR_len.2.2.2
  have e1 : delC cdA = [strX, strY] := aw_atk
  rw [e1, y1, y2, y3] at hc
  have HC := Lib.hid hc
  clear hc e1
  go_wp2_with fail
  refine HC.out.mono ?_
  rintro e W7 ⟨u, rfl, hO⟩
  obtain ⟨a7, c7, rfl, hr⟩ := hO.rd
  clear x0 x1 x2 x3 x4 HC y1 y2 y3
  have kb := (Keeps.refl W7).alloc (.cells #[.string ⟨#[120]⟩, .string ⟨#[121]⟩] 9)
  have rs : Rd (W7.alloc (.cells #[.string ⟨#[120]⟩, .string ⟨#[121]⟩] 9)) (some ⟨W7.heap.size, 0, none⟩) 2 2 1 (stl [strX, strY]) := rd_new 9 1 _ _ 2 (by decide) rfl
  have hq := equalT_any a7 2 c7 _ _ 2 2 _ _ (hr.keep kb) rs
  have e2 : eqT [strX, strY] [strX, strY] = true := by decide
  rw [e2] at hq
  have HQ := Lib.hid hq
  have HK := Lib.hid ((HK.out.trans hO.2).trans kb)
  clear hr hO hq e2 rs kb
  go_wp2_with fail
  refine HQ.out.mono ?_
  rintro e W8 ⟨rfl, k8⟩
  have HK := Lib.hid (HK.out.trans k8)
  clear HQ k8
  go_wp2_with fail
  go_ret
  exact ⟨rfl, HK.out⟩
end Go.Proofs.YtbcfkgolhklkaaaDoor
