/- Texts joined into one (wip/bin/pack.py): SndG. -/
import Derived.Test.YtnlohknlchgfgaaGreatKZj
/- Sound at configurations that are valid; joint.Sound (under way). -/
namespace Go.Proofs.YtnlohknlchgfgaaGreat
open Go.RowKit Go.Lib Go.Shelf
def sndC (wt : S) (m : List F2) (x : CA) : Bool := soundS x.c.kd wt x.c.M x.c.R x.c.Q x.c.F m
theorem sndG_any (x : CA) (wt : S) (a : Option Addr) (n c : Nat) (m : List F2) (w : World) (h : RdG w x) (hm : Rd w a n c 2 (fl m)) (hn : n ≤ 1000000) (hv : cvf x.c = 0) :
    Calls Tryz.prog 56 #[vg x, .int .u16 (sv wt), .slice a n c] w fun e w' => e = .returned (.bool (sndC wt m x)) ∧ Keeps w w' := by
  haveI : NmOk x.c.nm := ⟨(cvf_cv hv).1⟩
  exact sound_any x.c.kd wt x.c.M a n c m w h hm hn
theorem sndPredJ (wt : S) (a : Option Addr) (n c : Nat) (m : List F2) (B C : Nat) (l : List CA) (w : World) (h0 : w.cell? ⟨B, 0, none⟩ = some (.int .u16 (sv wt))) (h1 : w.cell? ⟨C, 0, none⟩ = some (.slice a n c)) (hm : Rd w a n c 2 (fl m)) (hn : n ≤ 1000000) (hl : RdL w l) (hv : ValL l) :
    PredK Tryz.prog 55 #[.pointer (some ⟨B, 0, none⟩), .pointer (some ⟨C, 0, none⟩)] vg (fun x => !sndC wt m x) l w := fun W x hx hk => by
  have K0 := (Keeps.refl W).alloc (.cells #[.string x.c.nm, .int .i64 x.c.kd, .int .u16 (sv x.c.M), .slice x.ar x.c.R.length x.cr, .slice x.aw x.c.Q.length x.cw, .slice x.af x.c.F.length x.cf] 32)
  have hc := fun (W' : World) (k : Keeps W W') => sndG_any x wt a n c m W' (((hl x hx).keep hk).keep k) ((hm.keep hk).keep k) hn (hv x hx)
  have HC := Lib.hid hc
  have e2 := K0.cell (hk.cell h0)
  have e3 := K0.cell (hk.cell h1)
  clear hc h0 h1 hk hx hl hv hm
  show Calls Tryz.prog 55 #[vg x, .pointer (some ⟨B, 0, none⟩), .pointer (some ⟨C, 0, none⟩)] W fun e w' => e = .returned (.bool (!sndC wt m x)) ∧ Keeps W w'
  unfold vg at *
  generalize sndC wt m x = q at *
  go_enter Tryz.func55, Tryz.ntmps55
  go_wp2_with fail
  refine (HC.out _ K0).mono ?_; rintro e w' ⟨rfl, K2⟩
  go_wp2_with fail
  go_ret
  exact ⟨rfl, K0.trans K2⟩
theorem jsnd_any (a : Option Addr) (n c : Nat) (l : List CA) (wt : S) (am : Option Addr) (nm cm : Nat) (m : List F2) (w : World) (h : Rd w a n c 6 (gl l)) (hm : Rd w am nm cm 2 (fl m)) (hn : nm ≤ 1000000) (hl : RdL w l) (hv : ValL l) :
    Calls Tryz.prog 25 #[.slice a n c, .int .u16 (sv wt), .slice am nm cm] w fun e w' => e = .returned (.bool (l.all (sndC wt m))) ∧ Keeps w w' := by
  have hs : ∀ o, (w.alloc o).heap.size = w.heap.size + 1 := fun o => World.size_alloc ..
  have k1 := (Keeps.refl w).alloc (.cells #[.int .u16 (sv wt)] 29)
  have k2 := (Keeps.refl (w.alloc (.cells #[.int .u16 (sv wt)] 29))).alloc (.cells #[.slice am nm cm] 23)
  have hx : (w.alloc (.cells #[.int .u16 (sv wt)] 29)).cell? ⟨w.heap.size, 0, none⟩ = some (.int .u16 (sv wt)) := by rw [World.cell?_alloc_at _ _ _ _ rfl]; rfl
  have hy : ((w.alloc (.cells #[.int .u16 (sv wt)] 29)).alloc (.cells #[.slice am nm cm] 23)).cell? ⟨w.heap.size + 1, 0, none⟩ = some (.slice am nm cm) := by rw [← hs (.cells #[.int .u16 (sv wt)] 29), World.cell?_alloc_at _ _ _ _ rfl]; rfl
  have k3 := k1.trans k2
  have hc := containsFuncG_any a n c l _ 55 #[.pointer (some ⟨w.heap.size, 0, none⟩), .pointer (some ⟨w.heap.size + 1, 0, none⟩)] (fun x => !sndC wt m x) (h.keep k3) (enters_of Tryz.func55 (by kernel_rfl) rfl) (sndPredJ wt am nm cm m w.heap.size (w.heap.size + 1) l _ (k2.cell hx) hy (hm.keep k3) hn (hl.keep k3) hv)
  have hq : l.all (sndC wt m) = !(l.any fun x => !sndC wt m x) := by
    rw [List.not_any_eq_all_not]; simp
  rw [hq]
  clear hq
  have HC := Lib.hid hc
  clear hc hx hy h hm k1 k2 hs
  generalize (l.any fun x => !sndC wt m x) = q at *
  go_enter Tryz.func25, Tryz.ntmps25
  go_wp2_with (go_at_call 45; refine HC.out.mono ?_; rintro e w' ⟨rfl, K2⟩)
  go_ret
  exact ⟨rfl, k3.trans K2⟩
theorem rsound_any {nm : ByteArray} [NmOk nm] (kd : Int) (wt M : S) {ar : Option Addr} {cr : Nat} {R : List S} {aw : Option Addr} {cw : Nat} {Q : List S} {af : Option Addr} {cf : Nat} {F : List F2} (a : Option Addr) (n c : Nat) (m : List F2) (w : World) (h : RdC w ar cr R aw cw Q af cf F) (hm : Rd w a n c 2 (fl m)) (hn : n ≤ 1000000) :
    Calls Tryz.prog 28 #[.agg #[.string nm, .int .i64 kd, .int .u16 (sv M), .slice ar R.length cr, .slice aw Q.length cw, .slice af F.length cf], .int .u16 (sv wt), .slice a n c] w fun e w' => e = .returned (.bool (soundS kd wt M R Q F m)) ∧ Keeps w w' := by
  have K0 := (Keeps.refl w).alloc (.cells #[.string nm, .int .i64 kd, .int .u16 (sv M), .slice ar R.length cr, .slice aw Q.length cw, .slice af F.length cf] 32)
  have h1 := fun W (k : Keeps w W) => rclash_any (nm := nm) kd wt M a n c m W (h.keep k) (hm.keep k) hn
  simp only [rclash_eq] at h1
  unfold soundS
  unfold RetCE at h1
  generalize clashS kd wt M R Q F m = r at *
  obtain ⟨x, e⟩ := r
  simp only [vcl] at h1
  have H1 := Lib.hid h1
  clear h1 h hm
  generalize R.length = nr at *
  generalize Q.length = nq at *
  generalize F.length = nf at *
  go_enter Tryz.func28, Tryz.ntmps28
  go_wp2_with fail
  refine (H1.out _ K0).mono ?_
  rintro e w2 ⟨rfl, K1⟩
  go_wp2_with fail
  go_ret
  exact ⟨rfl, (K0.trans K1).alloc _⟩
theorem rsndG_any (x : CA) (wt : S) (a : Option Addr) (n c : Nat) (m : List F2) (w : World) (h : RdG w x) (hm : Rd w a n c 2 (fl m)) (hn : n ≤ 1000000) (hv : cvf x.c = 0) :
    Calls Tryz.prog 28 #[vg x, .int .u16 (sv wt), .slice a n c] w fun e w' => e = .returned (.bool (sndC wt m x)) ∧ Keeps w w' := by
  haveI : NmOk x.c.nm := ⟨(cvf_cv hv).1⟩
  exact rsound_any x.c.kd wt x.c.M a n c m w h hm hn
theorem rjsnd_any (a : Option Addr) (n c : Nat) (l : List CA) (z : S) (am : Option Addr) (nm cm : Nat) (m : List F2) (w : World) (h : Rd w a n c 6 (gl l)) (hm : Rd w am nm cm 2 (fl m)) (hn : nm ≤ 1000000) (hl : RdL w l) (hv : ValL l) :
    Calls Tryz.prog 27 #[.slice a n c, .int .u16 (sv z), .slice am nm cm] w fun e w' => e = .returned (.bool (l.all (sndC z m))) ∧ Keeps w w' := by
  have s1 := h.small
  have l1 := gl_rdlen h
  have L1 := Lib.hid l1; clear l1
  go_enter Tryz.func27, Tryz.ntmps27
  go_wp2
  go_loopw [7] (fun v wr => ∃ k : Nat, k ≤ n ∧ v = .int .i64 k ∧ Keeps w wr ∧ Hid (l.all (sndC z m) = (l.drop k).all (sndC z m))) (fun v _ => n - (RowKit.intOf v).toNat)
  case atStart => exact ⟨0, Nat.zero_le _, rfl, Keeps.refl _, rfl⟩
  case round =>
    obtain ⟨k, hk, rfl, K1, HI⟩ := hrel
    by_cases hlt : k < n
    · obtain ⟨g0, g1, g2, g3, g4, g5⟩ := gl_at (h.keep K1) hlt
      have ha := h.isSome (by omega)
      have hmem := gA_mem (l := l) (i := k) (by have := L1.out; omega)
      have hcall := rsndG_any (gA l k) z am nm cm m wr ((hl _ hmem).keep K1) (hm.keep K1) hn (hv _ hmem)
      unfold vg at hcall
      have HC := Lib.hid hcall; clear hcall hmem
      have hdr := dropEG L1 hlt
      have HDR := Lib.hid hdr; clear hdr
      generalize gA l k = x at *
      cases hq : sndC z m x with
      | true =>
        rw [hq] at HC
        have HQ := Lib.hid hq; clear hq
        go_wp2_with (go_at_call 28; refine (HC.out).mono ?_; rintro e w' ⟨rfl, K2⟩)
        go_roundw
        case rel => exact ⟨k + 1, by omega, by go_num, K1.trans K2, hrfl <| by rw [HI.out, HDR.out, List.all_cons, HQ.out, Bool.true_and]⟩
        case measure => simp [RowKit.intOf]; omega
      | false =>
        rw [hq] at HC
        have HQ := Lib.hid hq; clear hq
        go_wp2_with (go_at_call 28; refine (HC.out).mono ?_; rintro e w' ⟨rfl, K2⟩)
        go_ret
        exact ⟨by rw [HI.out, HDR.out, List.all_cons, HQ.out, Bool.false_and]; rfl, K1.trans K2⟩
    · go_wp2
      go_ret
      exact ⟨by rw [HI.out, dropEGN L1 hlt]; rfl, K1⟩
end Go.Proofs.YtnlohknlchgfgaaGreat
