/- Texts joined into one (wip/bin/pack.py): Bad28, Er27, SndG, ErrG. -/
import Derived.Test.YtnlohknlchgfgaaGreatDoorKYf
import Derived.Test.YtnlohknlchgfgaaGreatDoorKH
import Derived.Test.YtnlohknlchgfgaaGreatDoorKF
import Derived.Lib.QuietBelow
import Derived.Test.YtnlohknlchgfgaaGreatDoorKYc
import Derived.Test.YtnlohknlchgfgaaGreatDoorKYd
import Derived.Test.YtnlohknlchgfgaaGreatDoorKZj
import Derived.Test.YtnlohknlchgfgaaGreatDoorKSd
/- A client of a configuration with a bad name. -/
namespace Go.Proofs.YtnlohknlchgfgaaGreatDoor
open Go.RowKit Go.Lib Go.Shelf

set_option maxRecDepth 20000 in
theorem badTv_any (nm : ByteArray) (hnm : nmB nm = false) (kd : Int) (M : S) {ar : Option Addr} {nr cr : Nat} {aw : Option Addr} {nq cw : Nat} {af : Option Addr} {nf cf : Nat} (a : Option Addr) (n c : Nat) (w : World) :
    Calls Tryz.prog 116 #[.agg #[.string nm, .int .i64 kd, .int .u16 (sv M), .slice ar nr cr, .slice aw nq cw, .slice af nf cf], .slice a n c] w fun e w' => e = .returned (.int .i64 1) ∧ Keeps w w' := by
  have K0 := (Keeps.refl w).alloc (.cells #[.string nm, .int .i64 kd, .int .u16 (sv M), .slice ar nr cr, .slice aw nq cw, .slice af nf cf] 32)
  have hb := BoxC.new w 32 nm kd M ar nr cr aw nq cw af nf cf
  obtain ⟨W1, hW1⟩ : ∃ W0, W0 = w.alloc (.cells #[.string nm, .int .i64 kd, .int .u16 (sv M), .slice ar nr cr, .slice aw nq cw, .slice af nf cf] 32) := ⟨_, rfl⟩
  rw [← hW1] at hb K0
  obtain ⟨c0, c1, c2, c3, c4, c5⟩ := hb.conj
  have h1 := fun W => badValid_any nm hnm kd M (ar := ar) (nr := nr) (cr := cr) (aw := aw) (nq := nq) (cw := cw) (af := af) (nf := nf) (cf := cf) W
  have H1 := Lib.hid h1
  clear h1 hb
  go_enter Tryz.func116, Tryz.ntmps116
  go_wp2_with fail
  rw [← hW1]
  clear hW1
  refine (H1.out _).mono ?_
  rintro e w2 ⟨rfl, K1⟩
  go_wp2_with fail
  go_ret
  first | exact ⟨rfl, K0.trans K1⟩ | exact ⟨rfl, (K0.alloc _).trans K1⟩
set_option maxRecDepth 20000 in
set_option maxHeartbeats 1000000 in
theorem badClash_any (nm : ByteArray) (hnm : nmB nm = false) (kd : Int) (wt M : S) {ar : Option Addr} {nr cr : Nat} {aw : Option Addr} {nq cw : Nat} {af : Option Addr} {nf cf : Nat} (a : Option Addr) (n c : Nat) (w : World) :
    Calls Tryz.prog 81 #[.agg #[.string nm, .int .i64 kd, .int .u16 (sv M), .slice ar nr cr, .slice aw nq cw, .slice af nf cf], .int .u16 (sv wt), .slice a n c] w fun e w' => RetCE (cl0, 1) e ∧ Keeps w w' := by
  have K0 := (Keeps.refl w).alloc (.cells #[.string nm, .int .i64 kd, .int .u16 (sv M), .slice ar nr cr, .slice aw nq cw, .slice af nf cf] 32)
  have hb := BoxC.new w 32 nm kd M ar nr cr aw nq cw af nf cf
  obtain ⟨W1, hW1⟩ : ∃ W0, W0 = w.alloc (.cells #[.string nm, .int .i64 kd, .int .u16 (sv M), .slice ar nr cr, .slice aw nq cw, .slice af nf cf] 32) := ⟨_, rfl⟩
  rw [← hW1] at hb K0
  obtain ⟨c0, c1, c2, c3, c4, c5⟩ := hb.conj
  clear c0 c1 c2 c3 c4 c5
  have hsz : W1.heap.size = w.heap.size + 1 := by rw [hW1, World.size_alloc]
  have k2 := (Keeps.refl W1).alloc (.cells #[.int .i64 0, .int .u16 0, .int .u16 0, .int .u16 0] 47)
  have hx : ClBox (W1.alloc (.cells #[.int .i64 0, .int .u16 0, .int .u16 0, .int .u16 0] 47)) (w.heap.size + 1) cl0 := by rw [← hsz]; exact World.alloc_heap_new W1 _
  obtain ⟨W2, hW2⟩ : ∃ W2, W2 = W1.alloc (.cells #[.int .i64 0, .int .u16 0, .int .u16 0, .int .u16 0] 47) := ⟨_, rfl⟩
  rw [← hW2] at hx k2
  replace hb := hb.keep k2
  replace K0 := K0.trans k2
  have h1 := fun W => badTv_any nm hnm kd M (ar := ar) (nr := nr) (cr := cr) (aw := aw) (nq := nq) (cw := cw) (af := af) (nf := nf) (cf := cf) a n c W
  have H1 := Lib.hid h1
  obtain ⟨c0, c1, c2, c3, c4, c5⟩ := hb.conj
  clear h1 hb
  go_enter Tryz.func81, Tryz.ntmps81
  go_wp2_with fail
  rw [← hW1, ← hW2]
  clear hW1 hW2 hsz k2 c0 c1 c2 c3 c4 c5
  refine (H1.out _).mono ?_
  rintro e w3 ⟨rfl, K1⟩
  have x3 := hx.keep K1
  replace K1 := K0.trans K1
  obtain ⟨f0, f1, f2, f3⟩ := x3.frozen
  obtain ⟨g0, g1, g2, g3⟩ := x3.cells
  have X3 := Lib.hid x3
  clear x3 hx
  go_wp2_with fail
  exact bodyPost_ret (resBox rfl (X3.out.store cl0) rfl rfl) rfl ⟨by rfl, K1.set4 (Nat.le_succ _) _ _ _ _⟩
set_option maxRecDepth 20000 in
theorem badSound_any (nm : ByteArray) (hnm : nmB nm = false) (kd : Int) (wt M : S) {ar : Option Addr} {nr cr : Nat} {aw : Option Addr} {nq cw : Nat} {af : Option Addr} {nf cf : Nat} (a : Option Addr) (n c : Nat) (w : World) :
    Calls Tryz.prog 50 #[.agg #[.string nm, .int .i64 kd, .int .u16 (sv M), .slice ar nr cr, .slice aw nq cw, .slice af nf cf], .int .u16 (sv wt), .slice a n c] w fun e w' => e = .returned (.bool false) ∧ Keeps w w' := by
  have K0 := (Keeps.refl w).alloc (.cells #[.string nm, .int .i64 kd, .int .u16 (sv M), .slice ar nr cr, .slice aw nq cw, .slice af nf cf] 32)
  have h1 := fun W => badClash_any nm hnm kd wt M (ar := ar) (nr := nr) (cr := cr) (aw := aw) (nq := nq) (cw := cw) (af := af) (nf := nf) (cf := cf) a n c W
  unfold RetCE at h1
  simp only [vcl, cl0] at h1
  have H1 := Lib.hid h1
  clear h1
  go_enter Tryz.func50, Tryz.ntmps50
  go_wp2_with fail
  refine (H1.out _).mono ?_
  rintro e w2 ⟨rfl, K1⟩
  go_wp2_with fail
  go_ret
  exact ⟨rfl, (K0.trans K1).alloc _⟩
end Go.Proofs.YtnlohknlchgfgaaGreatDoor
/- What the functions of layer 27 answer where Valid gives an error. -/
namespace Go.Proofs.YtnlohknlchgfgaaGreatDoor
open Go.RowKit Go.Lib Go.Shelf

set_option maxRecDepth 20000 in
set_option maxHeartbeats 1000000 in
theorem eClash_any (nm : ByteArray) (kd : Int) (wt M : S) {ar : Option Addr} {nr cr : Nat} {aw : Option Addr} {nq cw : Nat} {af : Option Addr} {nf cf : Nat} (w : World) (er : Int) (hne : er ≠ 0) (hv : ∀ W, Keeps w W → Calls Tryz.prog 57 #[.agg #[.string nm, .int .i64 kd, .int .u16 (sv M), .slice ar nr cr, .slice aw nq cw, .slice af nf cf]] W fun e w' => e = .returned (.int .i64 er) ∧ Keeps W w') :
    Calls Tryz.prog 34 #[.agg #[.string nm, .int .i64 kd, .int .u16 (sv M), .slice ar nr cr, .slice aw nq cw, .slice af nf cf], .int .u16 (sv wt)] w fun e w' => RetCE (cl0, er) e ∧ Keeps w w' := by
  have hb1 : (er != 0) = true := by simpa using hne
  have K0 := (Keeps.refl w).alloc (.cells #[.string nm, .int .i64 kd, .int .u16 (sv M), .slice ar nr cr, .slice aw nq cw, .slice af nf cf] 32)
  have hb := BoxC.new w 32 nm kd M ar nr cr aw nq cw af nf cf
  obtain ⟨W1, hW1⟩ : ∃ W0, W0 = w.alloc (.cells #[.string nm, .int .i64 kd, .int .u16 (sv M), .slice ar nr cr, .slice aw nq cw, .slice af nf cf] 32) := ⟨_, rfl⟩
  rw [← hW1] at hb K0
  have H1 := Lib.hid hv
  have hsz : W1.heap.size = w.heap.size + 1 := by rw [hW1, World.size_alloc]
  have k2 := (Keeps.refl W1).alloc (.cells #[.int .i64 0, .int .u16 0, .int .u16 0, .int .u16 0] 47)
  have hx := Blk.new W1 47 #[.int .i64 0, .int .u16 0, .int .u16 0, .int .u16 0]
  rw [hsz] at hx
  obtain ⟨W2, hW2⟩ : ∃ W2, W2 = W1.alloc (.cells #[.int .i64 0, .int .u16 0, .int .u16 0, .int .u16 0] 47) := ⟨_, rfl⟩
  rw [← hW2] at hx k2
  replace hb := hb.keep k2
  replace K0 := K0.trans k2
  have HX : ClBox W2 (w.heap.size + 1) cl0 := hx
  clear hx
  obtain ⟨c0, c1, c2, c3, c4, c5⟩ := hb.conj
  clear hb hv hne
  go_enter Tryz.func34, Tryz.ntmps34
  go_wp2_with fail
  rw [← hW1, ← hW2]
  clear hW1 c0 c1 c2 c3 c4 c5
  refine (H1.out _ K0).mono ?_
  rintro e w3 ⟨rfl, K1⟩
  have x3 := HX.keep K1
  obtain ⟨f0, f1, f2, f3⟩ := x3.frozen
  obtain ⟨g0, g1, g2, g3⟩ := x3.cells
  have X3 := Lib.hid x3
  clear x3 HX hsz k2 hW2
  go_wp2_with fail
  exact bodyPost_ret (resBox rfl (X3.out.store cl0) rfl rfl) rfl ⟨by unfold RetCE; rfl, (K0.trans K1).set4 (Nat.le_succ _) _ _ _ _⟩

set_option maxRecDepth 20000 in
set_option maxHeartbeats 1000000 in
theorem eDead_any (nm : ByteArray) (kd : Int) (M : S) {ar : Option Addr} {nr cr : Nat} {aw : Option Addr} {nq cw : Nat} {af : Option Addr} {nf cf : Nat} (w : World) (er : Int) (hne : er ≠ 0) (hv : ∀ W, Keeps w W → Calls Tryz.prog 57 #[.agg #[.string nm, .int .i64 kd, .int .u16 (sv M), .slice ar nr cr, .slice aw nq cw, .slice af nf cf]] W fun e w' => e = .returned (.int .i64 er) ∧ Keeps W w') :
    Calls Tryz.prog 113 #[.agg #[.string nm, .int .i64 kd, .int .u16 (sv M), .slice ar nr cr, .slice aw nq cw, .slice af nf cf]] w fun e w' => RetFE ((0#16, 0#16), er) e ∧ Keeps w w' := by
  have hb1 : (er != 0) = true := by simpa using hne
  have K0 := (Keeps.refl w).alloc (.cells #[.string nm, .int .i64 kd, .int .u16 (sv M), .slice ar nr cr, .slice aw nq cw, .slice af nf cf] 32)
  have hb := BoxC.new w 32 nm kd M ar nr cr aw nq cw af nf cf
  obtain ⟨W1, hW1⟩ : ∃ W0, W0 = w.alloc (.cells #[.string nm, .int .i64 kd, .int .u16 (sv M), .slice ar nr cr, .slice aw nq cw, .slice af nf cf] 32) := ⟨_, rfl⟩
  rw [← hW1] at hb K0
  have H1 := Lib.hid hv
  have hsz : W1.heap.size = w.heap.size + 1 := by rw [hW1, World.size_alloc]
  have k2 := (Keeps.refl W1).alloc (.cells #[.int .u16 0, .int .u16 0] 62)
  have hx := Blk.new W1 62 #[.int .u16 0, .int .u16 0]
  rw [hsz] at hx
  obtain ⟨W2, hW2⟩ : ∃ W2, W2 = W1.alloc (.cells #[.int .u16 0, .int .u16 0] 62) := ⟨_, rfl⟩
  rw [← hW2] at hx k2
  replace hb := hb.keep k2
  replace K0 := K0.trans k2
  have HX : FBox W2 (w.heap.size + 1) (0#16, 0#16) := hx
  clear hx
  obtain ⟨c0, c1, c2, c3, c4, c5⟩ := hb.conj
  clear hb hv hne
  go_enter Tryz.func113, Tryz.ntmps113
  go_wp2_with fail
  rw [← hW1, ← hW2]
  clear hW1 c0 c1 c2 c3 c4 c5
  refine (H1.out _ K0).mono ?_
  rintro e w3 ⟨rfl, K1⟩
  have x3 := HX.keep K1
  obtain ⟨f0, f1⟩ := x3.frozen
  obtain ⟨g0, g1⟩ := x3.cells
  have X3 := Lib.hid x3
  clear x3 HX hsz k2 hW2
  go_wp2_with fail
  exact bodyPost_ret (resBoxF rfl (X3.out.store (0#16, 0#16)) rfl rfl) rfl ⟨by unfold RetFE; rfl, (K0.trans K1).set2 (Nat.le_succ _) _ _⟩

set_option maxRecDepth 20000 in
set_option maxHeartbeats 1000000 in
theorem eTol_any (nm : ByteArray) (kd : Int) (z M : S) {ar : Option Addr} {nr cr : Nat} {aw : Option Addr} {nq cw : Nat} {af : Option Addr} {nf cf : Nat} (w : World) (er : Int) (hne : er ≠ 0) (hv : ∀ W, Keeps w W → Calls Tryz.prog 57 #[.agg #[.string nm, .int .i64 kd, .int .u16 (sv M), .slice ar nr cr, .slice aw nq cw, .slice af nf cf]] W fun e w' => e = .returned (.int .i64 er) ∧ Keeps W w') :
    Calls Tryz.prog 48 #[.agg #[.string nm, .int .i64 kd, .int .u16 (sv M), .slice ar nr cr, .slice aw nq cw, .slice af nf cf], .int .u16 (sv z)] w fun e w' => e = .returned (.bool false) ∧ Keeps w w' := by
  have hb1 : (er != 0) = true := by simpa using hne
  have K0 := (Keeps.refl w).alloc (.cells #[.string nm, .int .i64 kd, .int .u16 (sv M), .slice ar nr cr, .slice aw nq cw, .slice af nf cf] 32)
  have hb := BoxC.new w 32 nm kd M ar nr cr aw nq cw af nf cf
  obtain ⟨W1, hW1⟩ : ∃ W0, W0 = w.alloc (.cells #[.string nm, .int .i64 kd, .int .u16 (sv M), .slice ar nr cr, .slice aw nq cw, .slice af nf cf] 32) := ⟨_, rfl⟩
  rw [← hW1] at hb K0
  have H1 := Lib.hid hv
  have hb2 : (er == 0) = false := by simpa using hne
  have hsz : W1.heap.size = w.heap.size + 1 := by rw [hW1, World.size_alloc]
  have k2 := (Keeps.refl W1).alloc (.cells #[.int .u16 (sv z)] 29)
  have hx := Blk.new W1 29 #[.int .u16 (sv z)]
  rw [hsz] at hx
  obtain ⟨W2, hW2⟩ : ∃ W2, W2 = W1.alloc (.cells #[.int .u16 (sv z)] 29) := ⟨_, rfl⟩
  rw [← hW2] at hx k2
  replace hb := hb.keep k2
  replace K0 := K0.trans k2
  obtain ⟨c0, c1, c2, c3, c4, c5⟩ := hb.conj
  clear hb hv hne
  go_enter Tryz.func48, Tryz.ntmps48
  go_wp2_with fail
  rw [← hW1, ← hW2]
  clear hW1 c0 c1 c2 c3 c4 c5
  refine (H1.out _ K0).mono ?_
  rintro e w3 ⟨rfl, K1⟩
  clear hsz k2 hW2 hx
  go_wp2_with fail
  go_ret
  exact ⟨rfl, K0.trans K1⟩

set_option maxRecDepth 20000 in
set_option maxHeartbeats 1000000 in
theorem eSafe_any (nm : ByteArray) (kd : Int) (wt M : S) {ar : Option Addr} {nr cr : Nat} {aw : Option Addr} {nq cw : Nat} {af : Option Addr} {nf cf : Nat} (w : World) (er : Int) (h13 : (er == 13) = false) (hne : er ≠ 0) (hv : ∀ W, Keeps w W → Calls Tryz.prog 57 #[.agg #[.string nm, .int .i64 kd, .int .u16 (sv M), .slice ar nr cr, .slice aw nq cw, .slice af nf cf]] W fun e w' => e = .returned (.int .i64 er) ∧ Keeps W w') :
    Calls Tryz.prog 10 #[.agg #[.string nm, .int .i64 kd, .int .u16 (sv M), .slice ar nr cr, .slice aw nq cw, .slice af nf cf], .int .u16 (sv wt)] w fun e w' => e = .returned (.bool false) ∧ Keeps w w' := by
  have K0 := (Keeps.refl w).alloc (.cells #[.string nm, .int .i64 kd, .int .u16 (sv M), .slice ar nr cr, .slice aw nq cw, .slice af nf cf] 32)
  have h1 := fun W (k : Keeps w W) => eClash_any nm kd wt M (ar := ar) (nr := nr) (cr := cr) (aw := aw) (nq := nq) (cw := cw) (af := af) (nf := nf) (cf := cf) W er hne (fun W' k' => hv W' (k.trans k'))
  unfold RetCE at h1
  simp only [vcl, cl0] at h1
  have H1 := Lib.hid h1
  clear h1 hv hne
  go_enter Tryz.func10, Tryz.ntmps10
  go_wp2_with fail
  refine (H1.out _ K0).mono ?_
  rintro e w2 ⟨rfl, K1⟩
  go_wp2_with fail
  go_ret
  exact ⟨rfl, (K0.trans K1).alloc _⟩

set_option maxRecDepth 20000 in
set_option maxHeartbeats 1000000 in
theorem eLive_any (nm : ByteArray) (kd : Int) (M : S) {ar : Option Addr} {nr cr : Nat} {aw : Option Addr} {nq cw : Nat} {af : Option Addr} {nf cf : Nat} (w : World) (er : Int) (h13 : (er == 13) = false) (hne : er ≠ 0) (hv : ∀ W, Keeps w W → Calls Tryz.prog 57 #[.agg #[.string nm, .int .i64 kd, .int .u16 (sv M), .slice ar nr cr, .slice aw nq cw, .slice af nf cf]] W fun e w' => e = .returned (.int .i64 er) ∧ Keeps W w') :
    Calls Tryz.prog 77 #[.agg #[.string nm, .int .i64 kd, .int .u16 (sv M), .slice ar nr cr, .slice aw nq cw, .slice af nf cf]] w fun e w' => e = .returned (.bool false) ∧ Keeps w w' := by
  have K0 := (Keeps.refl w).alloc (.cells #[.string nm, .int .i64 kd, .int .u16 (sv M), .slice ar nr cr, .slice aw nq cw, .slice af nf cf] 32)
  have h1 := fun W (k : Keeps w W) => eDead_any nm kd M (ar := ar) (nr := nr) (cr := cr) (aw := aw) (nq := nq) (cw := cw) (af := af) (nf := nf) (cf := cf) W er hne (fun W' k' => hv W' (k.trans k'))
  unfold RetFE at h1
  simp only [vf] at h1
  have H1 := Lib.hid h1
  clear h1 hv hne
  go_enter Tryz.func77, Tryz.ntmps77
  go_wp2_with fail
  refine (H1.out _ K0).mono ?_
  rintro e w2 ⟨rfl, K1⟩
  go_wp2_with fail
  go_ret
  exact ⟨rfl, by first | exact K0.trans K1 | exact (K0.trans K1).alloc _⟩
end Go.Proofs.YtnlohknlchgfgaaGreatDoor
/- Sound at configurations that are valid; joint.Sound (under way). -/
namespace Go.Proofs.YtnlohknlchgfgaaGreatDoor
open Go.RowKit Go.Lib Go.Shelf
def sndC (wt : S) (m : List F2) (x : CA) : Bool := soundS x.c.kd wt x.c.M x.c.R x.c.Q x.c.F m
theorem sndG_any (x : CA) (wt : S) (a : Option Addr) (n c : Nat) (m : List F2) (w : World) (h : RdG w x) (hm : Rd w a n c 2 (fl m)) (hn : n ≤ 1000000) (hv : cvf x.c = 0) :
    Calls Tryz.prog 50 #[vg x, .int .u16 (sv wt), .slice a n c] w fun e w' => e = .returned (.bool (sndC wt m x)) ∧ Keeps w w' := by
  haveI : NmOk x.c.nm := ⟨(cvf_cv hv).1⟩
  exact sound_any x.c.kd wt x.c.M a n c m w h hm hn
theorem sndPredJ (wt : S) (a : Option Addr) (n c : Nat) (m : List F2) (B C : Nat) (l : List CA) (w : World) (h0 : w.cell? ⟨B, 0, none⟩ = some (.int .u16 (sv wt))) (h1 : w.cell? ⟨C, 0, none⟩ = some (.slice a n c)) (hm : Rd w a n c 2 (fl m)) (hn : n ≤ 1000000) (hl : RdL w l) (hv : ValL l) :
    PredK Tryz.prog 49 #[.pointer (some ⟨B, 0, none⟩), .pointer (some ⟨C, 0, none⟩)] vg (fun x => !sndC wt m x) l w := fun W x hx hk => by
  have K0 := (Keeps.refl W).alloc (.cells #[.string x.c.nm, .int .i64 x.c.kd, .int .u16 (sv x.c.M), .slice x.ar x.c.R.length x.cr, .slice x.aw x.c.Q.length x.cw, .slice x.af x.c.F.length x.cf] 32)
  have hc := fun (W' : World) (k : Keeps W W') => sndG_any x wt a n c m W' (((hl x hx).keep hk).keep k) ((hm.keep hk).keep k) hn (hv x hx)
  have HC := Lib.hid hc
  have e2 := K0.cell (hk.cell h0)
  have e3 := K0.cell (hk.cell h1)
  clear hc h0 h1 hk hx hl hv hm
  show Calls Tryz.prog 49 #[vg x, .pointer (some ⟨B, 0, none⟩), .pointer (some ⟨C, 0, none⟩)] W fun e w' => e = .returned (.bool (!sndC wt m x)) ∧ Keeps W w'
  unfold vg at *
  generalize sndC wt m x = q at *
  go_enter Tryz.func49, Tryz.ntmps49
  go_wp2_with fail
  refine (HC.out _ K0).mono ?_; rintro e w' ⟨rfl, K2⟩
  go_wp2_with fail
  go_ret
  exact ⟨rfl, K0.trans K2⟩
theorem jsnd_any (a : Option Addr) (n c : Nat) (l : List CA) (wt : S) (am : Option Addr) (nm cm : Nat) (m : List F2) (w : World) (h : Rd w a n c 6 (gl l)) (hm : Rd w am nm cm 2 (fl m)) (hn : nm ≤ 1000000) (hl : RdL w l) (hv : ValL l) :
    Calls Tryz.prog 25 #[.slice a n c, .int .u16 (sv wt), .slice am nm cm] w fun e w' => e = .returned (.bool (l.all (sndC wt m))) ∧ Keeps w w' := by
  have hs : ∀ o, (w.alloc o).heap.size = w.heap.size + 1 := fun o => World.size_alloc ..
  have k1 := (Keeps.refl w).alloc (.cells #[.int .u16 (sv wt)] 29)
  have k2 := (Keeps.refl (w.alloc (.cells #[.int .u16 (sv wt)] 29))).alloc (.cells #[.slice am nm cm] 23)
  have hx : (w.alloc (.cells #[.int .u16 (sv wt)] 29)).cell? ⟨w.heap.size, 0, none⟩ = some (.int .u16 (sv wt)) := by rw [World.cell?_alloc_at _ _ _ _ rfl]; rfl
  have hy : ((w.alloc (.cells #[.int .u16 (sv wt)] 29)).alloc (.cells #[.slice am nm cm] 23)).cell? ⟨w.heap.size + 1, 0, none⟩ = some (.slice am nm cm) := by rw [← hs (.cells #[.int .u16 (sv wt)] 29), World.cell?_alloc_at _ _ _ _ rfl]; rfl
  have k3 := k1.trans k2
  have hc := containsFuncG_any a n c l _ 49 #[.pointer (some ⟨w.heap.size, 0, none⟩), .pointer (some ⟨w.heap.size + 1, 0, none⟩)] (fun x => !sndC wt m x) (h.keep k3) (enters_of Tryz.func49 (by kernel_rfl) rfl) (sndPredJ wt am nm cm m w.heap.size (w.heap.size + 1) l _ (k2.cell hx) hy (hm.keep k3) hn (hl.keep k3) hv)
  have hq : l.all (sndC wt m) = !(l.any fun x => !sndC wt m x) := by
    rw [List.not_any_eq_all_not]; simp
  rw [hq]
  clear hq
  have HC := Lib.hid hc
  clear hc hx hy h hm k1 k2 hs
  generalize (l.any fun x => !sndC wt m x) = q at *
  go_enter Tryz.func25, Tryz.ntmps25
  go_wp2_with (go_at_call 38; refine HC.out.mono ?_; rintro e w' ⟨rfl, K2⟩)
  go_ret
  exact ⟨rfl, k3.trans K2⟩
end Go.Proofs.YtnlohknlchgfgaaGreatDoor
/- The functions of layer 29 where a configuration is not valid. -/
namespace Go.Proofs.YtnlohknlchgfgaaGreatDoor
open Go.RowKit Go.Lib Go.Shelf
theorem cvf_ne13 (c : Cf) : cvf c ≠ 13 := by
  unfold cvf
  split
  · exact cv_ne _ _ _ _ _
  · decide
def safE (wt : S) (x : CA) : Bool := if cvf x.c = 0 then safC wt x else false
def tolE (z : S) (x : CA) : Bool := if cvf x.c = 0 then tolC z x else false
def sndE (wt : S) (m : List F2) (x : CA) : Bool := if cvf x.c = 0 then sndC wt m x else false
theorem csafE_any (x : CA) (wt : S) (w : World) (hT : Tab w) (h : RdG w x) (ho : cvf x.c = 0 → RoG w x) : Calls Tryz.prog 10 #[vg x, .int .u16 (sv wt)] w fun e w' => e = .returned (.bool (safE wt x)) ∧ Keeps w w' := by
  unfold safE
  by_cases hv : cvf x.c = 0
  · rw [if_pos hv]; exact csafG_any x wt w hT (ho hv) hv
  · rw [if_neg hv]; exact eSafe_any x.c.nm x.c.kd wt x.c.M w (cvf x.c) (by simpa using cvf_ne13 x.c) hv (fun W k => validG_any x W (h.keep k))
theorem ctolE_any (x : CA) (z : S) (w : World) (h : RdG w x) : Calls Tryz.prog 48 #[vg x, .int .u16 (sv z)] w fun e w' => e = .returned (.bool (tolE z x)) ∧ Keeps w w' := by
  unfold tolE
  by_cases hv : cvf x.c = 0
  · rw [if_pos hv]; exact tolG_any x z w h hv
  · rw [if_neg hv]; exact eTol_any x.c.nm x.c.kd z x.c.M w (cvf x.c) hv (fun W k => validG_any x W (h.keep k))
theorem csndE_any (x : CA) (wt : S) (a : Option Addr) (n c : Nat) (m : List F2) (w : World) (h : RdG w x) (hm : Rd w a n c 2 (fl m)) (hn : n ≤ 1000000) : Calls Tryz.prog 50 #[vg x, .int .u16 (sv wt), .slice a n c] w fun e w' => e = .returned (.bool (sndE wt m x)) ∧ Keeps w w' := by
  unfold sndE
  by_cases hv : cvf x.c = 0
  · rw [if_pos hv]; exact sndG_any x wt a n c m w h hm hn hv
  · rw [if_neg hv]
    by_cases hnm : nmB x.c.nm = true
    · haveI : NmOk x.c.nm := ⟨hnm⟩
      have hs : soundS x.c.kd wt x.c.M x.c.R x.c.Q x.c.F m = false := by
        cases hq : soundS x.c.kd wt x.c.M x.c.R x.c.Q x.c.F m with
        | false => rfl
        | true =>
          have h1 := sound_tv' hq
          have h2 := (tv_cv h1).1
          unfold cvf at hv
          rw [if_pos hnm] at hv
          exact absurd h2 hv
      have := sound_any (nm := x.c.nm) x.c.kd wt x.c.M a n c m w h hm hn
      rw [hs] at this
      exact this
    · exact badSound_any x.c.nm (by simpa using hnm) x.c.kd wt x.c.M a n c w
/-- each configuration reads, and the valid ones are rows -/
def RdX (w : World) (l : List CA) : Prop := ∀ x ∈ l, RdG w x ∧ (cvf x.c = 0 → RoG w x)
theorem RdX.keep {w w' : World} {l : List CA} (h : RdX w l) (k : Keeps w w') : RdX w' l := fun x hx => ⟨(h x hx).1.keep k, fun hv => ((h x hx).2 hv).keep k⟩
theorem RdX.rd {w : World} {l : List CA} (h : RdX w l) : RdL w l := fun x hx => (h x hx).1
theorem all_bad {l : List CA} {p : CA → Bool} (h : ∃ x ∈ l, p x = false) : l.all p = false := by
  obtain ⟨x, hx, hp⟩ := h
  rw [List.all_eq_false]
  exact ⟨x, hx, by simp [hp]⟩
theorem safPredE (z : S) (B : Nat) (l : List CA) (w : World) (hT : Tab w) (h0 : w.cell? ⟨B, 0, none⟩ = some (.int .u16 (sv z))) (hl : RdX w l) :
    PredK Tryz.prog 39 #[.pointer (some ⟨B, 0, none⟩)] vg (fun x => !safE z x) l w := fun W x hx hk => by
  have K0 := (Keeps.refl W).alloc (.cells #[.string x.c.nm, .int .i64 x.c.kd, .int .u16 (sv x.c.M), .slice x.ar x.c.R.length x.cr, .slice x.aw x.c.Q.length x.cw, .slice x.af x.c.F.length x.cf] 32)
  have hc := fun (W' : World) (k : Keeps W W') => csafE_any x z W' ((hT.keep hk).keep k) (((hl x hx).1.keep hk).keep k) (fun hv => (((hl x hx).2 hv).keep hk).keep k)
  have HC := Lib.hid hc
  have e2 := K0.cell (hk.cell h0)
  clear hc h0 hk hx hl hT
  show Calls Tryz.prog 39 #[vg x, .pointer (some ⟨B, 0, none⟩)] W fun e w' => e = .returned (.bool (!safE z x)) ∧ Keeps W w'
  unfold vg at *
  generalize safE z x = q at *
  go_enter Tryz.func39, Tryz.ntmps39
  go_wp2_with fail
  refine (HC.out _ K0).mono ?_; rintro e w' ⟨rfl, K2⟩
  go_wp2_with fail
  go_ret
  exact ⟨rfl, K0.trans K2⟩
theorem jsafE_any (a : Option Addr) (n c : Nat) (l : List CA) (z : S) (w : World) (hT : Tab w) (h : Rd w a n c 6 (gl l)) (hl : RdX w l) :
    Calls Tryz.prog 18 #[.slice a n c, .int .u16 (sv z)] w fun e w' => e = .returned (.bool (l.all (safE z))) ∧ Keeps w w' := by
  have k2 := (Keeps.refl w).alloc (.cells #[.int .u16 (sv z)] 29)
  have hx : (w.alloc (.cells #[.int .u16 (sv z)] 29)).cell? ⟨w.heap.size, 0, none⟩ = some (.int .u16 (sv z)) := by rw [World.cell?_alloc_at _ _ _ _ rfl]; rfl
  have hc := containsFuncG_any a n c l (w.alloc (.cells #[.int .u16 (sv z)] 29)) 39 #[.pointer (some ⟨w.heap.size, 0, none⟩)] (fun x => !safE z x) (h.keep k2) (enters_of Tryz.func39 (by kernel_rfl) rfl) (safPredE z w.heap.size l _ (hT.keep k2) hx (hl.keep k2))
  have hq : l.all (safE z) = !(l.any fun x => !safE z x) := by
    rw [List.not_any_eq_all_not]; simp
  rw [hq]
  clear hq
  have HC := Lib.hid hc
  clear hc hx h hT
  generalize (l.any fun x => !safE z x) = q at *
  go_enter Tryz.func18, Tryz.ntmps18
  go_wp2_with (go_at_call 38; refine HC.out.mono ?_; rintro e w' ⟨rfl, K2⟩)
  go_ret
  exact ⟨rfl, k2.trans K2⟩
theorem tolPredE (z : S) (B : Nat) (l : List CA) (w : World) (h0 : w.cell? ⟨B, 0, none⟩ = some (.int .u16 (sv z))) (hl : RdX w l) :
    PredK Tryz.prog 47 #[.pointer (some ⟨B, 0, none⟩)] vg (fun x => !tolE z x) l w := fun W x hx hk => by
  have K0 := (Keeps.refl W).alloc (.cells #[.string x.c.nm, .int .i64 x.c.kd, .int .u16 (sv x.c.M), .slice x.ar x.c.R.length x.cr, .slice x.aw x.c.Q.length x.cw, .slice x.af x.c.F.length x.cf] 32)
  have hc := fun (W' : World) (k : Keeps W W') => ctolE_any x z W' (((hl x hx).1.keep hk).keep k)
  have HC := Lib.hid hc
  have e2 := K0.cell (hk.cell h0)
  clear hc h0 hk hx hl
  show Calls Tryz.prog 47 #[vg x, .pointer (some ⟨B, 0, none⟩)] W fun e w' => e = .returned (.bool (!tolE z x)) ∧ Keeps W w'
  unfold vg at *
  generalize tolE z x = q at *
  go_enter Tryz.func47, Tryz.ntmps47
  go_wp2_with fail
  refine (HC.out _ K0).mono ?_; rintro e w' ⟨rfl, K2⟩
  go_wp2_with fail
  go_ret
  exact ⟨rfl, K0.trans K2⟩
theorem jtolE_any (a : Option Addr) (n c : Nat) (l : List CA) (z : S) (w : World) (h : Rd w a n c 6 (gl l)) (hl : RdX w l) :
    Calls Tryz.prog 24 #[.slice a n c, .int .u16 (sv z)] w fun e w' => e = .returned (.bool (l.all (tolE z))) ∧ Keeps w w' := by
  have k2 := (Keeps.refl w).alloc (.cells #[.int .u16 (sv z)] 29)
  have hx : (w.alloc (.cells #[.int .u16 (sv z)] 29)).cell? ⟨w.heap.size, 0, none⟩ = some (.int .u16 (sv z)) := by rw [World.cell?_alloc_at _ _ _ _ rfl]; rfl
  have hc := containsFuncG_any a n c l (w.alloc (.cells #[.int .u16 (sv z)] 29)) 47 #[.pointer (some ⟨w.heap.size, 0, none⟩)] (fun x => !tolE z x) (h.keep k2) (enters_of Tryz.func47 (by kernel_rfl) rfl) (tolPredE z w.heap.size l _ hx (hl.keep k2))
  have hq : l.all (tolE z) = !(l.any fun x => !tolE z x) := by
    rw [List.not_any_eq_all_not]; simp
  rw [hq]
  clear hq
  have HC := Lib.hid hc
  clear hc hx h
  generalize (l.any fun x => !tolE z x) = q at *
  go_enter Tryz.func24, Tryz.ntmps24
  go_wp2_with (go_at_call 38; refine HC.out.mono ?_; rintro e w' ⟨rfl, K2⟩)
  go_ret
  exact ⟨rfl, k2.trans K2⟩
theorem sndPredE (wt : S) (a : Option Addr) (n c : Nat) (m : List F2) (B C : Nat) (l : List CA) (w : World) (h0 : w.cell? ⟨B, 0, none⟩ = some (.int .u16 (sv wt))) (h1 : w.cell? ⟨C, 0, none⟩ = some (.slice a n c)) (hm : Rd w a n c 2 (fl m)) (hn : n ≤ 1000000) (hl : RdL w l) :
    PredK Tryz.prog 49 #[.pointer (some ⟨B, 0, none⟩), .pointer (some ⟨C, 0, none⟩)] vg (fun x => !sndE wt m x) l w := fun W x hx hk => by
  have K0 := (Keeps.refl W).alloc (.cells #[.string x.c.nm, .int .i64 x.c.kd, .int .u16 (sv x.c.M), .slice x.ar x.c.R.length x.cr, .slice x.aw x.c.Q.length x.cw, .slice x.af x.c.F.length x.cf] 32)
  have hc := fun (W' : World) (k : Keeps W W') => csndE_any x wt a n c m W' (((hl x hx).keep hk).keep k) ((hm.keep hk).keep k) hn
  have HC := Lib.hid hc
  have e2 := K0.cell (hk.cell h0)
  have e3 := K0.cell (hk.cell h1)
  clear hc h0 h1 hk hx hl hm
  show Calls Tryz.prog 49 #[vg x, .pointer (some ⟨B, 0, none⟩), .pointer (some ⟨C, 0, none⟩)] W fun e w' => e = .returned (.bool (!sndE wt m x)) ∧ Keeps W w'
  unfold vg at *
  generalize sndE wt m x = q at *
  go_enter Tryz.func49, Tryz.ntmps49
  go_wp2_with fail
  refine (HC.out _ K0).mono ?_; rintro e w' ⟨rfl, K2⟩
  go_wp2_with fail
  go_ret
  exact ⟨rfl, K0.trans K2⟩
theorem jsndE_any (a : Option Addr) (n c : Nat) (l : List CA) (wt : S) (am : Option Addr) (nm cm : Nat) (m : List F2) (w : World) (h : Rd w a n c 6 (gl l)) (hm : Rd w am nm cm 2 (fl m)) (hn : nm ≤ 1000000) (hl : RdL w l) :
    Calls Tryz.prog 25 #[.slice a n c, .int .u16 (sv wt), .slice am nm cm] w fun e w' => e = .returned (.bool (l.all (sndE wt m))) ∧ Keeps w w' := by
  have hs : ∀ o, (w.alloc o).heap.size = w.heap.size + 1 := fun o => World.size_alloc ..
  have k1 := (Keeps.refl w).alloc (.cells #[.int .u16 (sv wt)] 29)
  have k2 := (Keeps.refl (w.alloc (.cells #[.int .u16 (sv wt)] 29))).alloc (.cells #[.slice am nm cm] 23)
  have hx : (w.alloc (.cells #[.int .u16 (sv wt)] 29)).cell? ⟨w.heap.size, 0, none⟩ = some (.int .u16 (sv wt)) := by rw [World.cell?_alloc_at _ _ _ _ rfl]; rfl
  have hy : ((w.alloc (.cells #[.int .u16 (sv wt)] 29)).alloc (.cells #[.slice am nm cm] 23)).cell? ⟨w.heap.size + 1, 0, none⟩ = some (.slice am nm cm) := by rw [← hs (.cells #[.int .u16 (sv wt)] 29), World.cell?_alloc_at _ _ _ _ rfl]; rfl
  have k3 := k1.trans k2
  have hc := containsFuncG_any a n c l _ 49 #[.pointer (some ⟨w.heap.size, 0, none⟩), .pointer (some ⟨w.heap.size + 1, 0, none⟩)] (fun x => !sndE wt m x) (h.keep k3) (enters_of Tryz.func49 (by kernel_rfl) rfl) (sndPredE wt am nm cm m w.heap.size (w.heap.size + 1) l _ (k2.cell hx) hy (hm.keep k3) hn (hl.keep k3))
  have hq : l.all (sndE wt m) = !(l.any fun x => !sndE wt m x) := by
    rw [List.not_any_eq_all_not]; simp
  rw [hq]
  clear hq
  have HC := Lib.hid hc
  clear hc hx hy h hm k1 k2 hs
  generalize (l.any fun x => !sndE wt m x) = q at *
  go_enter Tryz.func25, Tryz.ntmps25
  go_wp2_with (go_at_call 38; refine HC.out.mono ?_; rintro e w' ⟨rfl, K2⟩)
  go_ret
  exact ⟨rfl, k3.trans K2⟩
set_option maxRecDepth 20000 in
set_option maxHeartbeats 8000000 in
theorem junsE_any (a : Option Addr) (c : Nat) (x : CA) (wt : S) (w : World) (h : Rd w a 1 c 6 (gl [x])) (hl : RdG w x) (hT : Tab w) (hne : cvf x.c ≠ 0) :
    Calls Tryz.prog 15 #[.slice a 1 c, .int .u16 (sv wt)] w fun e w' => e = .returned (.tuple #[.int .i64 0, vcl cl0, .int .i64 (cvf x.c)]) ∧ Keeps w w' := by
  have KW0 := ((Keeps.refl w).alloc (.cells #[.int .i64 0, .int .u16 0, .int .u16 0, .int .u16 0] 47))
  have hx0 : ClBox (w.alloc (.cells #[.int .i64 0, .int .u16 0, .int .u16 0, .int .u16 0] 47)) w.heap.size cl0 := World.alloc_heap_new w _
  have ha := h.isSome (by decide)
  obtain ⟨g0, g1, g2, g3, g4, g5⟩ := gl_at (h.keep KW0) (i := 0) (by decide)
  rw [show gA [x] 0 = x from rfl] at g0 g1 g2 g3 g4 g5
  simp only [Nat.zero_mul] at g0 g1 g2 g3 g4 g5
  have hs := fun W (k : Keeps w W) => csafE_any x wt W (hT.keep k) (hl.keep k) (fun hv => absurd hv hne)
  have hse : safE wt x = false := by unfold safE; rw [if_neg hne]
  rw [hse] at hs
  have hc := fun W (k : Keeps w W) => eClash_any x.c.nm x.c.kd wt x.c.M W (cvf x.c) hne (fun W' k' => validG_any x W' ((hl.keep k).keep k'))
  unfold RetCE at hc
  have hb : (cvf x.c != 0) = true := by simpa using hne
  unfold vg at hs
  simp only [vcl, cl0, sv_zero] at hc
  generalize cvf x.c = er at *
  have HS := Lib.hid hs; have HC := Lib.hid hc; have HX0 := Lib.hid hx0
  clear hs hc hse h hl hT hne hx0
  go_enter Tryz.func15, Tryz.ntmps15
  go_wp2_with fail
  generalize w.alloc (.cells #[.int .i64 0, .int .u16 0, .int .u16 0, .int .u16 0] 47) = W0 at *
  go_loopw [13] (fun v wr => v = .int .i64 0 ∧ W0 = wr) (fun v _ => 0)
  case atStart => exact ⟨rfl, rfl⟩
  case round =>
    obtain ⟨rfl, rfl⟩ := hrel
    have hn8 := Blk.new W0 32 #[.string x.c.nm, .int .i64 x.c.kd, .int .u16 (sv x.c.M), .slice x.ar x.c.R.length x.cr, .slice x.aw x.c.Q.length x.cw, .slice x.af x.c.F.length x.cf]
    have KB := (Keeps.refl W0).alloc (.cells #[.string x.c.nm, .int .i64 x.c.kd, .int .u16 (sv x.c.M), .slice x.ar x.c.R.length x.cr, .slice x.aw x.c.Q.length x.cw, .slice x.af x.c.F.length x.cf] 32)
    have HN8 := Lib.hid hn8; clear hn8
    obtain ⟨b0, b1, b2, b3, b4, b5⟩ := HN8.out.c6
    go_wp2_with fail
    generalize W0.alloc (.cells #[.string x.c.nm, .int .i64 x.c.kd, .int .u16 (sv x.c.M), .slice x.ar x.c.R.length x.cr, .slice x.aw x.c.Q.length x.cw, .slice x.af x.c.F.length x.cf] 32) = W1 at *
    generalize W0.heap.size = B8 at *
    refine (HS.out _ (KW0.trans KB)).mono ?_
    rintro e w2 ⟨rfl, K2⟩
    clear g0 g1 g2 g3 g4 g5 b0 b1 b2 b3 b4 b5
    obtain ⟨b0, b1, b2, b3, b4, b5⟩ := (HN8.out.keep K2).c6
    go_wp2_with fail
    refine (HC.out _ ((KW0.trans KB).trans K2)).mono ?_
    rintro e w4 ⟨rfl, K4⟩
    clear b0 b1 b2 b3 b4 b5
    have KA := (KB.trans K2).trans K4
    have K5 := (Keeps.refl w4).alloc (.cells #[.int .i64 0, .int .u16 0, .int .u16 0, .int .u16 0] 47)
    have hz := HX0.out.keep (KA.trans K5)
    obtain ⟨z0, z1, z2, z3⟩ := hz.cells
    obtain ⟨f0, f1, f2, f3⟩ := hz.frozen
    have HZ := Lib.hid (hz.store cl0)
    have HKZ := Lib.hid ((KW0.trans (KA.trans K5)).set4 (Nat.le_refl _) (.int .i64 0) (.int .u16 0) (.int .u16 0) (.int .u16 0))
    clear hz
    go_wp2_with fail
    exact bodyPost_ret (resUns rfl HZ.out rfl rfl rfl) rfl ⟨rfl, HKZ.out⟩
set_option maxRecDepth 20000 in
theorem jrouteE_any (a : Option Addr) (c : Nat) (l : List CA) (w : World) (h : Rd w a 2 c 6 (gl l)) (hl : RdL w l) (hne : vldL l ≠ 0) :
    Calls Tryz.prog 23 #[.slice a 2 c, .int .i64 0, .int .i64 1] w fun e w' => e = .returned (.tuple #[.slice none 0 0, .int .i64 (vldL l)]) ∧ Keeps w w' := by
  have hv := jvalid_any a 2 c l w h hl
  have hb : (vldL l != 0) = true := by simpa using hne
  generalize vldL l = er at *
  have HV := Lib.hid hv
  clear hv h hl hne
  go_enter Tryz.func23, Tryz.ntmps23
  go_wp2_with fail
  refine HV.out.mono ?_
  rintro e w2 ⟨rfl, K⟩
  go_wp2_with fail
  go_ret2
  exact ⟨rfl, K⟩
end Go.Proofs.YtnlohknlchgfgaaGreatDoor
