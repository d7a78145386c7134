/- Texts joined into one (wip/bin/pack.py): Blk, Of27, Of28, Ex28, Ev28, Same08, Awake28. -/
import Derived.Test.YtkoohobpbopnnaaGreatDoorKA
import Derived.Test.YtkoohobpbopnnaaGreatDoorKL
import Derived.Deep.RegionHeld3
import Derived.Test.YtkoohobpbopnnaaGreatDoorKJ
import Derived.Test.YtkoohobpbopnnaaGreatDoorKH
import Derived.BigQuiet
/- A variable's block: its cells, written out; stores into it; what lay below is kept. -/
namespace Go.Proofs.YtkoohobpbopnnaaGreatDoor
open Go.RowKit Go.Lib

/-- the block B holds these cells of this type and may be written -/
def Blk (w : World) (B : Nat) (T : TypeId) (cs : Array Value) : Prop := w.heap[B]? = some (.cells cs T)
theorem Blk.lt {w : World} {B : Nat} {T : TypeId} {cs : Array Value} (h : Blk w B T cs) : B < w.heap.size := by
  unfold Blk at h
  rcases Nat.lt_or_ge B w.heap.size with h' | h'
  · exact h'
  · rw [Array.getElem?_eq_none h'] at h; cases h
theorem Blk.below {n : Nat} {w w' : World} {B : Nat} {T : TypeId} {cs : Array Value} (h : Blk w B T cs) (k : Below n w w') (hn : B < n) : Blk w' B T cs := by
  unfold Blk; rw [Below.block k B hn]; exact h
theorem Blk.keep {w w' : World} {B : Nat} {T : TypeId} {cs : Array Value} (h : Blk w B T cs) (k : Keeps w w') : Blk w' B T cs := h.below k h.lt
theorem Blk.new (w : World) (T : TypeId) (cs : Array Value) : Blk (w.alloc (.cells cs T)) w.heap.size T cs := by
  show (w.heap.push _)[w.heap.size]? = _; simp
theorem Blk.of {w w' : World} {T : TypeId} {cs : Array Value} (k : Keeps (w.alloc (.cells cs T)) w') : Blk w' w.heap.size T cs := (Blk.new w T cs).keep k
theorem Blk.ofd {w w' : World} {T : TypeId} {cs : Array Value} (k : Keeps (w.alloc (.cells cs T)).drew w') : Blk w' w.heap.size T cs := ((Blk.new w T cs).keep ((Keeps.refl _).drew)).keep k
theorem Blk.set {w : World} {B : Nat} {T : TypeId} {cs : Array Value} (h : Blk w B T cs) (i : Nat) (u : Value) : Blk (w.setCell ⟨B, i, none⟩ u) B T (cs.setIfInBounds i u) := by
  unfold Blk at *; simp [World.setCell, Array.getElem?_modify, h]
theorem Blk.setOther {w : World} {B : Nat} {T : TypeId} {cs : Array Value} (h : Blk w B T cs) {C : Nat} (hC : B ≠ C) (i : Nat) (u : Value) : Blk (w.setCell ⟨C, i, none⟩ u) B T cs := by
  unfold Blk at *; rw [Below.heap_setCell _ _ _ _ (by simpa using hC)]; exact h
theorem Blk.cell {w : World} {B : Nat} {T : TypeId} {cs : Array Value} (h : Blk w B T cs) (i : Nat) {v : Value} (hv : cs[i]? = some v) : w.cell? ⟨B, i, none⟩ = some v := by
  unfold Blk at h; simp [World.cell?, h, hv]
theorem Blk.frozen {w : World} {B : Nat} {T : TypeId} {cs : Array Value} (h : Blk w B T cs) (i : Nat) : w.frozen? ⟨B, i, none⟩ = false := by
  unfold Blk at h; simp [World.frozen?, h]
theorem Blk.c6 {w : World} {B : Nat} {T : TypeId} {v0 v1 v2 v3 v4 v5 : Value} (h : Blk w B T #[v0, v1, v2, v3, v4, v5]) :
    (w.cell? ⟨B, 0, none⟩ = some v0 ∧ w.cell? ⟨B, 1, none⟩ = some v1 ∧ w.cell? ⟨B, 2, none⟩ = some v2 ∧ w.cell? ⟨B, 3, none⟩ = some v3 ∧ w.cell? ⟨B, 4, none⟩ = some v4 ∧ w.cell? ⟨B, 5, none⟩ = some v5) :=
  ⟨h.cell 0 rfl, h.cell 1 rfl, h.cell 2 rfl, h.cell 3 rfl, h.cell 4 rfl, h.cell 5 rfl⟩
theorem Blk.f6 {w : World} {B : Nat} {T : TypeId} {cs : Array Value} (h : Blk w B T cs) :
    (w.frozen? ⟨B, 0, none⟩ = false ∧ w.frozen? ⟨B, 1, none⟩ = false ∧ w.frozen? ⟨B, 2, none⟩ = false ∧ w.frozen? ⟨B, 3, none⟩ = false ∧ w.frozen? ⟨B, 4, none⟩ = false ∧ w.frozen? ⟨B, 5, none⟩ = false) :=
  ⟨h.frozen 0, h.frozen 1, h.frozen 2, h.frozen 3, h.frozen 4, h.frozen 5⟩
/-- a struct of six fields stored over a variable -/
theorem Blk.set6 {w : World} {B : Nat} {T : TypeId} {a0 a1 a2 a3 a4 a5 : Value} (h : Blk w B T #[a0, a1, a2, a3, a4, a5]) (v0 v1 v2 v3 v4 v5 : Value) :
    Blk ((((((w.setCell ⟨B, 0, none⟩ v0).setCell ⟨B, 1, none⟩ v1).setCell ⟨B, 2, none⟩ v2).setCell ⟨B, 3, none⟩ v3).setCell ⟨B, 4, none⟩ v4).setCell ⟨B, 5, none⟩ v5) B T #[v0, v1, v2, v3, v4, v5] :=
  (((((h.set 0 v0).set 1 v1).set 2 v2).set 3 v3).set 4 v4).set 5 v5
theorem keeps_set {w W : World} (k : Keeps w W) {B : Nat} (hB : w.heap.size ≤ B) (i : Nat) (u : Value) : Keeps w (W.setCell ⟨B, i, none⟩ u) := Below.setCell k hB u
theorem keeps_set6 {w W : World} (k : Keeps w W) {B : Nat} (hB : w.heap.size ≤ B) (v0 v1 v2 v3 v4 v5 : Value) :
    Keeps w ((((((W.setCell ⟨B, 0, none⟩ v0).setCell ⟨B, 1, none⟩ v1).setCell ⟨B, 2, none⟩ v2).setCell ⟨B, 3, none⟩ v3).setCell ⟨B, 4, none⟩ v4).setCell ⟨B, 5, none⟩ v5) :=
  keeps_set (keeps_set (keeps_set (keeps_set (keeps_set (keeps_set k hB 0 v0) hB 1 v1) hB 2 v2) hB 3 v3) hB 4 v4) hB 5 v5
/-- a row of another type is not the variable's block -/
def Row0 (e : TypeId) (sz : Nat) (w : World) (v : Value) (n : Nat) (xs : List Value) : Prop := w.ownsRow 0 e sz v n xs
theorem Own.row0 {e : TypeId} {sz : Nat} {w0 w : World} {v : Value} {n : Nat} {xs : List Value} (h : Own e sz w0 w v n xs) : Row0 e sz w v n xs := by
  obtain ⟨⟨h1, h2⟩, _⟩ := h
  refine ⟨h1, ?_⟩
  rcases h2 with ⟨a, b⟩ | ⟨g, cap, cur, hv, hg, r⟩
  · exact Or.inl ⟨a, b⟩
  · exact Or.inr ⟨g, cap, cur, hv, Nat.zero_le _, r⟩
theorem Row0.keep {e : TypeId} {sz : Nat} {w w' : World} {v : Value} {n : Nat} {xs : List Value} (h : Row0 e sz w v n xs) (k : Keeps w w') : Row0 e sz w' v n xs := k.own h
theorem Row0.rd {e : TypeId} {sz : Nat} {w : World} {a : Option Addr} {n m c : Nat} {xs : List Value} (h : Row0 e sz w (.slice a m c) n xs) : Rd w a n c sz xs := by
  obtain ⟨a', c', hv, hr⟩ := own_rd h
  cases hv; exact hr
theorem Row0.set {e : TypeId} {sz : Nat} {w : World} {v : Value} {n : Nat} {xs : List Value} (h : Row0 e sz w v n xs) {B : Nat} {T : TypeId} {cs : Array Value} (hB : Blk w B T cs) (hT : T ≠ e) (i : Nat) (u : Value) : Row0 e sz (w.setCell ⟨B, i, none⟩ u) v n xs := by
  obtain ⟨h1, h2⟩ := h
  refine ⟨h1, ?_⟩
  rcases h2 with ⟨a, b⟩ | ⟨g, cap, cur, hv, hg, hh, r⟩
  · exact Or.inl ⟨a, b⟩
  · refine Or.inr ⟨g, cap, cur, hv, hg, ?_, r⟩
    have hne : g ≠ B := by
      rintro rfl
      unfold Blk at hB
      rw [hB] at hh
      injection hh with hh
      injection hh with _ hh2
      exact hT hh2
    rw [Below.heap_setCell _ _ _ _ (by simpa using hne)]; exact hh
theorem Row0.set6 {e : TypeId} {sz : Nat} {w : World} {v : Value} {n : Nat} {xs : List Value} (h : Row0 e sz w v n xs) {B : Nat} {T : TypeId} {cs : Array Value} (hB : Blk w B T cs) (hT : T ≠ e) (v0 v1 v2 v3 v4 v5 : Value) :
    Row0 e sz ((((((w.setCell ⟨B, 0, none⟩ v0).setCell ⟨B, 1, none⟩ v1).setCell ⟨B, 2, none⟩ v2).setCell ⟨B, 3, none⟩ v3).setCell ⟨B, 4, none⟩ v4).setCell ⟨B, 5, none⟩ v5) v n xs :=
  (((((h.set hB hT 0 v0).set (hB.set 0 v0) hT 1 v1).set ((hB.set 0 v0).set 1 v1) hT 2 v2).set (((hB.set 0 v0).set 1 v1).set 2 v2) hT 3 v3).set ((((hB.set 0 v0).set 1 v1).set 2 v2).set 3 v3) hT 4 v4).set (((((hB.set 0 v0).set 1 v1).set 2 v2).set 3 v3).set 4 v4) hT 5 v5
end Go.Proofs.YtkoohobpbopnnaaGreatDoor
/- The reference's configuration of a draft. -/
namespace Go.Proofs.YtkoohobpbopnnaaGreatDoor
open Go.RowKit Go.Lib Go.Shelf

def nOf (N : Int) : Nat := 1 + (N % 5).toNat
def kdOf (kd : Int) : Int := 1 + kd % 2
/-- the rows of a configuration, as rows of their own type -/
structure RowC (w : World) (ar : Option Addr) (cr : Nat) (R : List S) (aw : Option Addr) (cw : Nat) (Q : List S) (af : Option Addr) (cf : Nat) (F : List F2) : Prop where
  r : Row0 27 1 w (.slice ar R.length cr) R.length (sl R)
  q : Row0 27 1 w (.slice aw Q.length cw) Q.length (sl Q)
  f : Row0 64 2 w (.slice af F.length cf) F.length (fl F)
theorem RowC.rd {w : World} {ar : Option Addr} {cr : Nat} {R : List S} {aw : Option Addr} {cw : Nat} {Q : List S} {af : Option Addr} {cf : Nat} {F : List F2} (h : RowC w ar cr R aw cw Q af cf F) : RdC w ar cr R aw cw Q af cf F := ⟨h.r.rd, h.q.rd, h.f.rd⟩
theorem RowC.keep {w w' : World} {ar : Option Addr} {cr : Nat} {R : List S} {aw : Option Addr} {cw : Nat} {Q : List S} {af : Option Addr} {cf : Nat} {F : List F2} (h : RowC w ar cr R aw cw Q af cf F) (k : Keeps w w') : RowC w' ar cr R aw cw Q af cf F := ⟨h.r.keep k, h.q.keep k, h.f.keep k⟩
theorem RowC.set6 {w : World} {ar : Option Addr} {cr : Nat} {R : List S} {aw : Option Addr} {cw : Nat} {Q : List S} {af : Option Addr} {cf : Nat} {F : List F2} (h : RowC w ar cr R aw cw Q af cf F) {B : Nat} {T : TypeId} {cs : Array Value} (hB : Blk w B T cs) (h1 : T ≠ 27) (h2 : T ≠ 64) (v0 v1 v2 v3 v4 v5 : Value) :
    RowC ((((((w.setCell ⟨B, 0, none⟩ v0).setCell ⟨B, 1, none⟩ v1).setCell ⟨B, 2, none⟩ v2).setCell ⟨B, 3, none⟩ v3).setCell ⟨B, 4, none⟩ v4).setCell ⟨B, 5, none⟩ v5) ar cr R aw cw Q af cf F := ⟨h.r.set6 hB h1 _ _ _ _ _ _, h.q.set6 hB h1 _ _ _ _ _ _, h.f.set6 hB h2 _ _ _ _ _ _⟩
/-- a configuration came back: how it reads -/
def RetCfg (w : World) (kd : Int) (M : S) (R Q : List S) (F : List F2) (e : Ending) (w' : World) : Prop :=
  ∃ ar cr aw cw af cf, e = .returned (.agg #[.string ⟨#[99]⟩, .int .i64 kd, .int .u16 (sv M), .slice ar R.length cr, .slice aw Q.length cw, .slice af F.length cf]) ∧ RowC w' ar cr R aw cw Q af cf F ∧ Keeps w w'
/-- the cells of a boxed draft -/
structure BoxD (w : World) (B : Nat) (kd N md : Int) (ar : Option Addr) (nr cr : Nat) (aw : Option Addr) (nw cw : Nat) (af : Option Addr) (nf cf : Nat) : Prop where
  c0 : w.cell? ⟨B, 0, none⟩ = some (.int .u8 kd)
  c1 : w.cell? ⟨B, 1, none⟩ = some (.int .u8 N)
  c2 : w.cell? ⟨B, 2, none⟩ = some (.int .u8 md)
  c3 : w.cell? ⟨B, 3, none⟩ = some (.slice ar nr cr)
  c4 : w.cell? ⟨B, 4, none⟩ = some (.slice aw nw cw)
  c5 : w.cell? ⟨B, 5, none⟩ = some (.slice af nf cf)
theorem BoxD.keep {w w' : World} {B : Nat} {kd N md : Int} {ar : Option Addr} {nr cr : Nat} {aw : Option Addr} {nw cw : Nat} {af : Option Addr} {nf cf : Nat} (h : BoxD w B kd N md ar nr cr aw nw cw af nf cf) (k : Keeps w w') : BoxD w' B kd N md ar nr cr aw nw cw af nf cf :=
  ⟨k.cell h.c0, k.cell h.c1, k.cell h.c2, k.cell h.c3, k.cell h.c4, k.cell h.c5⟩
theorem BoxD.new (w : World) (T : TypeId) (kd N md : Int) (ar : Option Addr) (nr cr : Nat) (aw : Option Addr) (nw cw : Nat) (af : Option Addr) (nf cf : Nat) :
    BoxD (w.alloc (.cells #[.int .u8 kd, .int .u8 N, .int .u8 md, .slice ar nr cr, .slice aw nw cw, .slice af nf cf] T)) w.heap.size kd N md ar nr cr aw nw cw af nf cf := by
  constructor <;> (rw [World.cell?_alloc_at _ _ _ _ rfl]; rfl)
theorem BoxD.conj {w : World} {B : Nat} {kd N md : Int} {ar : Option Addr} {nr cr : Nat} {aw : Option Addr} {nw cw : Nat} {af : Option Addr} {nf cf : Nat} (h : BoxD w B kd N md ar nr cr aw nw cw af nf cf) :
    w.cell? ⟨B, 0, none⟩ = some (.int .u8 kd) ∧ w.cell? ⟨B, 1, none⟩ = some (.int .u8 N) ∧ w.cell? ⟨B, 2, none⟩ = some (.int .u8 md) ∧ w.cell? ⟨B, 3, none⟩ = some (.slice ar nr cr) ∧ w.cell? ⟨B, 4, none⟩ = some (.slice aw nw cw) ∧ w.cell? ⟨B, 5, none⟩ = some (.slice af nf cf) :=
  ⟨h.c0, h.c1, h.c2, h.c3, h.c4, h.c5⟩
theorem wrapi_in (z : Int) (h0 : 0 ≤ z) (h1 : z ≤ 100000) : IntKind.i64.wrap z = z := by
  rw [IntKind.wrap_i64]; omega
theorem pack {W : World} {Q : World → Prop} (hQ : Q W) : ∃ W', W = W' ∧ Q W' := ⟨W, rfl, hQ⟩
/-- the world after the configuration's variable was made -/
structure Aft (W2 : World) (B : Nat) (u0 u1 u2 : Value) (a1 : Option Addr) (n1 c1 : Nat) (L1 : List Value) (a2 : Option Addr) (n2 c2 : Nat) (L2 : List Value) (W : World) : Prop where
  blk : Blk W B 32 #[u0, u1, u2, .slice a1 n1 c1, .slice a2 n2 c2, .slice none 0 0]
  r1 : Row0 27 1 W (.slice a1 n1 c1) n1 L1
  r2 : Row0 27 1 W (.slice a2 n2 c2) n2 L2
  k : Keeps W2 W
  hB : W2.heap.size ≤ B
theorem Aft.ofSet {W2 W : World} {B : Nat} {a0 b1 b2 b3 b4 b5 : Value} (hN : Blk W B 32 #[a0, b1, b2, b3, b4, b5]) {a1 : Option Addr} {n1 c1 : Nat} {L1 : List Value} {a2 : Option Addr} {n2 c2 : Nat} {L2 : List Value}
    (r1 : Row0 27 1 W (.slice a1 n1 c1) n1 L1) (r2 : Row0 27 1 W (.slice a2 n2 c2) n2 L2) (k : Keeps W2 W) (hB : W2.heap.size ≤ B) (u0 u1 u2 : Value) :
    Aft W2 B u0 u1 u2 a1 n1 c1 L1 a2 n2 c2 L2 ((((((W.setCell ⟨B, 0, none⟩ u0).setCell ⟨B, 1, none⟩ u1).setCell ⟨B, 2, none⟩ u2).setCell ⟨B, 3, none⟩ (.slice a1 n1 c1)).setCell ⟨B, 4, none⟩ (.slice a2 n2 c2)).setCell ⟨B, 5, none⟩ (.slice none 0 0)) :=
  ⟨hN.set6 _ _ _ _ _ _, r1.set6 hN (by decide) _ _ _ _ _ _, r2.set6 hN (by decide) _ _ _ _ _ _, keeps_set6 k hB _ _ _ _ _ _, hB⟩
theorem Aft.ofNew {W2 W : World} {a1 : Option Addr} {n1 c1 : Nat} {L1 : List Value} {a2 : Option Addr} {n2 c2 : Nat} {L2 : List Value}
    (r1 : Row0 27 1 W (.slice a1 n1 c1) n1 L1) (r2 : Row0 27 1 W (.slice a2 n2 c2) n2 L2) (k : Keeps W2 W) (u0 u1 u2 : Value) :
    Aft W2 W.heap.size u0 u1 u2 a1 n1 c1 L1 a2 n2 c2 L2 (W.alloc (.cells #[u0, u1, u2, .slice a1 n1 c1, .slice a2 n2 c2, .slice none 0 0] 32)) :=
  ⟨Blk.new _ _ _, r1.keep ((Keeps.refl _).alloc _), r2.keep ((Keeps.refl _).alloc _), k.alloc _, k.size⟩
set_option maxRecDepth 20000 in
set_option maxHeartbeats 3000000 in
theorem of27_any (kd N md : Int) {ar : Option Addr} {cr : Nat} (lr : List S) {aw : Option Addr} {cw : Nat} (lw : List S) {af : Option Addr} {cf : Nat} (lf : List F2) (w : World) (hr : Rd w ar lr.length cr 1 (sl lr)) (hq : Rd w aw lw.length cw 1 (sl lw)) (hf : Rd w af lf.length cf 2 (fl lf))
    (hk0 : 0 ≤ kd) (_hk1 : kd ≤ 255) (hN0 : 0 ≤ N) (hN1 : N ≤ 255) (hm0 : 0 ≤ md) (hm1 : md ≤ 255) :
    Calls Tryz.prog 35 #[.agg #[.int .u8 kd, .int .u8 N, .int .u8 md, .slice ar lr.length cr, .slice aw lw.length cw, .slice af lf.length cf], .string ⟨#[99]⟩] w fun e w' => RetCfg w (kdOf kd) (fullS (nOf N)) (setsR md lr (nOf N)) (setsR md lw (nOf N)) (madeF (nOf N) lf) e w' := by
  have K0 := (Keeps.refl w).alloc (.cells #[.int .u8 kd, .int .u8 N, .int .u8 md, .slice ar lr.length cr, .slice aw lw.length cw, .slice af lf.length cf] 25)
  have hb := BoxD.new w 25 kd N md ar lr.length cr aw lw.length cw af lf.length cf
  obtain ⟨W1, hW1⟩ : ∃ W0, W0 = w.alloc (.cells #[.int .u8 kd, .int .u8 N, .int .u8 md, .slice ar lr.length cr, .slice aw lw.length cw, .slice af lf.length cf] 25) := ⟨_, rfl⟩
  have hsz : W1.heap.size = w.heap.size + 1 := by rw [hW1, World.size_alloc]
  rw [← hW1] at hb K0
  have k2 := (Keeps.refl W1).alloc (.cells #[.string ⟨#[]⟩, .int .i64 0, .int .u16 0, .slice none 0 0, .slice none 0 0, .slice none 0 0] 32)
  obtain ⟨W2, hW2⟩ : ∃ W2, W2 = W1.alloc (.cells #[.string ⟨#[]⟩, .int .i64 0, .int .u16 0, .slice none 0 0, .slice none 0 0, .slice none 0 0] 32) := ⟨_, rfl⟩
  rw [← hW2] at k2
  replace hb := hb.keep k2
  replace K0 := K0.trans k2
  have hres : Blk W2 (w.heap.size + 1) 32 #[.string ⟨#[]⟩, .int .i64 0, .int .u16 0, .slice none 0 0, .slice none 0 0, .slice none 0 0] := by
    rw [hW2, ← hsz]; exact Blk.new _ _ _
  have HRES := Lib.hid hres
  have hw2 := hres.lt
  clear hres
  have hn1 : N % 5 = ((N % 5).toNat : Int) := by omega
  have hn2 : (N % 5).toNat < 5 := by omega
  obtain ⟨z, hz⟩ : ∃ z : Nat, kd % 2 = (z : Int) := ⟨(kd % 2).toNat, by omega⟩
  have hzt : kd.tmod 2 = (z : Int) := by rw [Int.tmod_eq_emod_of_nonneg hk0, hz]
  have hz2 : z < 2 := by omega
  have hno : nOf N = 1 + (N % 5).toNat := rfl
  rw [hno]
  generalize (N % 5).toNat = q at *
  have h1 := fun (a : Option Addr) (c : Nat) (l : List S) (W : World) (h : Rd W a l.length c 1 (sl l)) => sets_any kd N md (.slice ar lr.length cr) (.slice aw lw.length cw) (.slice af lf.length cf) a c l (1 + q) W h (by omega) (by omega) hm0 hm1
  have h3 := fun W (k : Keeps w W) => made19_any (1 + q) af cf lf W (hf.keep k) (by omega) (by omega)
  rw [show ((1 + q : Nat) : Int) = 1 + (q : Int) by omega] at h1 h3
  obtain ⟨g, hg⟩ : ∃ g : List S → List S, g = fun l => setsR md l (1 + q) := ⟨_, rfl⟩
  replace h1 : ∀ (a : Option Addr) (c : Nat) (l : List S) (W : World), Rd W a l.length c 1 (sl l) → Calls Tryz.prog 65 #[.agg #[.int .u8 kd, .int .u8 N, .int .u8 md, .slice ar lr.length cr, .slice aw lw.length cw, .slice af lf.length cf], .slice a l.length c, .int .i64 (1 + (q : Int))] W fun e w' => ∃ v, e = .returned v ∧ Own 27 1 W w' v (g l).length (sl (g l)) := by
    subst hg; exact h1
  rw [show setsR md lr (1 + q) = g lr by rw [hg], show setsR md lw (1 + q) = g lw by rw [hg]]
  clear hg
  generalize madeF (1 + q) lf = F at *
  have H1 := Lib.hid h1; have H3 := Lib.hid h3; have HB := Lib.hid hb
  replace hr := hr.keep K0; replace hq := hq.keep K0
  have HR := Lib.hid (fun (W : World) (K : Keeps W2 W) => hr.keep K)
  have HQ := Lib.hid (fun (W : World) (K : Keeps W2 W) => hq.keep K)
  clear h1 h3 hno hr hq hf hb
  go_enter Tryz.func35, Tryz.ntmps35
  have hcc := HB.out.conj
  obtain ⟨c0, c1, c2, c3, c4, c5⟩ := hcc
  go_wp2_with fail
  rw [← hW1, ← hW2]
  have J0 := Keeps.refl W2
  clear c0 c1 c2 c3 c4 c5 hsz k2 hW1 hW2
  go_region_held3 (fun w' => w'.cell? ⟨w.heap.size, 0, none⟩ = some (.int .u8 kd) ∧ w'.cell? ⟨w.heap.size, 1, none⟩ = some (.int .u8 N) ∧ w'.cell? ⟨w.heap.size, 2, none⟩ = some (.int .u8 md) ∧ w'.cell? ⟨w.heap.size, 3, none⟩ = some (.slice ar lr.length cr) ∧ w'.cell? ⟨w.heap.size, 4, none⟩ = some (.slice aw lw.length cw) ∧ w'.cell? ⟨w.heap.size, 5, none⟩ = some (.slice af lf.length cf)) (first | with_reducible exact (HB.out.keep (J0.drew)).conj | with_reducible exact (HB.out.keep (J0.alloc _).drew).conj | with_reducible exact (HB.out.keep (k9.alloc _)).conj | with_reducible exact hF | with_reducible exact (HB.out.keep (keeps_set6 k9 hNB _ _ _ _ _ _)).conj | go_keep) ((go_at_call 65; refine (H1.out _ _ _ _ (by first | with_reducible exact HR.out _ J0.drew | with_reducible exact HQ.out _ J0.drew | with_reducible exact HR.out _ ((J0.alloc _).drew) | with_reducible exact HQ.out _ ((J0.alloc _).drew) | with_reducible exact HR.out _ k9 | with_reducible exact HQ.out _ k9 | with_reducible exact HR.out _ (k9.alloc _) | with_reducible exact HQ.out _ (k9.alloc _))).mono ?_; rintro e W9 ⟨v9, rfl, hO⟩; obtain ⟨a9, c9, rfl, hR⟩ := hO.rd; (try (replace hr1 := hr1.keep (Keeps.trans (by first | with_reducible exact Keeps.refl _ | with_reducible exact (Keeps.refl _).alloc _ | with_reducible exact ((Keeps.refl _).alloc _).drew) hO.2))); (try (replace hq1 := hq1.keep (Keeps.trans (by first | with_reducible exact Keeps.refl _ | with_reducible exact (Keeps.refl _).alloc _ | with_reducible exact ((Keeps.refl _).alloc _).drew) hO.2))); (first | have hr1 : Row0 27 1 W9 (.slice a9 (g lr).length c9) (g lr).length (sl (g lr)) := hO.row0 | have hq1 : Row0 27 1 W9 (.slice a9 (g lw).length c9) (g lw).length (sl (g lw)) := hO.row0); replace k9 : Keeps W2 W9 := Keeps.trans (by first | with_reducible exact J0.drew | with_reducible exact (J0.alloc _).drew | with_reducible exact k9 | with_reducible exact k9.alloc _) hO.2; have hF := (HB.out.keep k9).conj; (first | ((first | have hN := Blk.ofd hO.2 | have hN := Blk.of hO.2); have hNB := Keeps.size (by first | with_reducible exact k8 | with_reducible exact J0)) | (replace hN := Blk.keep hN hO.2) | skip); (try (obtain ⟨n0, n1, n2, n3, n4, n5⟩ := hN.c6; obtain ⟨g0, g1, g2, g3, g4, g5⟩ := hN.f6)); have k8 := k9; dsimp only))
  all_goals
    clear hF
    first
    | obtain ⟨Wf, hWf, hA⟩ := pack (Aft.ofSet hN hr1 hq1 k9 hNB (.string ⟨#[99]⟩) (.int .i64 (IntKind.i64.wrap (1 + IntKind.i64.wrap (z : Int)))) (.int .u16 (sv (1#16 <<< (1 + (q : Int)).toNat - 1#16))))
      rw [hWf]
      clear hWf hN hNB n0 n1 n2 n3 n4 n5 g0 g1 g2 g3 g4 g5
    | obtain ⟨Wf, hWf, hA⟩ := pack (Aft.ofNew hr1 hq1 k9 (.string ⟨#[99]⟩) (.int .i64 (IntKind.i64.wrap (1 + IntKind.i64.wrap (z : Int)))) (.int .u16 (sv (1#16 <<< (1 + (q : Int)).toNat - 1#16))))
      rw [hWf]
      clear hWf
  all_goals
    clear hO hR hr1 hq1 k9 k8
    have hu1 : IntKind.i64.wrap (1 + IntKind.i64.wrap (z : Int)) = 1 + (z : Int) := by rw [wrapi_in (z : Int) (by omega) (by omega), wrapi_in (1 + (z : Int)) (by omega) (by omega)]
    have hu2 : sv (1#16 <<< (1 + (q : Int)).toNat - 1#16) = sv (fullS (1 + q)) := by
      rw [show (1 + (q : Int)).toNat = 1 + q by omega]; rfl
    rw [hu1, hu2] at hA
    have hne : _ ≠ w.heap.size + 1 := Nat.ne_of_gt (Nat.lt_of_lt_of_le hw2 hA.hB)
    have HA := Lib.hid hA
    have kA := K0.trans hA.k
    obtain ⟨d0, d1, d2, d3, d4, d5⟩ := (HB.out.keep hA.k).conj
    have hcall := H3.out _ kA
    have HC := Lib.hid hcall; have HNE := Lib.hid hne
    clear hA hu1 hu2 hcall hne d0 d1 d2 d3 d4
    go_wp2_with fail
    refine HC.out.mono ?_
    rintro e W10 ⟨v10, rfl, hO3⟩
    obtain ⟨a3, c3, rfl, hR3⟩ := hO3.rd
    have m10 := HA.out.blk.keep hO3.2
    have s10 := HRES.out.keep (HA.out.k.trans hO3.2)
    have k10 := kA.trans hO3.2
    obtain ⟨n0, n1, n2, n3, n4, n5⟩ := m10.c6
    obtain ⟨g0, g1, g2, g3, g4, g5⟩ := m10.f6
    obtain ⟨p0, p1, p2, p3, p4, p5⟩ := s10.c6
    obtain ⟨q0, q1, q2, q3, q4, q5⟩ := s10.f6
    have hne := HNE.out
    go_wp2_with fail
    clear n0 n1 n2 n3 n4 n5 g0 g1 g2 g3 g4 g5 p0 p1 p2 p3 p4 p5 q0 q1 q2 q3 q4 q5
    have hb1 := (m10.set 5 (.slice a3 F.length c3))
    have hs1 := s10.setOther (Ne.symm hne) 5 (.slice a3 F.length c3)
    have x1 := ((HA.out.r1.keep hO3.2).set m10 (by decide) 5 (.slice a3 F.length c3)).set6 hs1 (by decide)
    have x2 := ((HA.out.r2.keep hO3.2).set m10 (by decide) 5 (.slice a3 F.length c3)).set6 hs1 (by decide)
    have x3 := (hO3.row0.set m10 (by decide) 5 (.slice a3 F.length c3)).set6 hs1 (by decide)
    have hkd : kdOf kd = 1 + (z : Int) := by unfold kdOf; rw [hz]
    rw [hkd]
    have hsz2 : w.heap.size ≤ w.heap.size + 1 := Nat.le_succ _
    refine bodyPost_ret (results_cell_row rfl _ _ _ _ _ _ _ rfl (hs1.set6 _ _ _ _ _ _) rfl rfl rfl) rfl ?_
    exact ⟨_, _, _, _, _, _, rfl, ⟨x1 _ _ _ _ _ _, x2 _ _ _ _ _ _, x3 _ _ _ _ _ _⟩, keeps_set6 (keeps_set k10 (Nat.le_trans K0.size HA.out.hB) _ _) hsz2 _ _ _ _ _ _⟩
end Go.Proofs.YtkoohobpbopnnaaGreatDoor
/- The configuration and the model of a case. -/
namespace Go.Proofs.YtkoohobpbopnnaaGreatDoor
open Go.RowKit Go.Lib Go.Shelf

/-- a configuration in a variable and two plain values come back -/
theorem resCfg3 {fn : Func} {p u v : Tmp} (h : fn.results = #[.cell p 32, .tmp u, .tmp v]) {tmps : Array Value} {W : World} {B : Nat} {a0 a1 a2 a3 a4 a5 x y : Value} (hB : Blk W B 32 #[a0, a1, a2, a3, a4, a5])
    (tp : tmps.getD p undef = .pointer (some ⟨B, 0, none⟩)) (tu : tmps.getD u undef = x) (tv : tmps.getD v undef = y) :
    (results fn tmps).run Tryz.prog W = .ok (.tuple #[.agg #[a0, a1, a2, a3, a4, a5], x, y]) W := by
  simp only [results, h]
  obtain ⟨k0, k1, k2, k3, k4, k5⟩ := hB.c6
  simp only [Array.getD_eq_getD_getElem?] at tp tu tv
  simp [go_sem, tp, tu, tv, asAddr, loadVar, loadCells, loadCellsFrom, k0, k1, k2, k3, k4, k5]
/-- the cells of a boxed case -/
structure BoxK (w : World) (B : Nat) (kd N md : Int) (ar : Option Addr) (nr cr : Nat) (aw : Option Addr) (nw cw : Nat) (af : Option Addr) (nf cf : Nat) (wt : S) (am : Option Addr) (nm cm : Nat) : Prop where
  c0 : w.cell? ⟨B, 0, none⟩ = some (.int .u8 kd)
  c1 : w.cell? ⟨B, 1, none⟩ = some (.int .u8 N)
  c2 : w.cell? ⟨B, 2, none⟩ = some (.int .u8 md)
  c3 : w.cell? ⟨B, 3, none⟩ = some (.slice ar nr cr)
  c4 : w.cell? ⟨B, 4, none⟩ = some (.slice aw nw cw)
  c5 : w.cell? ⟨B, 5, none⟩ = some (.slice af nf cf)
  c6 : w.cell? ⟨B, 6, none⟩ = some (.int .u16 (sv wt))
  c7 : w.cell? ⟨B, 7, none⟩ = some (.slice am nm cm)
theorem BoxK.keep {w w' : World} {B : Nat} {kd N md : Int} {ar : Option Addr} {nr cr : Nat} {aw : Option Addr} {nw cw : Nat} {af : Option Addr} {nf cf : Nat} {wt : S} {am : Option Addr} {nm cm : Nat} (h : BoxK w B kd N md ar nr cr aw nw cw af nf cf wt am nm cm) (k : Keeps w w') : BoxK w' B kd N md ar nr cr aw nw cw af nf cf wt am nm cm :=
  ⟨k.cell h.c0, k.cell h.c1, k.cell h.c2, k.cell h.c3, k.cell h.c4, k.cell h.c5, k.cell h.c6, k.cell h.c7⟩
theorem BoxK.new (w : World) (T : TypeId) (kd N md : Int) (ar : Option Addr) (nr cr : Nat) (aw : Option Addr) (nw cw : Nat) (af : Option Addr) (nf cf : Nat) (wt : S) (am : Option Addr) (nm cm : Nat) :
    BoxK (w.alloc (.cells #[.int .u8 kd, .int .u8 N, .int .u8 md, .slice ar nr cr, .slice aw nw cw, .slice af nf cf, .int .u16 (sv wt), .slice am nm cm] T)) w.heap.size kd N md ar nr cr aw nw cw af nf cf wt am nm cm := by
  constructor <;> (rw [World.cell?_alloc_at _ _ _ _ rfl]; rfl)
theorem BoxK.conj {w : World} {B : Nat} {kd N md : Int} {ar : Option Addr} {nr cr : Nat} {aw : Option Addr} {nw cw : Nat} {af : Option Addr} {nf cf : Nat} {wt : S} {am : Option Addr} {nm cm : Nat} (h : BoxK w B kd N md ar nr cr aw nw cw af nf cf wt am nm cm) :
    w.cell? ⟨B, 0, none⟩ = some (.int .u8 kd) ∧ w.cell? ⟨B, 1, none⟩ = some (.int .u8 N) ∧ w.cell? ⟨B, 2, none⟩ = some (.int .u8 md) ∧ w.cell? ⟨B, 3, none⟩ = some (.slice ar nr cr) ∧ w.cell? ⟨B, 4, none⟩ = some (.slice aw nw cw) ∧ w.cell? ⟨B, 5, none⟩ = some (.slice af nf cf) ∧ w.cell? ⟨B, 7, none⟩ = some (.slice am nm cm) :=
  ⟨h.c0, h.c1, h.c2, h.c3, h.c4, h.c5, h.c7⟩
/-- a configuration, a model and a yes came back -/
def RetOf (w : World) (kd : Int) (M : S) (R Q : List S) (F m : List F2) (e : Ending) (w' : World) : Prop :=
  ∃ ar cr aw cw af cf am cm, e = .returned (.tuple #[.agg #[.string ⟨#[99]⟩, .int .i64 kd, .int .u16 (sv M), .slice ar R.length cr, .slice aw Q.length cw, .slice af F.length cf], .slice am m.length cm, .bool true]) ∧ RowC w' ar cr R aw cw Q af cf F ∧ Rd w' am m.length cm 2 (fl m) ∧ Keeps w w'
set_option maxRecDepth 20000 in
set_option maxHeartbeats 3000000 in
theorem of28_any (kd N md : Int) {ar : Option Addr} {cr : Nat} (lr : List S) {aw : Option Addr} {cw : Nat} (lw : List S) {af : Option Addr} {cf : Nat} (lf : List F2) (wt : S) {am : Option Addr} {cm : Nat} (lm : List F2) (w : World) (hr : Rd w ar lr.length cr 1 (sl lr)) (hq : Rd w aw lw.length cw 1 (sl lw)) (hf : Rd w af lf.length cf 2 (fl lf)) (hm : Rd w am lm.length cm 2 (fl lm))
    (hk0 : 0 ≤ kd) (hk1 : kd ≤ 255) (hN0 : 0 ≤ N) (hN1 : N ≤ 255) (hm0 : 0 ≤ md) (hm1 : md ≤ 255) (h20 : lm.length ≤ 20) :
    Calls Tryz.prog 11 #[.agg #[.int .u8 kd, .int .u8 N, .int .u8 md, .slice ar lr.length cr, .slice aw lw.length cw, .slice af lf.length cf, .int .u16 (sv wt), .slice am lm.length cm]] w fun e w' => RetOf w (kdOf kd) (fullS (nOf N)) (setsR md lr (nOf N)) (setsR md lw (nOf N)) (madeF (nOf N) lf) (madeF 6 lm) e w' := by
  have h1 := fun W (k : Keeps w W) => of27_any kd N md lr lw lf W (hr.keep k) (hq.keep k) (hf.keep k) hk0 hk1 hN0 hN1 hm0 hm1
  have h2 := fun W (k : Keeps w W) => made19_any 6 am cm lm W (hm.keep k) (by omega) (by omega)
  rw [show ((6 : Nat) : Int) = 6 from rfl] at h2
  have hg20 : ¬ (20 : Int) < (lm.length : Int) := by omega
  have hb := BoxK.new w 29 kd N md ar lr.length cr aw lw.length cw af lf.length cf wt am lm.length cm
  have K0 := (Keeps.refl w).alloc (.cells #[.int .u8 kd, .int .u8 N, .int .u8 md, .slice ar lr.length cr, .slice aw lw.length cw, .slice af lf.length cf, .int .u16 (sv wt), .slice am lm.length cm] 29)
  generalize kdOf kd = kd2 at *
  generalize fullS (nOf N) = M at *
  generalize setsR md lr (nOf N) = R at *
  generalize setsR md lw (nOf N) = Q at *
  generalize madeF (nOf N) lf = F at *
  generalize madeF 6 lm = m at *
  obtain ⟨W1, hW1⟩ : ∃ W0, W0 = w.alloc (.cells #[.int .u8 kd, .int .u8 N, .int .u8 md, .slice ar lr.length cr, .slice aw lw.length cw, .slice af lf.length cf, .int .u16 (sv wt), .slice am lm.length cm] 29) := ⟨_, rfl⟩
  have hsz : W1.heap.size = w.heap.size + 1 := by rw [hW1, World.size_alloc]
  rw [← hW1] at hb K0
  have J0 := (Keeps.refl W1).alloc (.cells #[.string ⟨#[]⟩, .int .i64 0, .int .u16 0, .slice none 0 0, .slice none 0 0, .slice none 0 0] 32)
  have hN : Blk (W1.alloc (.cells #[.string ⟨#[]⟩, .int .i64 0, .int .u16 0, .slice none 0 0, .slice none 0 0, .slice none 0 0] 32)) (w.heap.size + 1) 32 #[.string ⟨#[]⟩, .int .i64 0, .int .u16 0, .slice none 0 0, .slice none 0 0, .slice none 0 0] := by
    rw [← hsz]; exact Blk.new _ _ _
  obtain ⟨W2, hW2⟩ : ∃ W2, W2 = W1.alloc (.cells #[.string ⟨#[]⟩, .int .i64 0, .int .u16 0, .slice none 0 0, .slice none 0 0, .slice none 0 0] 32) := ⟨_, rfl⟩
  rw [← hW2] at J0 hN
  have hle : W1.heap.size ≤ w.heap.size + 1 := by omega
  replace h1 := fun W (k : Keeps W1 W) => h1 W (K0.trans k)
  replace h2 := fun W (k : Keeps W1 W) => h2 W (K0.trans k)
  have H1 := Lib.hid h1; have H2 := Lib.hid h2; have HB := Lib.hid hb
  have c7 := (hb.keep J0).c7
  clear h1 h2 hb hr hq hf hm hk0 hk1 hN0 hN1 hm0 hm1 h20
  go_enter Tryz.func11, Tryz.ntmps11
  go_wp2_with fail
  rw [← hW1, ← hW2]
  clear hsz hW1 hW2 c7
  have J := J0.drew
  replace hN := hN.keep ((Keeps.refl _).drew)
  obtain ⟨n0, n1, n2, n3, n4, n5⟩ := hN.c6
  obtain ⟨g0, g1, g2, g3, g4, g5⟩ := hN.f6
  go_region_held3 (fun w' => w'.cell? ⟨w.heap.size, 0, none⟩ = some (.int .u8 kd) ∧ w'.cell? ⟨w.heap.size, 1, none⟩ = some (.int .u8 N) ∧ w'.cell? ⟨w.heap.size, 2, none⟩ = some (.int .u8 md) ∧ w'.cell? ⟨w.heap.size, 3, none⟩ = some (.slice ar lr.length cr) ∧ w'.cell? ⟨w.heap.size, 4, none⟩ = some (.slice aw lw.length cw) ∧ w'.cell? ⟨w.heap.size, 5, none⟩ = some (.slice af lf.length cf) ∧ w'.cell? ⟨w.heap.size, 7, none⟩ = some (.slice am lm.length cm)) (first | with_reducible exact (HB.out.keep J).conj | with_reducible exact (HB.out.keep (keeps_set6 J hle _ _ _ _ _ _)).conj | go_keep) ((first | (go_at_call 35; refine (H1.out _ (by with_reducible exact J)).mono ?_; rintro e W9 ⟨a0, d0, a1, d1, a2, d2, rfl, hC, k9⟩; replace J := Keeps.trans J k9; replace hN := Blk.keep hN k9; (try replace hM := Row0.keep hM k9); obtain ⟨n0, n1, n2, n3, n4, n5⟩ := hN.c6; obtain ⟨g0, g1, g2, g3, g4, g5⟩ := hN.f6; clear k9) | (go_at_call 34; refine (H2.out _ (by first | with_reducible exact J | with_reducible exact keeps_set6 J hle _ _ _ _ _ _)).mono ?_; rintro e W9 ⟨v9, rfl, hO⟩; obtain ⟨a9, c9, rfl, hR9⟩ := hO.rd; have k9 := hO.2; have hM := hO.row0; (first | (replace J := Keeps.trans J k9; replace hN := Blk.keep hN k9; (try replace hC := RowC.keep hC k9)) | (replace J := Keeps.trans (keeps_set6 J hle _ _ _ _ _ _) k9; replace hC := RowC.keep (hC.set6 hN (by decide) (by decide) _ _ _ _ _ _) k9; replace hN := Blk.keep (hN.set6 _ _ _ _ _ _) k9)); obtain ⟨n0, n1, n2, n3, n4, n5⟩ := hN.c6; obtain ⟨g0, g1, g2, g3, g4, g5⟩ := hN.f6; clear k9 hO hR9)))
  all_goals go_wp2_with fail
  all_goals first
    | exact bodyPost_ret (resCfg3 rfl (hN.set6 _ _ _ _ _ _) rfl rfl rfl) rfl ⟨_, _, _, _, _, _, _, _, rfl, hC.set6 hN (by decide) (by decide) _ _ _ _ _ _, (hM.set6 hN (by decide) _ _ _ _ _ _).rd, keeps_set6 (K0.trans J) (Nat.le_succ _) _ _ _ _ _ _⟩
    | exact bodyPost_ret (resCfg3 rfl hN rfl rfl rfl) rfl ⟨_, _, _, _, _, _, _, _, rfl, hC, hM.rd, K0.trans J⟩
/-- a case with too many faults -/
theorem of28_long (kd N md : Int) {ar : Option Addr} {nr cr : Nat} {aw : Option Addr} {nw cw : Nat} {af : Option Addr} {nf cf : Nat} (wt : S) {am : Option Addr} {nm cm : Nat} (w : World) (h20 : 20 < nm) :
    Calls Tryz.prog 11 #[.agg #[.int .u8 kd, .int .u8 N, .int .u8 md, .slice ar nr cr, .slice aw nw cw, .slice af nf cf, .int .u16 (sv wt), .slice am nm cm]] w fun e w' => e = .returned (.tuple #[.agg #[.string ⟨#[]⟩, .int .i64 0, .int .u16 0, .slice none 0 0, .slice none 0 0, .slice none 0 0], .slice none 0 0, .bool false]) ∧ Keeps w w' := by
  have hg20 : (20 : Int) < (nm : Int) := by omega
  have K0 := (Keeps.refl w).alloc (.cells #[.int .u8 kd, .int .u8 N, .int .u8 md, .slice ar nr cr, .slice aw nw cw, .slice af nf cf, .int .u16 (sv wt), .slice am nm cm] 29)
  have hN := Blk.new (w.alloc (.cells #[.int .u8 kd, .int .u8 N, .int .u8 md, .slice ar nr cr, .slice aw nw cw, .slice af nf cf, .int .u16 (sv wt), .slice am nm cm] 29)) 32 #[.string ⟨#[]⟩, .int .i64 0, .int .u16 0, .slice none 0 0, .slice none 0 0, .slice none 0 0]
  rw [World.size_alloc] at hN
  have HN := Lib.hid hN
  clear hN h20
  go_enter Tryz.func11, Tryz.ntmps11
  go_wp2_with fail
  exact bodyPost_ret (resCfg3 rfl HN.out rfl rfl rfl) rfl ⟨rfl, K0.alloc _⟩
end Go.Proofs.YtkoohobpbopnnaaGreatDoor
/- The configuration of the examples of the layer trust. -/
namespace Go.Proofs.YtkoohobpbopnnaaGreatDoor
open Go.RowKit Go.Lib Go.Shelf

def m0 : List F2 := [(0#16, 0#16)]
def exT : List S := [7#16, 11#16, 13#16, 14#16]
set_option maxRecDepth 20000 in
theorem example_any (kd : Int) (w : World) : Calls Tryz.prog 36 #[.int .i64 kd] w fun e w' => RetCfg w kd 15#16 exT exT m0 e w' := by
  have b := Blk.new w 32 #[.string ⟨#[99]⟩, .int .i64 kd, .int .u16 15, .slice (some ⟨w.heap.size + 1, 0, none⟩) 4 4, .slice (some ⟨w.heap.size + 1, 0, none⟩) 4 4, .slice (some ⟨w.heap.size + 1 + 1, 0, none⟩) 1 1]
  have K1 := (Keeps.refl w).alloc (.cells #[.string ⟨#[99]⟩, .int .i64 kd, .int .u16 15, .slice (some ⟨w.heap.size + 1, 0, none⟩) 4 4, .slice (some ⟨w.heap.size + 1, 0, none⟩) 4 4, .slice (some ⟨w.heap.size + 1 + 1, 0, none⟩) 1 1] 32)
  obtain ⟨W1, hW1⟩ : ∃ W1, W1 = w.alloc (.cells #[.string ⟨#[99]⟩, .int .i64 kd, .int .u16 15, .slice (some ⟨w.heap.size + 1, 0, none⟩) 4 4, .slice (some ⟨w.heap.size + 1, 0, none⟩) 4 4, .slice (some ⟨w.heap.size + 1 + 1, 0, none⟩) 1 1] 32) := ⟨_, rfl⟩
  have s1 : W1.heap.size = w.heap.size + 1 := by rw [hW1, World.size_alloc]
  rw [← hW1] at b K1
  have o1 := (Own.made (e := 27) (sz := 1) (Keeps.refl W1) [.int .u16 7, .int .u16 11, .int .u16 13, .int .u16 14] 4 (by decide) rfl).row0
  have k2 := (Keeps.refl W1).alloc (.cells #[.int .u16 7, .int .u16 11, .int .u16 13, .int .u16 14] 27)
  obtain ⟨W2, hW2⟩ : ∃ W2, W2 = W1.alloc (.cells #[.int .u16 7, .int .u16 11, .int .u16 13, .int .u16 14] 27) := ⟨_, rfl⟩
  have s2 : W2.heap.size = w.heap.size + 1 + 1 := by rw [hW2, World.size_alloc, s1]
  rw [s1] at o1
  replace o1 : Row0 27 1 W2 (.slice (some ⟨w.heap.size + 1, 0, none⟩) 4 4) 4 [.int .u16 7, .int .u16 11, .int .u16 13, .int .u16 14] := by rw [hW2]; exact o1
  rw [← hW2] at k2
  have o2 := (Own.made (e := 64) (sz := 2) (Keeps.refl W2) [.int .u16 0, .int .u16 0] 1 (by decide) rfl).row0
  have k3 := (Keeps.refl W2).alloc (.cells #[.int .u16 0, .int .u16 0] 64)
  rw [s2] at o2
  have HF := Lib.hid (And.intro ((b.keep k2).keep k3) (And.intro (o1.keep k3) (And.intro o2 ((K1.trans k2).trans k3))))
  have HW1 := Lib.hid hW1; have HW2 := Lib.hid hW2
  clear b K1 o1 k2 o2 k3 hW1 hW2 s1 s2
  go_enter Tryz.func36, Tryz.ntmps36
  go_wp2_with fail
  rw [← HW1.out, ← HW2.out]
  obtain ⟨b, o1, o2, K⟩ := HF.out
  refine bodyPost_ret (results_cell_row rfl _ _ _ _ _ _ _ rfl b rfl rfl rfl) rfl ?_
  exact ⟨_, _, _, _, _, _, rfl, ⟨o1, o1, o2⟩, K⟩
end Go.Proofs.YtkoohobpbopnnaaGreatDoor
/- The examples of the layer trust, computed. -/
namespace Go.Proofs.YtkoohobpbopnnaaGreatDoor
open Go.RowKit Go.Lib Go.Shelf

def m1 : List F2 := [(1#16, 0#16), (2#16, 0#16), (4#16, 0#16), (8#16, 0#16)]
def m2 : List F2 := [(3#16, 0#16), (5#16, 0#16), (6#16, 0#16), (9#16, 0#16), (10#16, 0#16), (12#16, 0#16)]
theorem byz1 : byzS 15#16 m1 = [1#16, 2#16, 4#16, 8#16] := by rw [byz_same (by show (15#16 : S).toNat < 4096; decide) (by decide)]; decide +kernel
theorem byz2 : byzS 15#16 m2 = [3#16, 5#16, 6#16, 9#16, 10#16, 12#16] := by rw [byz_same (by show (15#16 : S).toNat < 4096; decide) (by decide)]; decide +kernel
theorem byz0 : byzS 15#16 m0 = [0#16] := by rw [byz_same (by show (15#16 : S).toNat < 4096; decide) (by decide)]; decide +kernel
theorem tv1 : tvS 2 15#16 exT exT m0 m1 = 0 := by decide +kernel
theorem tv2 : tvS 2 15#16 exT exT m0 m2 = 0 := by decide +kernel
theorem tv0 : tvS 2 15#16 exT exT m0 m0 = 0 := by decide +kernel
theorem tv11 : tvS 1 15#16 exT exT m0 m1 = 0 := by decide +kernel
theorem cm1 : cmFold 0#16 [1#16, 2#16, 4#16, 8#16] exT (subsetsL 15#16) = exT := by decide +kernel
theorem cm0 : (cmFold 0#16 [0#16] exT (subsetsL 15#16)) = [3#16, 5#16, 6#16, 9#16, 10#16, 12#16] := by decide +kernel
theorem com1 : comS 2 0#16 15#16 exT exT m0 m1 = (exT, 0) := by
  unfold comS; rw [tv1, byz1, cm1]; rfl
theorem com0 : comS 2 0#16 15#16 exT exT m0 m0 = ([3#16, 5#16, 6#16, 9#16, 10#16, 12#16], 0) := by
  unfold comS; rw [tv0, byz0, cm0]; rfl
theorem cla2 : clashS 2 0#16 15#16 exT exT m0 m2 = ((1, 7#16, 11#16, 3#16), 0) := by
  unfold clashS clashC; rw [tv2, byz2]; decide +kernel
theorem cla1 : clashS 1 0#16 15#16 exT exT m0 m1 = ((3, 0#16, 0#16, 1#16), 0) := by
  unfold clashS clashC; rw [tv11, byz1]; decide +kernel
theorem sou1 : soundS 2 0#16 15#16 exT exT m0 m1 = true := by
  unfold soundS clashS clashC; rw [tv1, byz1]; decide +kernel
theorem lim0 : lmtS 2 0#16 15#16 exT exT m0 = ([1#16, 2#16, 4#16, 8#16], 0) := by
  have hc : cvS 2 15#16 exT exT m0 = 0 := by decide +kernel
  unfold lmtS
  rw [hc]
  have hf : (subsetsL 15#16).filter (harmS 2 0#16 exT exT) = [0#16, 1#16, 2#16, 4#16, 8#16] := by decide +kernel
  rw [hf, if_neg (by simp)]
  unfold maximalS
  rw [great_same]
  decide +kernel
end Go.Proofs.YtkoohobpbopnnaaGreatDoor
/- The reference's Same of lists of sets. -/
namespace Go.Proofs.YtkoohobpbopnnaaGreatDoor
open Go.RowKit Go.Lib Go.Shelf

theorem eqFrom_cons8 (x y : S) (xs ys : List S) : eqFrom (x :: xs) (y :: ys) = ((x == y) && eqFrom xs ys) := by
  rw [eqFrom]; cases h : x == y <;> simp [bne, h]
set_option maxHeartbeats 800000 in
theorem rSame08_any (a : Option Addr) (n c : Nat) (l : List S) (a2 : Option Addr) (n2 c2 : Nat) (l2 : List S) (w : World) (h : Rd w a n c 1 (sl l)) (h2 : Rd w a2 n2 c2 1 (sl l2)) :
    Calls Tryz.prog 48 #[.slice a n c, .slice a2 n2 c2] w fun e w' => e = .returned (.bool (eqS l l2)) ∧ Keeps w w' := by
  have L := Lib.hid h.lenS
  have L2 := Lib.hid h2.lenS
  have s1 := h.small
  by_cases hn : n = n2
  · subst hn
    have he : Hid (eqS l l2 = eqFrom l l2) := by show _ = _; unfold eqS; rw [if_neg (by have := L.out; have := L2.out; simp; omega)]
    go_enter Tryz.func48, Tryz.ntmps48
    go_wp2
    go_loopw [5] (fun v wr => ∃ (k : Nat), k ≤ n ∧ v = .int .i64 k ∧ Keeps w wr ∧ Hid (eqS l l2 = eqFrom (l.drop k) (l2.drop k))) (fun v _ => n - (intOf v).toNat)
    case atStart => exact ⟨0, Nat.zero_le _, rfl, Keeps.refl _, he⟩
    case round =>
      obtain ⟨k, hk, rfl, K1, HI⟩ := hrel
      by_cases hlt : k < n
      · have hc := (h.keep K1).at hlt
        have hc2 := (h2.keep K1).at hlt
        have hs := h.isSome (by omega)
        have hs2 := h2.isSome (by omega)
        have hst := HI.out
        rw [dropH L hlt, dropH L2 hlt, eqFrom_cons8] at hst
        cases hxy : (at_ l k == at_ l2 k) with
        | true =>
          have HJ : Hid (eqS l l2 = eqFrom (l.drop (k + 1)) (l2.drop (k + 1))) := by show _ = _; rw [hst, hxy]; rfl
          have hxy' : (at_ l k != at_ l2 k) = false := by simp [bne, hxy]
          clear hst HI hxy
          go_wp2_with (go_quiet (fail))
          go_roundw
          case rel => exact ⟨k + 1, by omega, rfl, by first | exact K1 | exact K1.drew | exact K1.drewN _, HJ⟩
          case measure => simp [intOf]; omega
        | false =>
          have HJ : Hid (eqS l l2 = false) := by show _ = _; rw [hst, hxy]; rfl
          have hxy' : (at_ l k != at_ l2 k) = true := by simp [bne, hxy]
          clear hst HI hxy
          go_wp2_with (go_quiet (fail))
          go_ret
          rw [HJ.out]
          exact ⟨rfl, by first | exact K1 | exact K1.drew | exact K1.drewN _⟩
      · have HJ : Hid (eqS l l2 = true) := by
          show _ = _
          rw [HI.out, dropN L hlt]; simp [eqFrom]
        clear HI
        go_wp2
        go_ret
        rw [HJ.out]
        exact ⟨rfl, K1⟩
  · have he : eqS l l2 = false := by unfold eqS; rw [if_pos (by have := L.out; have := L2.out; simp; omega)]
    rw [he]
    have hb : ((n : Int) != (n2 : Int)) = true := by rw [bne_iff_ne]; omega
    clear he
    go_enter Tryz.func48, Tryz.ntmps48
    go_wp2
    go_ret
    exact ⟨rfl, Keeps.refl _⟩

theorem rSame28_any (a : Option Addr) (n c : Nat) (l : List S) (a2 : Option Addr) (n2 c2 : Nat) (l2 : List S) (w : World) (h : Rd w a n c 1 (sl l)) (h2 : Rd w a2 n2 c2 1 (sl l2)) :
    Calls Tryz.prog 18 #[.slice a n c, .slice a2 n2 c2] w fun e w' => e = .returned (.bool (eqS l l2)) ∧ Keeps w w' := by
  have h1 := Lib.hid (rSame08_any a n c l a2 n2 c2 l2 w h h2)
  go_enter Tryz.func18, Tryz.ntmps18
  go_wp2_with fail
  refine h1.out.mono ?_
  rintro e w' ⟨rfl, K⟩
  go_wp2_with fail
  go_ret
  exact ⟨rfl, K⟩
end Go.Proofs.YtkoohobpbopnnaaGreatDoor
/- The examples of the layer trust: awake answers true. -/
namespace Go.Proofs.YtkoohobpbopnnaaGreatDoor
open Go.RowKit Go.Lib Go.Shelf

theorem c4of {w : World} {B : Nat} {T : TypeId} {v0 v1 v2 v3 : Value} (h : Blk w B T #[v0, v1, v2, v3]) :
    (w.cell? ⟨B, 0, none⟩ = some v0 ∧ w.cell? ⟨B, 1, none⟩ = some v1 ∧ w.cell? ⟨B, 2, none⟩ = some v2 ∧ w.cell? ⟨B, 3, none⟩ = some v3) :=
  ⟨h.cell 0 rfl, h.cell 1 rfl, h.cell 2 rfl, h.cell 3 rfl⟩
theorem thr1 (w : World) : Calls Tryz.prog 37 #[.int .i64 4, .int .i64 1, .int .i64 0] w fun e w' => RetM w m1 0 e w' :=
  thr_any 4 1 (by omega) (by omega) [1#16, 2#16, 4#16, 8#16] (by rw [show fullS 4 = 15#16 by decide]; exact choose15_1) (by decide) w
theorem thr2 (w : World) : Calls Tryz.prog 37 #[.int .i64 4, .int .i64 2, .int .i64 0] w fun e w' => RetM w m2 0 e w' :=
  thr_any 4 2 (by omega) (by omega) [3#16, 5#16, 6#16, 9#16, 10#16, 12#16] (by rw [show fullS 4 = 15#16 by decide]; exact choose15_2) (by decide) w
theorem cl_lit2 : vcl (1, 7#16, 11#16, 3#16) = .agg #[.int .i64 1, .int .u16 7, .int .u16 11, .int .u16 3] := rfl
theorem cl_lit1 : vcl (3, 0#16, 0#16, 1#16) = .agg #[.int .i64 3, .int .u16 0, .int .u16 0, .int .u16 1] := rfl
set_option maxRecDepth 20000 in
set_option maxHeartbeats 3000000 in
theorem awake28_any (w : World) (hT : Tab w) : Calls Tryz.prog 12 #[] w fun e w' => e = .returned (.bool true) ∧ Keeps w w' := by
  have KK := Keeps.refl w
  have e1 := fun ar cr aw cw af cf a n c (W : World) (t : Tab W) (h : RdC W ar cr exT aw cw exT af cf m0) (hm : Rd W a n c 2 (fl m1)) (hn : n ≤ 1000000) => commits_any (nm := ⟨#[99]⟩) 2 0#16 15#16 a n c m1 W t h hm hn
  rw [com1] at e1
  have e2 := fun ar cr aw cw af cf a n c (W : World) (t : Tab W) (h : RdC W ar cr exT aw cw exT af cf m0) (hm : Rd W a n c 2 (fl m0)) (hn : n ≤ 1000000) => commits_any (nm := ⟨#[99]⟩) 2 0#16 15#16 a n c m0 W t h hm hn
  rw [com0] at e2
  have e3 := fun ar cr aw cw af cf a n c (W : World) (h : RdC W ar cr exT aw cw exT af cf m0) (hm : Rd W a n c 2 (fl m2)) (hn : n ≤ 1000000) => clash_any (nm := ⟨#[99]⟩) 2 0#16 15#16 a n c m2 W h hm hn
  rw [cla2] at e3
  have e4 := fun ar cr aw cw af cf (W : World) (t : Tab W) (h : RdC W ar cr exT aw cw exT af cf m0) => limits_any (nm := ⟨#[99]⟩) 2 0#16 15#16 W t h
  rw [lim0] at e4
  have e5 := fun ar cr aw cw af cf a n c (W : World) (h : RdC W ar cr exT aw cw exT af cf m0) (hm : Rd W a n c 2 (fl m1)) (hn : n ≤ 1000000) => clash_any (nm := ⟨#[99]⟩) 1 0#16 15#16 a n c m1 W h hm hn
  rw [cla1] at e5
  have e6 := fun ar cr aw cw af cf a n c (W : World) (h : RdC W ar cr exT aw cw exT af cf m0) (hm : Rd W a n c 2 (fl m1)) (hn : n ≤ 1000000) => sound_any (nm := ⟨#[99]⟩) 2 0#16 15#16 a n c m1 W h hm hn
  rw [sou1] at e6
  unfold RetS at e1 e2 e4
  unfold RetCE at e3 e5
  simp only [cl_lit1, cl_lit2, sv_zero] at e1 e2 e3 e4 e5 e6
  have E1 := Lib.hid e1; have E2 := Lib.hid e2; have E3 := Lib.hid e3; have E4 := Lib.hid e4; have E5 := Lib.hid e5; have E6 := Lib.hid e6
  clear e1 e2 e3 e4 e5 e6
  obtain ⟨nx, hnx⟩ : ∃ n, n = exT.length := ⟨_, rfl⟩
  obtain ⟨nm, hnm⟩ : ∃ n, n = m0.length := ⟨_, rfl⟩
  go_enter Tryz.func12, Tryz.ntmps12
  go_wp2_with fail
  refine (example_any 2 _).mono ?_
  rintro e W1 ⟨ar, cr, aw, cw, af, cf, rfl, hC, K⟩
  replace hT := hT.keep K
  replace KK := KK.trans K
  clear K
  go_wp2_with fail
  have hb := BoxC.new W1 32 ⟨#[99]⟩ 2 15#16 ar exT.length cr aw exT.length cw af m0.length cf
  have K := (Keeps.refl W1).alloc (.cells #[.string ⟨#[99]⟩, .int .i64 2, .int .u16 (sv 15#16), .slice ar exT.length cr, .slice aw exT.length cw, .slice af m0.length cf] 32)
  replace hT := hT.keep K
  replace hC := hC.keep K
  replace KK := KK.trans K
  clear K
  refine (thr1 _).mono ?_
  rintro e W2 ⟨v, rfl, hO⟩
  obtain ⟨a_h1, c_h1, rfl, h1⟩ := hO.rd
  have K := hO.2
  clear hO
  replace hT := hT.keep K
  replace hC := hC.keep K
  replace hb := hb.keep K
  replace KK := KK.trans K
  clear K
  go_wp2_with fail
  refine (thr2 _).mono ?_
  rintro e W3 ⟨v, rfl, hO⟩
  obtain ⟨a_h2, c_h2, rfl, h2⟩ := hO.rd
  have K := hO.2
  clear hO
  replace hT := hT.keep K
  replace hC := hC.keep K
  replace hb := hb.keep K
  replace h1 := h1.keep K
  replace KK := KK.trans K
  clear K
  obtain ⟨c0, c1, c2, c3, c4, c5⟩ := (hb.keep ((Keeps.refl W3).alloc (.cells #[.int .u16 0, .int .u16 0] 64))).conj
  go_wp2_with fail
  clear c0 c1 c2 c3 c4 c5
  have h0 := rd_new 64 2 W3 [.int .u16 0, .int .u16 0] 1 (by decide) rfl
  have K := (Keeps.refl W3).alloc (.cells #[.int .u16 0, .int .u16 0] 64)
  replace hT := hT.keep K
  replace hC := hC.keep K
  replace hb := hb.keep K
  replace h1 := h1.keep K
  replace h2 := h2.keep K
  replace KK := KK.trans K
  clear K
  refine (E1.out _ _ _ _ _ _ _ _ _ _ hT hC.rd h1 (by decide)).mono ?_
  rintro e W4 ⟨v, rfl, hO⟩
  obtain ⟨a_l1, c_l1, rfl, l1⟩ := hO.rd
  have K := hO.2
  clear hO
  replace hT := hT.keep K
  replace hC := hC.keep K
  replace hb := hb.keep K
  replace h1 := h1.keep K
  replace h2 := h2.keep K
  replace h0 := h0.keep K
  replace KK := KK.trans K
  clear K
  obtain ⟨c0, c1, c2, c3, c4, c5⟩ := hb.conj
  go_wp2_with fail
  clear c0 c1 c2 c3 c4 c5
  refine (E2.out _ _ _ _ _ _ _ _ _ _ hT hC.rd h0 (by decide)).mono ?_
  rintro e W5 ⟨v, rfl, hO⟩
  obtain ⟨a_l2, c_l2, rfl, l2⟩ := hO.rd
  have K := hO.2
  clear hO
  replace hT := hT.keep K
  replace hC := hC.keep K
  replace hb := hb.keep K
  replace h1 := h1.keep K
  replace h2 := h2.keep K
  replace h0 := h0.keep K
  replace l1 := l1.keep K
  replace KK := KK.trans K
  clear K
  obtain ⟨c0, c1, c2, c3, c4, c5⟩ := hb.conj
  go_wp2_with fail
  clear c0 c1 c2 c3 c4 c5
  refine (E3.out _ _ _ _ _ _ _ _ _ _ hC.rd h2 (by decide)).mono ?_
  rintro e W6 ⟨rfl, K⟩
  replace hT := hT.keep K
  replace hC := hC.keep K
  replace hb := hb.keep K
  replace h1 := h1.keep K
  replace h2 := h2.keep K
  replace h0 := h0.keep K
  replace l1 := l1.keep K
  replace l2 := l2.keep K
  replace KK := KK.trans K
  clear K
  obtain ⟨c0, c1, c2, c3, c4, c5⟩ := (hb.keep ((Keeps.refl W6).alloc (.cells #[.int .i64 1, .int .u16 7, .int .u16 11, .int .u16 3] 37))).conj
  go_wp2_with fail
  clear c0 c1 c2 c3 c4 c5
  have hx : Blk (W6.alloc (.cells #[.int .i64 1, .int .u16 7, .int .u16 11, .int .u16 3] 37)) W6.heap.size 37 #[.int .i64 1, .int .u16 7, .int .u16 11, .int .u16 3] := Blk.new _ _ _
  have K := (Keeps.refl W6).alloc (.cells #[.int .i64 1, .int .u16 7, .int .u16 11, .int .u16 3] 37)
  replace hT := hT.keep K
  replace hC := hC.keep K
  replace hb := hb.keep K
  replace h1 := h1.keep K
  replace h2 := h2.keep K
  replace h0 := h0.keep K
  replace l1 := l1.keep K
  replace l2 := l2.keep K
  replace KK := KK.trans K
  clear K
  refine (E4.out _ _ _ _ _ _ _ hT hC.rd).mono ?_
  rintro e W7 ⟨v, rfl, hO⟩
  obtain ⟨a_l4, c_l4, rfl, l4⟩ := hO.rd
  have K := hO.2
  clear hO
  replace hT := hT.keep K
  replace hC := hC.keep K
  replace hb := hb.keep K
  replace h1 := h1.keep K
  replace h2 := h2.keep K
  replace h0 := h0.keep K
  replace l1 := l1.keep K
  replace l2 := l2.keep K
  replace hx := hx.keep K
  replace KK := KK.trans K
  clear K
  go_wp2_with fail
  refine (example_any 1 _).mono ?_
  rintro e W8 ⟨br, dr, bw, dw, bf, df, rfl, hD, K⟩
  replace hT := hT.keep K
  replace hC := hC.keep K
  replace hb := hb.keep K
  replace h1 := h1.keep K
  replace h2 := h2.keep K
  replace h0 := h0.keep K
  replace l1 := l1.keep K
  replace l2 := l2.keep K
  replace hx := hx.keep K
  replace l4 := l4.keep K
  replace KK := KK.trans K
  clear K
  go_wp2_with fail
  refine (E5.out _ _ _ _ _ _ _ _ _ _ hD.rd h1 (by decide)).mono ?_
  rintro e W9 ⟨rfl, K⟩
  replace hT := hT.keep K
  replace hC := hC.keep K
  replace hb := hb.keep K
  replace h1 := h1.keep K
  replace h2 := h2.keep K
  replace h0 := h0.keep K
  replace l1 := l1.keep K
  replace l2 := l2.keep K
  replace hx := hx.keep K
  replace l4 := l4.keep K
  replace hD := hD.keep K
  replace KK := KK.trans K
  clear K
  obtain ⟨c0, c1, c2, c3, c4, c5⟩ := (hb.keep ((Keeps.refl W9).alloc (.cells #[.int .i64 3, .int .u16 0, .int .u16 0, .int .u16 1] 37))).conj
  go_wp2_with fail
  clear c0 c1 c2 c3 c4 c5
  have hy : Blk (W9.alloc (.cells #[.int .i64 3, .int .u16 0, .int .u16 0, .int .u16 1] 37)) W9.heap.size 37 #[.int .i64 3, .int .u16 0, .int .u16 0, .int .u16 1] := Blk.new _ _ _
  have K := (Keeps.refl W9).alloc (.cells #[.int .i64 3, .int .u16 0, .int .u16 0, .int .u16 1] 37)
  replace hT := hT.keep K
  replace hC := hC.keep K
  replace hb := hb.keep K
  replace h1 := h1.keep K
  replace h2 := h2.keep K
  replace h0 := h0.keep K
  replace l1 := l1.keep K
  replace l2 := l2.keep K
  replace hx := hx.keep K
  replace l4 := l4.keep K
  replace hD := hD.keep K
  replace KK := KK.trans K
  clear K
  refine (rSame28_any _ _ _ exT _ _ _ exT _ l1 hC.rd.r).mono ?_
  rintro e W10 ⟨he, K⟩
  rw [eqS_iff, decide_eq_true rfl] at he
  subst he
  replace hT := hT.keep K
  replace hC := hC.keep K
  replace hb := hb.keep K
  replace h1 := h1.keep K
  replace h2 := h2.keep K
  replace h0 := h0.keep K
  replace l1 := l1.keep K
  replace l2 := l2.keep K
  replace hx := hx.keep K
  replace l4 := l4.keep K
  replace hD := hD.keep K
  replace hy := hy.keep K
  replace KK := KK.trans K
  clear K
  obtain ⟨c0, c1, c2, c3, c4, c5⟩ := hb.conj
  go_wp2_with fail
  clear c0 c1 c2 c3 c4 c5
  refine (E6.out _ _ _ _ _ _ _ _ _ _ hC.rd h1 (by decide)).mono ?_
  rintro e W11 ⟨rfl, K⟩
  replace hT := hT.keep K
  replace hC := hC.keep K
  replace hb := hb.keep K
  replace h1 := h1.keep K
  replace h2 := h2.keep K
  replace h0 := h0.keep K
  replace l1 := l1.keep K
  replace l2 := l2.keep K
  replace hx := hx.keep K
  replace l4 := l4.keep K
  replace hD := hD.keep K
  replace hy := hy.keep K
  replace KK := KK.trans K
  clear K
  obtain ⟨x0, x1, x2, x3⟩ := c4of hx
  go_wp2_with fail
  clear x0 x1 x2 x3
  have h9 := rd_new 27 1 W11 [.int .u16 1, .int .u16 2, .int .u16 4, .int .u16 8] 4 (by decide) rfl
  have K := (Keeps.refl W11).alloc (.cells #[.int .u16 1, .int .u16 2, .int .u16 4, .int .u16 8] 27)
  replace hT := hT.keep K
  replace hC := hC.keep K
  replace hb := hb.keep K
  replace h1 := h1.keep K
  replace h2 := h2.keep K
  replace h0 := h0.keep K
  replace l1 := l1.keep K
  replace l2 := l2.keep K
  replace hx := hx.keep K
  replace l4 := l4.keep K
  replace hD := hD.keep K
  replace hy := hy.keep K
  replace KK := KK.trans K
  clear K
  refine (rSame28_any _ _ _ [1#16, 2#16, 4#16, 8#16] _ _ _ [1#16, 2#16, 4#16, 8#16] _ l4 h9).mono ?_
  rintro e W12 ⟨he, K⟩
  rw [eqS_iff, decide_eq_true rfl] at he
  subst he
  replace hT := hT.keep K
  replace hC := hC.keep K
  replace hb := hb.keep K
  replace h1 := h1.keep K
  replace h2 := h2.keep K
  replace h0 := h0.keep K
  replace l1 := l1.keep K
  replace l2 := l2.keep K
  replace hx := hx.keep K
  replace l4 := l4.keep K
  replace hD := hD.keep K
  replace hy := hy.keep K
  replace h9 := h9.keep K
  replace KK := KK.trans K
  clear K
  obtain ⟨y0, y1, y2, y3⟩ := c4of hy
  go_wp2_with fail
  go_ret
  exact ⟨rfl, KK⟩
end Go.Proofs.YtkoohobpbopnnaaGreatDoor
