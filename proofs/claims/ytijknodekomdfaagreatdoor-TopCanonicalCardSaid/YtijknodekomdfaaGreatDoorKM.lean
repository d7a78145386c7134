/- Texts joined into one (wip/bin/pack.py): Blk, Of27. -/
import Derived.Test.YtijknodekomdfaaGreatDoorKA
import Derived.Test.YtijknodekomdfaaGreatDoorKL
/- A variable's block: its cells, written out; stores into it; what lay below is kept. -/
namespace Go.Proofs.YtijknodekomdfaaGreatDoor
open Go.RowKit Go.Lib

/-- the block B holds these cells of this type and may be written -/
def Blk (w : World) (B : Nat) (T : TypeId) (cs : Array Value) : Prop := w.heap[B]? = some (.cells cs T)
theorem Blk.lt {w : World} {B : Nat} {T : TypeId} {cs : Array Value} (h : Blk w B T cs) : B < w.heap.size := by
  unfold Blk at h
  rcases Nat.lt_or_ge B w.heap.size with h' | h'
  · exact h'
  · rw [Array.getElem?_eq_none h'] at h; cases h
theorem Blk.below {n : Nat} {w w' : World} {B : Nat} {T : TypeId} {cs : Array Value} (h : Blk w B T cs) (k : Below n w w') (hn : B < n) : Blk w' B T cs := by
  unfold Blk; rw [Below.block k B hn]; exact h
theorem Blk.keep {w w' : World} {B : Nat} {T : TypeId} {cs : Array Value} (h : Blk w B T cs) (k : Keeps w w') : Blk w' B T cs := h.below k h.lt
theorem Blk.new (w : World) (T : TypeId) (cs : Array Value) : Blk (w.alloc (.cells cs T)) w.heap.size T cs := by
  show (w.heap.push _)[w.heap.size]? = _; simp
theorem Blk.of {w w' : World} {T : TypeId} {cs : Array Value} (k : Keeps (w.alloc (.cells cs T)) w') : Blk w' w.heap.size T cs := (Blk.new w T cs).keep k
theorem Blk.ofd {w w' : World} {T : TypeId} {cs : Array Value} (k : Keeps (w.alloc (.cells cs T)).drew w') : Blk w' w.heap.size T cs := ((Blk.new w T cs).keep ((Keeps.refl _).drew)).keep k
theorem Blk.set {w : World} {B : Nat} {T : TypeId} {cs : Array Value} (h : Blk w B T cs) (i : Nat) (u : Value) : Blk (w.setCell ⟨B, i, none⟩ u) B T (cs.setIfInBounds i u) := by
  unfold Blk at *; simp [World.setCell, Array.getElem?_modify, h]
theorem Blk.setOther {w : World} {B : Nat} {T : TypeId} {cs : Array Value} (h : Blk w B T cs) {C : Nat} (hC : B ≠ C) (i : Nat) (u : Value) : Blk (w.setCell ⟨C, i, none⟩ u) B T cs := by
  unfold Blk at *; rw [Below.heap_setCell _ _ _ _ (by simpa using hC)]; exact h
theorem Blk.cell {w : World} {B : Nat} {T : TypeId} {cs : Array Value} (h : Blk w B T cs) (i : Nat) {v : Value} (hv : cs[i]? = some v) : w.cell? ⟨B, i, none⟩ = some v := by
  unfold Blk at h; simp [World.cell?, h, hv]
theorem Blk.frozen {w : World} {B : Nat} {T : TypeId} {cs : Array Value} (h : Blk w B T cs) (i : Nat) : w.frozen? ⟨B, i, none⟩ = false := by
  unfold Blk at h; simp [World.frozen?, h]
theorem Blk.c6 {w : World} {B : Nat} {T : TypeId} {v0 v1 v2 v3 v4 v5 : Value} (h : Blk w B T #[v0, v1, v2, v3, v4, v5]) :
    (w.cell? ⟨B, 0, none⟩ = some v0 ∧ w.cell? ⟨B, 1, none⟩ = some v1 ∧ w.cell? ⟨B, 2, none⟩ = some v2 ∧ w.cell? ⟨B, 3, none⟩ = some v3 ∧ w.cell? ⟨B, 4, none⟩ = some v4 ∧ w.cell? ⟨B, 5, none⟩ = some v5) :=
  ⟨h.cell 0 rfl, h.cell 1 rfl, h.cell 2 rfl, h.cell 3 rfl, h.cell 4 rfl, h.cell 5 rfl⟩
theorem Blk.f6 {w : World} {B : Nat} {T : TypeId} {cs : Array Value} (h : Blk w B T cs) :
    (w.frozen? ⟨B, 0, none⟩ = false ∧ w.frozen? ⟨B, 1, none⟩ = false ∧ w.frozen? ⟨B, 2, none⟩ = false ∧ w.frozen? ⟨B, 3, none⟩ = false ∧ w.frozen? ⟨B, 4, none⟩ = false ∧ w.frozen? ⟨B, 5, none⟩ = false) :=
  ⟨h.frozen 0, h.frozen 1, h.frozen 2, h.frozen 3, h.frozen 4, h.frozen 5⟩
/-- a struct of six fields stored over a variable -/
theorem Blk.set6 {w : World} {B : Nat} {T : TypeId} {a0 a1 a2 a3 a4 a5 : Value} (h : Blk w B T #[a0, a1, a2, a3, a4, a5]) (v0 v1 v2 v3 v4 v5 : Value) :
    Blk ((((((w.setCell ⟨B, 0, none⟩ v0).setCell ⟨B, 1, none⟩ v1).setCell ⟨B, 2, none⟩ v2).setCell ⟨B, 3, none⟩ v3).setCell ⟨B, 4, none⟩ v4).setCell ⟨B, 5, none⟩ v5) B T #[v0, v1, v2, v3, v4, v5] :=
  (((((h.set 0 v0).set 1 v1).set 2 v2).set 3 v3).set 4 v4).set 5 v5
theorem keeps_set {w W : World} (k : Keeps w W) {B : Nat} (hB : w.heap.size ≤ B) (i : Nat) (u : Value) : Keeps w (W.setCell ⟨B, i, none⟩ u) := Below.setCell k hB u
theorem keeps_set6 {w W : World} (k : Keeps w W) {B : Nat} (hB : w.heap.size ≤ B) (v0 v1 v2 v3 v4 v5 : Value) :
    Keeps w ((((((W.setCell ⟨B, 0, none⟩ v0).setCell ⟨B, 1, none⟩ v1).setCell ⟨B, 2, none⟩ v2).setCell ⟨B, 3, none⟩ v3).setCell ⟨B, 4, none⟩ v4).setCell ⟨B, 5, none⟩ v5) :=
  keeps_set (keeps_set (keeps_set (keeps_set (keeps_set (keeps_set k hB 0 v0) hB 1 v1) hB 2 v2) hB 3 v3) hB 4 v4) hB 5 v5
/-- a row of another type is not the variable's block -/
def Row0 (e : TypeId) (sz : Nat) (w : World) (v : Value) (n : Nat) (xs : List Value) : Prop := w.ownsRow 0 e sz v n xs
theorem Own.row0 {e : TypeId} {sz : Nat} {w0 w : World} {v : Value} {n : Nat} {xs : List Value} (h : Own e sz w0 w v n xs) : Row0 e sz w v n xs := by
  obtain ⟨⟨h1, h2⟩, _⟩ := h
  refine ⟨h1, ?_⟩
  rcases h2 with ⟨a, b⟩ | ⟨g, cap, cur, hv, hg, r⟩
  · exact Or.inl ⟨a, b⟩
  · exact Or.inr ⟨g, cap, cur, hv, Nat.zero_le _, r⟩
theorem Row0.keep {e : TypeId} {sz : Nat} {w w' : World} {v : Value} {n : Nat} {xs : List Value} (h : Row0 e sz w v n xs) (k : Keeps w w') : Row0 e sz w' v n xs := k.own h
theorem Row0.rd {e : TypeId} {sz : Nat} {w : World} {a : Option Addr} {n m c : Nat} {xs : List Value} (h : Row0 e sz w (.slice a m c) n xs) : Rd w a n c sz xs := by
  obtain ⟨a', c', hv, hr⟩ := own_rd h
  cases hv; exact hr
theorem Row0.set {e : TypeId} {sz : Nat} {w : World} {v : Value} {n : Nat} {xs : List Value} (h : Row0 e sz w v n xs) {B : Nat} {T : TypeId} {cs : Array Value} (hB : Blk w B T cs) (hT : T ≠ e) (i : Nat) (u : Value) : Row0 e sz (w.setCell ⟨B, i, none⟩ u) v n xs := by
  obtain ⟨h1, h2⟩ := h
  refine ⟨h1, ?_⟩
  rcases h2 with ⟨a, b⟩ | ⟨g, cap, cur, hv, hg, hh, r⟩
  · exact Or.inl ⟨a, b⟩
  · refine Or.inr ⟨g, cap, cur, hv, hg, ?_, r⟩
    have hne : g ≠ B := by
      rintro rfl
      unfold Blk at hB
      rw [hB] at hh
      injection hh with hh
      injection hh with _ hh2
      exact hT hh2
    rw [Below.heap_setCell _ _ _ _ (by simpa using hne)]; exact hh
theorem Row0.set6 {e : TypeId} {sz : Nat} {w : World} {v : Value} {n : Nat} {xs : List Value} (h : Row0 e sz w v n xs) {B : Nat} {T : TypeId} {cs : Array Value} (hB : Blk w B T cs) (hT : T ≠ e) (v0 v1 v2 v3 v4 v5 : Value) :
    Row0 e sz ((((((w.setCell ⟨B, 0, none⟩ v0).setCell ⟨B, 1, none⟩ v1).setCell ⟨B, 2, none⟩ v2).setCell ⟨B, 3, none⟩ v3).setCell ⟨B, 4, none⟩ v4).setCell ⟨B, 5, none⟩ v5) v n xs :=
  (((((h.set hB hT 0 v0).set (hB.set 0 v0) hT 1 v1).set ((hB.set 0 v0).set 1 v1) hT 2 v2).set (((hB.set 0 v0).set 1 v1).set 2 v2) hT 3 v3).set ((((hB.set 0 v0).set 1 v1).set 2 v2).set 3 v3) hT 4 v4).set (((((hB.set 0 v0).set 1 v1).set 2 v2).set 3 v3).set 4 v4) hT 5 v5
end Go.Proofs.YtijknodekomdfaaGreatDoor
/- The reference's configuration of a draft. -/
namespace Go.Proofs.YtijknodekomdfaaGreatDoor
open Go.RowKit Go.Lib Go.Shelf

def nOf (N : Int) : Nat := 1 + (N % 5).toNat
def kdOf (kd : Int) : Int := 1 + kd % 2
/-- the rows of a configuration, as rows of their own type -/
structure RowC (w : World) (ar : Option Addr) (cr : Nat) (R : List S) (aw : Option Addr) (cw : Nat) (Q : List S) (af : Option Addr) (cf : Nat) (F : List F2) : Prop where
  r : Row0 31 1 w (.slice ar R.length cr) R.length (sl R)
  q : Row0 31 1 w (.slice aw Q.length cw) Q.length (sl Q)
  f : Row0 34 2 w (.slice af F.length cf) F.length (fl F)
theorem RowC.rd {w : World} {ar : Option Addr} {cr : Nat} {R : List S} {aw : Option Addr} {cw : Nat} {Q : List S} {af : Option Addr} {cf : Nat} {F : List F2} (h : RowC w ar cr R aw cw Q af cf F) : RdC w ar cr R aw cw Q af cf F := ⟨h.r.rd, h.q.rd, h.f.rd⟩
theorem RowC.keep {w w' : World} {ar : Option Addr} {cr : Nat} {R : List S} {aw : Option Addr} {cw : Nat} {Q : List S} {af : Option Addr} {cf : Nat} {F : List F2} (h : RowC w ar cr R aw cw Q af cf F) (k : Keeps w w') : RowC w' ar cr R aw cw Q af cf F := ⟨h.r.keep k, h.q.keep k, h.f.keep k⟩
theorem RowC.set6 {w : World} {ar : Option Addr} {cr : Nat} {R : List S} {aw : Option Addr} {cw : Nat} {Q : List S} {af : Option Addr} {cf : Nat} {F : List F2} (h : RowC w ar cr R aw cw Q af cf F) {B : Nat} {T : TypeId} {cs : Array Value} (hB : Blk w B T cs) (h1 : T ≠ 31) (h2 : T ≠ 34) (v0 v1 v2 v3 v4 v5 : Value) :
    RowC ((((((w.setCell ⟨B, 0, none⟩ v0).setCell ⟨B, 1, none⟩ v1).setCell ⟨B, 2, none⟩ v2).setCell ⟨B, 3, none⟩ v3).setCell ⟨B, 4, none⟩ v4).setCell ⟨B, 5, none⟩ v5) ar cr R aw cw Q af cf F := ⟨h.r.set6 hB h1 _ _ _ _ _ _, h.q.set6 hB h1 _ _ _ _ _ _, h.f.set6 hB h2 _ _ _ _ _ _⟩
/-- a configuration came back: how it reads -/
def RetCfg (w : World) (kd : Int) (M : S) (R Q : List S) (F : List F2) (e : Ending) (w' : World) : Prop :=
  ∃ ar cr aw cw af cf, e = .returned (.agg #[.string ⟨#[99]⟩, .int .i64 kd, .int .u16 (sv M), .slice ar R.length cr, .slice aw Q.length cw, .slice af F.length cf]) ∧ RowC w' ar cr R aw cw Q af cf F ∧ Keeps w w'
/-- the cells of a boxed draft -/
structure BoxD (w : World) (B : Nat) (kd N md : Int) (ar : Option Addr) (nr cr : Nat) (aw : Option Addr) (nw cw : Nat) (af : Option Addr) (nf cf : Nat) : Prop where
  c0 : w.cell? ⟨B, 0, none⟩ = some (.int .u8 kd)
  c1 : w.cell? ⟨B, 1, none⟩ = some (.int .u8 N)
  c2 : w.cell? ⟨B, 2, none⟩ = some (.int .u8 md)
  c3 : w.cell? ⟨B, 3, none⟩ = some (.slice ar nr cr)
  c4 : w.cell? ⟨B, 4, none⟩ = some (.slice aw nw cw)
  c5 : w.cell? ⟨B, 5, none⟩ = some (.slice af nf cf)
theorem BoxD.keep {w w' : World} {B : Nat} {kd N md : Int} {ar : Option Addr} {nr cr : Nat} {aw : Option Addr} {nw cw : Nat} {af : Option Addr} {nf cf : Nat} (h : BoxD w B kd N md ar nr cr aw nw cw af nf cf) (k : Keeps w w') : BoxD w' B kd N md ar nr cr aw nw cw af nf cf :=
  ⟨k.cell h.c0, k.cell h.c1, k.cell h.c2, k.cell h.c3, k.cell h.c4, k.cell h.c5⟩
theorem BoxD.new (w : World) (T : TypeId) (kd N md : Int) (ar : Option Addr) (nr cr : Nat) (aw : Option Addr) (nw cw : Nat) (af : Option Addr) (nf cf : Nat) :
    BoxD (w.alloc (.cells #[.int .u8 kd, .int .u8 N, .int .u8 md, .slice ar nr cr, .slice aw nw cw, .slice af nf cf] T)) w.heap.size kd N md ar nr cr aw nw cw af nf cf := by
  constructor <;> (rw [World.cell?_alloc_at _ _ _ _ rfl]; rfl)
theorem BoxD.conj {w : World} {B : Nat} {kd N md : Int} {ar : Option Addr} {nr cr : Nat} {aw : Option Addr} {nw cw : Nat} {af : Option Addr} {nf cf : Nat} (h : BoxD w B kd N md ar nr cr aw nw cw af nf cf) :
    w.cell? ⟨B, 0, none⟩ = some (.int .u8 kd) ∧ w.cell? ⟨B, 1, none⟩ = some (.int .u8 N) ∧ w.cell? ⟨B, 2, none⟩ = some (.int .u8 md) ∧ w.cell? ⟨B, 3, none⟩ = some (.slice ar nr cr) ∧ w.cell? ⟨B, 4, none⟩ = some (.slice aw nw cw) ∧ w.cell? ⟨B, 5, none⟩ = some (.slice af nf cf) :=
  ⟨h.c0, h.c1, h.c2, h.c3, h.c4, h.c5⟩
theorem wrapi_in (z : Int) (h0 : 0 ≤ z) (h1 : z ≤ 100000) : IntKind.i64.wrap z = z := by
  rw [IntKind.wrap_i64]; omega
theorem pack {W : World} {Q : World → Prop} (hQ : Q W) : ∃ W', W = W' ∧ Q W' := ⟨W, rfl, hQ⟩
/-- the world after the configuration's variable was made -/
structure Aft (W2 : World) (B : Nat) (u0 u1 u2 : Value) (a1 : Option Addr) (n1 c1 : Nat) (L1 : List Value) (a2 : Option Addr) (n2 c2 : Nat) (L2 : List Value) (W : World) : Prop where
  blk : Blk W B 36 #[u0, u1, u2, .slice a1 n1 c1, .slice a2 n2 c2, .slice none 0 0]
  r1 : Row0 31 1 W (.slice a1 n1 c1) n1 L1
  r2 : Row0 31 1 W (.slice a2 n2 c2) n2 L2
  k : Keeps W2 W
  hB : W2.heap.size ≤ B
theorem Aft.ofSet {W2 W : World} {B : Nat} {a0 b1 b2 b3 b4 b5 : Value} (hN : Blk W B 36 #[a0, b1, b2, b3, b4, b5]) {a1 : Option Addr} {n1 c1 : Nat} {L1 : List Value} {a2 : Option Addr} {n2 c2 : Nat} {L2 : List Value}
    (r1 : Row0 31 1 W (.slice a1 n1 c1) n1 L1) (r2 : Row0 31 1 W (.slice a2 n2 c2) n2 L2) (k : Keeps W2 W) (hB : W2.heap.size ≤ B) (u0 u1 u2 : Value) :
    Aft W2 B u0 u1 u2 a1 n1 c1 L1 a2 n2 c2 L2 ((((((W.setCell ⟨B, 0, none⟩ u0).setCell ⟨B, 1, none⟩ u1).setCell ⟨B, 2, none⟩ u2).setCell ⟨B, 3, none⟩ (.slice a1 n1 c1)).setCell ⟨B, 4, none⟩ (.slice a2 n2 c2)).setCell ⟨B, 5, none⟩ (.slice none 0 0)) :=
  ⟨hN.set6 _ _ _ _ _ _, r1.set6 hN (by decide) _ _ _ _ _ _, r2.set6 hN (by decide) _ _ _ _ _ _, keeps_set6 k hB _ _ _ _ _ _, hB⟩
theorem Aft.ofNew {W2 W : World} {a1 : Option Addr} {n1 c1 : Nat} {L1 : List Value} {a2 : Option Addr} {n2 c2 : Nat} {L2 : List Value}
    (r1 : Row0 31 1 W (.slice a1 n1 c1) n1 L1) (r2 : Row0 31 1 W (.slice a2 n2 c2) n2 L2) (k : Keeps W2 W) (u0 u1 u2 : Value) :
    Aft W2 W.heap.size u0 u1 u2 a1 n1 c1 L1 a2 n2 c2 L2 (W.alloc (.cells #[u0, u1, u2, .slice a1 n1 c1, .slice a2 n2 c2, .slice none 0 0] 36)) :=
  ⟨Blk.new _ _ _, r1.keep ((Keeps.refl _).alloc _), r2.keep ((Keeps.refl _).alloc _), k.alloc _, k.size⟩
set_option maxRecDepth 20000 in
set_option maxHeartbeats 3000000 in
theorem of27_any (kd N md : Int) {ar : Option Addr} {cr : Nat} (lr : List S) {aw : Option Addr} {cw : Nat} (lw : List S) {af : Option Addr} {cf : Nat} (lf : List F2) (w : World) (hr : Rd w ar lr.length cr 1 (sl lr)) (hq : Rd w aw lw.length cw 1 (sl lw)) (hf : Rd w af lf.length cf 2 (fl lf))
    (hk0 : 0 ≤ kd) (_hk1 : kd ≤ 255) (hN0 : 0 ≤ N) (hN1 : N ≤ 255) (hm0 : 0 ≤ md) (hm1 : md ≤ 255) :
    Calls Tryz.prog 19 #[.agg #[.int .u8 kd, .int .u8 N, .int .u8 md, .slice ar lr.length cr, .slice aw lw.length cw, .slice af lf.length cf], .string ⟨#[99]⟩] w fun e w' => RetCfg w (kdOf kd) (fullS (nOf N)) (setsR md lr (nOf N)) (setsR md lw (nOf N)) (madeF (nOf N) lf) e w' := by
  have K0 := (Keeps.refl w).alloc (.cells #[.int .u8 kd, .int .u8 N, .int .u8 md, .slice ar lr.length cr, .slice aw lw.length cw, .slice af lf.length cf] 48)
  have hb := BoxD.new w 48 kd N md ar lr.length cr aw lw.length cw af lf.length cf
  obtain ⟨W1, hW1⟩ : ∃ W0, W0 = w.alloc (.cells #[.int .u8 kd, .int .u8 N, .int .u8 md, .slice ar lr.length cr, .slice aw lw.length cw, .slice af lf.length cf] 48) := ⟨_, rfl⟩
  have hsz : W1.heap.size = w.heap.size + 1 := by rw [hW1, World.size_alloc]
  rw [← hW1] at hb K0
  have k2 := (Keeps.refl W1).alloc (.cells #[.string ⟨#[]⟩, .int .i64 0, .int .u16 0, .slice none 0 0, .slice none 0 0, .slice none 0 0] 36)
  obtain ⟨W2, hW2⟩ : ∃ W2, W2 = W1.alloc (.cells #[.string ⟨#[]⟩, .int .i64 0, .int .u16 0, .slice none 0 0, .slice none 0 0, .slice none 0 0] 36) := ⟨_, rfl⟩
  rw [← hW2] at k2
  replace hb := hb.keep k2
  replace K0 := K0.trans k2
  have hres : Blk W2 (w.heap.size + 1) 36 #[.string ⟨#[]⟩, .int .i64 0, .int .u16 0, .slice none 0 0, .slice none 0 0, .slice none 0 0] := by
    rw [hW2, ← hsz]; exact Blk.new _ _ _
  have HRES := Lib.hid hres
  have hw2 := hres.lt
  clear hres
  have hn1 : N % 5 = ((N % 5).toNat : Int) := by omega
  have hn2 : (N % 5).toNat < 5 := by omega
  obtain ⟨z, hz⟩ : ∃ z : Nat, kd % 2 = (z : Int) := ⟨(kd % 2).toNat, by omega⟩
  have hzt : kd.tmod 2 = (z : Int) := by rw [Int.tmod_eq_emod_of_nonneg hk0, hz]
  have hz2 : z < 2 := by omega
  have hno : nOf N = 1 + (N % 5).toNat := rfl
  rw [hno]
  generalize (N % 5).toNat = q at *
  have h1 := fun (a : Option Addr) (c : Nat) (l : List S) (W : World) (h : Rd W a l.length c 1 (sl l)) => sets_any kd N md (.slice ar lr.length cr) (.slice aw lw.length cw) (.slice af lf.length cf) a c l (1 + q) W h (by omega) (by omega) hm0 hm1
  have h3 := fun W (k : Keeps w W) => made19_any (1 + q) af cf lf W (hf.keep k) (by omega) (by omega)
  rw [show ((1 + q : Nat) : Int) = 1 + (q : Int) by omega] at h1 h3
  obtain ⟨g, hg⟩ : ∃ g : List S → List S, g = fun l => setsR md l (1 + q) := ⟨_, rfl⟩
  replace h1 : ∀ (a : Option Addr) (c : Nat) (l : List S) (W : World), Rd W a l.length c 1 (sl l) → Calls Tryz.prog 63 #[.agg #[.int .u8 kd, .int .u8 N, .int .u8 md, .slice ar lr.length cr, .slice aw lw.length cw, .slice af lf.length cf], .slice a l.length c, .int .i64 (1 + (q : Int))] W fun e w' => ∃ v, e = .returned v ∧ Own 31 1 W w' v (g l).length (sl (g l)) := by
    subst hg; exact h1
  rw [show setsR md lr (1 + q) = g lr by rw [hg], show setsR md lw (1 + q) = g lw by rw [hg]]
  clear hg
  generalize madeF (1 + q) lf = F at *
  have H1 := Lib.hid h1; have H3 := Lib.hid h3; have HB := Lib.hid hb
  replace hr := hr.keep K0; replace hq := hq.keep K0
  have HR := Lib.hid (fun (W : World) (K : Keeps W2 W) => hr.keep K)
  have HQ := Lib.hid (fun (W : World) (K : Keeps W2 W) => hq.keep K)
  clear h1 h3 hno hr hq hf hb
  go_enter Tryz.func19, Tryz.ntmps19
  have hcc := HB.out.conj
  obtain ⟨c0, c1, c2, c3, c4, c5⟩ := hcc
  go_wp2_with fail
  rw [← hW1, ← hW2]
  have J0 := Keeps.refl W2
  clear c0 c1 c2 c3 c4 c5 hsz k2 hW1 hW2
  go_region_held3 (fun w' => w'.cell? ⟨w.heap.size, 0, none⟩ = some (.int .u8 kd) ∧ w'.cell? ⟨w.heap.size, 1, none⟩ = some (.int .u8 N) ∧ w'.cell? ⟨w.heap.size, 2, none⟩ = some (.int .u8 md) ∧ w'.cell? ⟨w.heap.size, 3, none⟩ = some (.slice ar lr.length cr) ∧ w'.cell? ⟨w.heap.size, 4, none⟩ = some (.slice aw lw.length cw) ∧ w'.cell? ⟨w.heap.size, 5, none⟩ = some (.slice af lf.length cf)) (first | with_reducible exact (HB.out.keep (J0.drew)).conj | with_reducible exact (HB.out.keep (J0.alloc _).drew).conj | with_reducible exact (HB.out.keep (k9.alloc _)).conj | with_reducible exact hF | with_reducible exact (HB.out.keep (keeps_set6 k9 hNB _ _ _ _ _ _)).conj | go_keep) ((go_at_call 63; refine (H1.out _ _ _ _ (by first | with_reducible exact HR.out _ J0.drew | with_reducible exact HQ.out _ J0.drew | with_reducible exact HR.out _ ((J0.alloc _).drew) | with_reducible exact HQ.out _ ((J0.alloc _).drew) | with_reducible exact HR.out _ k9 | with_reducible exact HQ.out _ k9 | with_reducible exact HR.out _ (k9.alloc _) | with_reducible exact HQ.out _ (k9.alloc _))).mono ?_; rintro e W9 ⟨v9, rfl, hO⟩; obtain ⟨a9, c9, rfl, hR⟩ := hO.rd; (try (replace hr1 := hr1.keep (Keeps.trans (by first | with_reducible exact Keeps.refl _ | with_reducible exact (Keeps.refl _).alloc _ | with_reducible exact ((Keeps.refl _).alloc _).drew) hO.2))); (try (replace hq1 := hq1.keep (Keeps.trans (by first | with_reducible exact Keeps.refl _ | with_reducible exact (Keeps.refl _).alloc _ | with_reducible exact ((Keeps.refl _).alloc _).drew) hO.2))); (first | have hr1 : Row0 31 1 W9 (.slice a9 (g lr).length c9) (g lr).length (sl (g lr)) := hO.row0 | have hq1 : Row0 31 1 W9 (.slice a9 (g lw).length c9) (g lw).length (sl (g lw)) := hO.row0); replace k9 : Keeps W2 W9 := Keeps.trans (by first | with_reducible exact J0.drew | with_reducible exact (J0.alloc _).drew | with_reducible exact k9 | with_reducible exact k9.alloc _) hO.2; have hF := (HB.out.keep k9).conj; (first | ((first | have hN := Blk.ofd hO.2 | have hN := Blk.of hO.2); have hNB := Keeps.size (by first | with_reducible exact k8 | with_reducible exact J0)) | (replace hN := Blk.keep hN hO.2) | skip); (try (obtain ⟨n0, n1, n2, n3, n4, n5⟩ := hN.c6; obtain ⟨g0, g1, g2, g3, g4, g5⟩ := hN.f6)); have k8 := k9; dsimp only))
  all_goals
    clear hF
    first
    | obtain ⟨Wf, hWf, hA⟩ := pack (Aft.ofSet hN hr1 hq1 k9 hNB (.string ⟨#[99]⟩) (.int .i64 (IntKind.i64.wrap (1 + IntKind.i64.wrap (z : Int)))) (.int .u16 (sv (1#16 <<< (1 + (q : Int)).toNat - 1#16))))
      rw [hWf]
      clear hWf hN hNB n0 n1 n2 n3 n4 n5 g0 g1 g2 g3 g4 g5
    | obtain ⟨Wf, hWf, hA⟩ := pack (Aft.ofNew hr1 hq1 k9 (.string ⟨#[99]⟩) (.int .i64 (IntKind.i64.wrap (1 + IntKind.i64.wrap (z : Int)))) (.int .u16 (sv (1#16 <<< (1 + (q : Int)).toNat - 1#16))))
      rw [hWf]
      clear hWf
  all_goals
    clear hO hR hr1 hq1 k9 k8
    have hu1 : IntKind.i64.wrap (1 + IntKind.i64.wrap (z : Int)) = 1 + (z : Int) := by rw [wrapi_in (z : Int) (by omega) (by omega), wrapi_in (1 + (z : Int)) (by omega) (by omega)]
    have hu2 : sv (1#16 <<< (1 + (q : Int)).toNat - 1#16) = sv (fullS (1 + q)) := by
      rw [show (1 + (q : Int)).toNat = 1 + q by omega]; rfl
    rw [hu1, hu2] at hA
    have hne : _ ≠ w.heap.size + 1 := Nat.ne_of_gt (Nat.lt_of_lt_of_le hw2 hA.hB)
    have HA := Lib.hid hA
    have kA := K0.trans hA.k
    obtain ⟨d0, d1, d2, d3, d4, d5⟩ := (HB.out.keep hA.k).conj
    have hcall := H3.out _ kA
    have HC := Lib.hid hcall; have HNE := Lib.hid hne
    clear hA hu1 hu2 hcall hne d0 d1 d2 d3 d4
    go_wp2_with fail
    refine HC.out.mono ?_
    rintro e W10 ⟨v10, rfl, hO3⟩
    obtain ⟨a3, c3, rfl, hR3⟩ := hO3.rd
    have m10 := HA.out.blk.keep hO3.2
    have s10 := HRES.out.keep (HA.out.k.trans hO3.2)
    have k10 := kA.trans hO3.2
    obtain ⟨n0, n1, n2, n3, n4, n5⟩ := m10.c6
    obtain ⟨g0, g1, g2, g3, g4, g5⟩ := m10.f6
    obtain ⟨p0, p1, p2, p3, p4, p5⟩ := s10.c6
    obtain ⟨q0, q1, q2, q3, q4, q5⟩ := s10.f6
    have hne := HNE.out
    go_wp2_with fail
    clear n0 n1 n2 n3 n4 n5 g0 g1 g2 g3 g4 g5 p0 p1 p2 p3 p4 p5 q0 q1 q2 q3 q4 q5
    have hb1 := (m10.set 5 (.slice a3 F.length c3))
    have hs1 := s10.setOther (Ne.symm hne) 5 (.slice a3 F.length c3)
    have x1 := ((HA.out.r1.keep hO3.2).set m10 (by decide) 5 (.slice a3 F.length c3)).set6 hs1 (by decide)
    have x2 := ((HA.out.r2.keep hO3.2).set m10 (by decide) 5 (.slice a3 F.length c3)).set6 hs1 (by decide)
    have x3 := (hO3.row0.set m10 (by decide) 5 (.slice a3 F.length c3)).set6 hs1 (by decide)
    have hkd : kdOf kd = 1 + (z : Int) := by unfold kdOf; rw [hz]
    rw [hkd]
    have hsz2 : w.heap.size ≤ w.heap.size + 1 := Nat.le_succ _
    refine bodyPost_ret (results_cell_row rfl _ _ _ _ _ _ _ rfl (hs1.set6 _ _ _ _ _ _) rfl rfl rfl) rfl ?_
    exact ⟨_, _, _, _, _, _, rfl, ⟨x1 _ _ _ _ _ _, x2 _ _ _ _ _ _, x3 _ _ _ _ _ _⟩, keeps_set6 (keeps_set k10 (Nat.le_trans K0.size HA.out.hB) _ _) hsz2 _ _ _ _ _ _⟩
end Go.Proofs.YtijknodekomdfaaGreatDoor
