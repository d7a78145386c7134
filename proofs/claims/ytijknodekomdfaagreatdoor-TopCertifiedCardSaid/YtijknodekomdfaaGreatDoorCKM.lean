/- Texts joined into one, what is needed of them (a program of ours). -/
import Derived.Test.YtijknodekomdfaaGreatDoorCKA
import Derived.Test.YtijknodekomdfaaGreatDoorCKL
namespace Go.Proofs.YtijknodekomdfaaGreatDoor
open Go.RowKit Go.Lib

/-- the block B holds these cells of this type and may be written -/
def Blk (w : World) (B : Nat) (T : TypeId) (cs : Array Value) : Prop := w.heap[B]? = some (.cells cs T)
theorem Blk.lt {w : World} {B : Nat} {T : TypeId} {cs : Array Value} (h : Blk w B T cs) : B < w.heap.size := by
  unfold Blk at h
  rcases Nat.lt_or_ge B w.heap.size with h' | h'
  · exact h'
  · rw [Array.getElem?_eq_none h'] at h; cases h
theorem Blk.below {n : Nat} {w w' : World} {B : Nat} {T : TypeId} {cs : Array Value} (h : Blk w B T cs) (k : Below n w w') (hn : B < n) : Blk w' B T cs := by
  unfold Blk; rw [Below.block k B hn]; exact h
theorem Blk.keep {w w' : World} {B : Nat} {T : TypeId} {cs : Array Value} (h : Blk w B T cs) (k : Keeps w w') : Blk w' B T cs := h.below k h.lt
theorem Blk.new (w : World) (T : TypeId) (cs : Array Value) : Blk (w.alloc (.cells cs T)) w.heap.size T cs := by
  show (w.heap.push _)[w.heap.size]? = _; simp
theorem Blk.of {w w' : World} {T : TypeId} {cs : Array Value} (k : Keeps (w.alloc (.cells cs T)) w') : Blk w' w.heap.size T cs := (Blk.new w T cs).keep k
theorem Blk.ofd {w w' : World} {T : TypeId} {cs : Array Value} (k : Keeps (w.alloc (.cells cs T)).drew w') : Blk w' w.heap.size T cs := ((Blk.new w T cs).keep ((Keeps.refl _).drew)).keep k
theorem Blk.set {w : World} {B : Nat} {T : TypeId} {cs : Array Value} (h : Blk w B T cs) (i : Nat) (u : Value) : Blk (w.setCell ⟨B, i, none⟩ u) B T (cs.setIfInBounds i u) := by
  unfold Blk at *; simp [World.setCell, Array.getElem?_modify, h]
theorem Blk.setOther {w : World} {B : Nat} {T : TypeId} {cs : Array Value} (h : Blk w B T cs) {C : Nat} (hC : B ≠ C) (i : Nat) (u : Value) : Blk (w.setCell ⟨C, i, none⟩ u) B T cs := by
  unfold Blk at *; rw [Below.heap_setCell _ _ _ _ (by simpa using hC)]; exact h
theorem Blk.cell {w : World} {B : Nat} {T : TypeId} {cs : Array Value} (h : Blk w B T cs) (i : Nat) {v : Value} (hv : cs[i]? = some v) : w.cell? ⟨B, i, none⟩ = some v := by
  unfold Blk at h; simp [World.cell?, h, hv]
theorem Blk.frozen {w : World} {B : Nat} {T : TypeId} {cs : Array Value} (h : Blk w B T cs) (i : Nat) : w.frozen? ⟨B, i, none⟩ = false := by
  unfold Blk at h; simp [World.frozen?, h]
theorem Blk.c6 {w : World} {B : Nat} {T : TypeId} {v0 v1 v2 v3 v4 v5 : Value} (h : Blk w B T #[v0, v1, v2, v3, v4, v5]) :
    (w.cell? ⟨B, 0, none⟩ = some v0 ∧ w.cell? ⟨B, 1, none⟩ = some v1 ∧ w.cell? ⟨B, 2, none⟩ = some v2 ∧ w.cell? ⟨B, 3, none⟩ = some v3 ∧ w.cell? ⟨B, 4, none⟩ = some v4 ∧ w.cell? ⟨B, 5, none⟩ = some v5) :=
  ⟨h.cell 0 rfl, h.cell 1 rfl, h.cell 2 rfl, h.cell 3 rfl, h.cell 4 rfl, h.cell 5 rfl⟩
theorem Blk.f6 {w : World} {B : Nat} {T : TypeId} {cs : Array Value} (h : Blk w B T cs) :
    (w.frozen? ⟨B, 0, none⟩ = false ∧ w.frozen? ⟨B, 1, none⟩ = false ∧ w.frozen? ⟨B, 2, none⟩ = false ∧ w.frozen? ⟨B, 3, none⟩ = false ∧ w.frozen? ⟨B, 4, none⟩ = false ∧ w.frozen? ⟨B, 5, none⟩ = false) :=
  ⟨h.frozen 0, h.frozen 1, h.frozen 2, h.frozen 3, h.frozen 4, h.frozen 5⟩
/-- a struct of six fields stored over a variable -/
theorem Blk.set6 {w : World} {B : Nat} {T : TypeId} {a0 a1 a2 a3 a4 a5 : Value} (h : Blk w B T #[a0, a1, a2, a3, a4, a5]) (v0 v1 v2 v3 v4 v5 : Value) :
    Blk ((((((w.setCell ⟨B, 0, none⟩ v0).setCell ⟨B, 1, none⟩ v1).setCell ⟨B, 2, none⟩ v2).setCell ⟨B, 3, none⟩ v3).setCell ⟨B, 4, none⟩ v4).setCell ⟨B, 5, none⟩ v5) B T #[v0, v1, v2, v3, v4, v5] :=
  (((((h.set 0 v0).set 1 v1).set 2 v2).set 3 v3).set 4 v4).set 5 v5
theorem keeps_set {w W : World} (k : Keeps w W) {B : Nat} (hB : w.heap.size ≤ B) (i : Nat) (u : Value) : Keeps w (W.setCell ⟨B, i, none⟩ u) := Below.setCell k hB u
theorem keeps_set6 {w W : World} (k : Keeps w W) {B : Nat} (hB : w.heap.size ≤ B) (v0 v1 v2 v3 v4 v5 : Value) :
    Keeps w ((((((W.setCell ⟨B, 0, none⟩ v0).setCell ⟨B, 1, none⟩ v1).setCell ⟨B, 2, none⟩ v2).setCell ⟨B, 3, none⟩ v3).setCell ⟨B, 4, none⟩ v4).setCell ⟨B, 5, none⟩ v5) :=
  keeps_set (keeps_set (keeps_set (keeps_set (keeps_set (keeps_set k hB 0 v0) hB 1 v1) hB 2 v2) hB 3 v3) hB 4 v4) hB 5 v5
/-- a row of another type is not the variable's block -/
def Row0 (e : TypeId) (sz : Nat) (w : World) (v : Value) (n : Nat) (xs : List Value) : Prop := w.ownsRow 0 e sz v n xs
theorem Own.row0 {e : TypeId} {sz : Nat} {w0 w : World} {v : Value} {n : Nat} {xs : List Value} (h : Own e sz w0 w v n xs) : Row0 e sz w v n xs := by
  obtain ⟨⟨h1, h2⟩, _⟩ := h
  refine ⟨h1, ?_⟩
  rcases h2 with ⟨a, b⟩ | ⟨g, cap, cur, hv, hg, r⟩
  · exact Or.inl ⟨a, b⟩
  · exact Or.inr ⟨g, cap, cur, hv, Nat.zero_le _, r⟩
theorem Row0.keep {e : TypeId} {sz : Nat} {w w' : World} {v : Value} {n : Nat} {xs : List Value} (h : Row0 e sz w v n xs) (k : Keeps w w') : Row0 e sz w' v n xs := k.own h
theorem Row0.rd {e : TypeId} {sz : Nat} {w : World} {a : Option Addr} {n m c : Nat} {xs : List Value} (h : Row0 e sz w (.slice a m c) n xs) : Rd w a n c sz xs := by
  obtain ⟨a', c', hv, hr⟩ := own_rd h
  cases hv; exact hr
theorem Row0.set {e : TypeId} {sz : Nat} {w : World} {v : Value} {n : Nat} {xs : List Value} (h : Row0 e sz w v n xs) {B : Nat} {T : TypeId} {cs : Array Value} (hB : Blk w B T cs) (hT : T ≠ e) (i : Nat) (u : Value) : Row0 e sz (w.setCell ⟨B, i, none⟩ u) v n xs := by
  obtain ⟨h1, h2⟩ := h
  refine ⟨h1, ?_⟩
  rcases h2 with ⟨a, b⟩ | ⟨g, cap, cur, hv, hg, hh, r⟩
  · exact Or.inl ⟨a, b⟩
  · refine Or.inr ⟨g, cap, cur, hv, hg, ?_, r⟩
    have hne : g ≠ B := by
      rintro rfl
      unfold Blk at hB
      rw [hB] at hh
      injection hh with hh
      injection hh with _ hh2
      exact hT hh2
    rw [Below.heap_setCell _ _ _ _ (by simpa using hne)]; exact hh
theorem Row0.set6 {e : TypeId} {sz : Nat} {w : World} {v : Value} {n : Nat} {xs : List Value} (h : Row0 e sz w v n xs) {B : Nat} {T : TypeId} {cs : Array Value} (hB : Blk w B T cs) (hT : T ≠ e) (v0 v1 v2 v3 v4 v5 : Value) :
    Row0 e sz ((((((w.setCell ⟨B, 0, none⟩ v0).setCell ⟨B, 1, none⟩ v1).setCell ⟨B, 2, none⟩ v2).setCell ⟨B, 3, none⟩ v3).setCell ⟨B, 4, none⟩ v4).setCell ⟨B, 5, none⟩ v5) v n xs :=
  (((((h.set hB hT 0 v0).set (hB.set 0 v0) hT 1 v1).set ((hB.set 0 v0).set 1 v1) hT 2 v2).set (((hB.set 0 v0).set 1 v1).set 2 v2) hT 3 v3).set ((((hB.set 0 v0).set 1 v1).set 2 v2).set 3 v3) hT 4 v4).set (((((hB.set 0 v0).set 1 v1).set 2 v2).set 3 v3).set 4 v4) hT 5 v5
end Go.Proofs.YtijknodekomdfaaGreatDoor
namespace Go.Proofs.YtijknodekomdfaaGreatDoor
open Go.RowKit Go.Lib Go.Shelf

def nOf (N : Int) : Nat := 1 + (N % 5).toNat
def kdOf (kd : Int) : Int := 1 + kd % 2
/-- the rows of a configuration, as rows of their own type -/
structure RowC (w : World) (ar : Option Addr) (cr : Nat) (R : List S) (aw : Option Addr) (cw : Nat) (Q : List S) (af : Option Addr) (cf : Nat) (F : List F2) : Prop where
  r : Row0 31 1 w (.slice ar R.length cr) R.length (sl R)
  q : Row0 31 1 w (.slice aw Q.length cw) Q.length (sl Q)
  f : Row0 34 2 w (.slice af F.length cf) F.length (fl F)
theorem RowC.rd {w : World} {ar : Option Addr} {cr : Nat} {R : List S} {aw : Option Addr} {cw : Nat} {Q : List S} {af : Option Addr} {cf : Nat} {F : List F2} (h : RowC w ar cr R aw cw Q af cf F) : RdC w ar cr R aw cw Q af cf F := ⟨h.r.rd, h.q.rd, h.f.rd⟩
theorem RowC.keep {w w' : World} {ar : Option Addr} {cr : Nat} {R : List S} {aw : Option Addr} {cw : Nat} {Q : List S} {af : Option Addr} {cf : Nat} {F : List F2} (h : RowC w ar cr R aw cw Q af cf F) (k : Keeps w w') : RowC w' ar cr R aw cw Q af cf F := ⟨h.r.keep k, h.q.keep k, h.f.keep k⟩
theorem RowC.set6 {w : World} {ar : Option Addr} {cr : Nat} {R : List S} {aw : Option Addr} {cw : Nat} {Q : List S} {af : Option Addr} {cf : Nat} {F : List F2} (h : RowC w ar cr R aw cw Q af cf F) {B : Nat} {T : TypeId} {cs : Array Value} (hB : Blk w B T cs) (h1 : T ≠ 31) (h2 : T ≠ 34) (v0 v1 v2 v3 v4 v5 : Value) :
    RowC ((((((w.setCell ⟨B, 0, none⟩ v0).setCell ⟨B, 1, none⟩ v1).setCell ⟨B, 2, none⟩ v2).setCell ⟨B, 3, none⟩ v3).setCell ⟨B, 4, none⟩ v4).setCell ⟨B, 5, none⟩ v5) ar cr R aw cw Q af cf F := ⟨h.r.set6 hB h1 _ _ _ _ _ _, h.q.set6 hB h1 _ _ _ _ _ _, h.f.set6 hB h2 _ _ _ _ _ _⟩
/-- the cells of a boxed draft -/
structure BoxD (w : World) (B : Nat) (kd N md : Int) (ar : Option Addr) (nr cr : Nat) (aw : Option Addr) (nw cw : Nat) (af : Option Addr) (nf cf : Nat) : Prop where
  c0 : w.cell? ⟨B, 0, none⟩ = some (.int .u8 kd)
  c1 : w.cell? ⟨B, 1, none⟩ = some (.int .u8 N)
  c2 : w.cell? ⟨B, 2, none⟩ = some (.int .u8 md)
  c3 : w.cell? ⟨B, 3, none⟩ = some (.slice ar nr cr)
  c4 : w.cell? ⟨B, 4, none⟩ = some (.slice aw nw cw)
  c5 : w.cell? ⟨B, 5, none⟩ = some (.slice af nf cf)
theorem BoxD.keep {w w' : World} {B : Nat} {kd N md : Int} {ar : Option Addr} {nr cr : Nat} {aw : Option Addr} {nw cw : Nat} {af : Option Addr} {nf cf : Nat} (h : BoxD w B kd N md ar nr cr aw nw cw af nf cf) (k : Keeps w w') : BoxD w' B kd N md ar nr cr aw nw cw af nf cf :=
  ⟨k.cell h.c0, k.cell h.c1, k.cell h.c2, k.cell h.c3, k.cell h.c4, k.cell h.c5⟩
theorem BoxD.new (w : World) (T : TypeId) (kd N md : Int) (ar : Option Addr) (nr cr : Nat) (aw : Option Addr) (nw cw : Nat) (af : Option Addr) (nf cf : Nat) :
    BoxD (w.alloc (.cells #[.int .u8 kd, .int .u8 N, .int .u8 md, .slice ar nr cr, .slice aw nw cw, .slice af nf cf] T)) w.heap.size kd N md ar nr cr aw nw cw af nf cf := by
  constructor <;> (rw [World.cell?_alloc_at _ _ _ _ rfl]; rfl)
theorem BoxD.conj {w : World} {B : Nat} {kd N md : Int} {ar : Option Addr} {nr cr : Nat} {aw : Option Addr} {nw cw : Nat} {af : Option Addr} {nf cf : Nat} (h : BoxD w B kd N md ar nr cr aw nw cw af nf cf) :
    w.cell? ⟨B, 0, none⟩ = some (.int .u8 kd) ∧ w.cell? ⟨B, 1, none⟩ = some (.int .u8 N) ∧ w.cell? ⟨B, 2, none⟩ = some (.int .u8 md) ∧ w.cell? ⟨B, 3, none⟩ = some (.slice ar nr cr) ∧ w.cell? ⟨B, 4, none⟩ = some (.slice aw nw cw) ∧ w.cell? ⟨B, 5, none⟩ = some (.slice af nf cf) :=
  ⟨h.c0, h.c1, h.c2, h.c3, h.c4, h.c5⟩
theorem wrapi_in (z : Int) (h0 : 0 ≤ z) (h1 : z ≤ 100000) : IntKind.i64.wrap z = z := by
  rw [IntKind.wrap_i64]; omega
theorem pack {W : World} {Q : World → Prop} (hQ : Q W) : ∃ W', W = W' ∧ Q W' := ⟨W, rfl, hQ⟩
/-- the world after the configuration's variable was made -/
structure Aft (W2 : World) (B : Nat) (u0 u1 u2 : Value) (a1 : Option Addr) (n1 c1 : Nat) (L1 : List Value) (a2 : Option Addr) (n2 c2 : Nat) (L2 : List Value) (W : World) : Prop where
  blk : Blk W B 36 #[u0, u1, u2, .slice a1 n1 c1, .slice a2 n2 c2, .slice none 0 0]
  r1 : Row0 31 1 W (.slice a1 n1 c1) n1 L1
  r2 : Row0 31 1 W (.slice a2 n2 c2) n2 L2
  k : Keeps W2 W
  hB : W2.heap.size ≤ B
theorem Aft.ofSet {W2 W : World} {B : Nat} {a0 b1 b2 b3 b4 b5 : Value} (hN : Blk W B 36 #[a0, b1, b2, b3, b4, b5]) {a1 : Option Addr} {n1 c1 : Nat} {L1 : List Value} {a2 : Option Addr} {n2 c2 : Nat} {L2 : List Value}
    (r1 : Row0 31 1 W (.slice a1 n1 c1) n1 L1) (r2 : Row0 31 1 W (.slice a2 n2 c2) n2 L2) (k : Keeps W2 W) (hB : W2.heap.size ≤ B) (u0 u1 u2 : Value) :
    Aft W2 B u0 u1 u2 a1 n1 c1 L1 a2 n2 c2 L2 ((((((W.setCell ⟨B, 0, none⟩ u0).setCell ⟨B, 1, none⟩ u1).setCell ⟨B, 2, none⟩ u2).setCell ⟨B, 3, none⟩ (.slice a1 n1 c1)).setCell ⟨B, 4, none⟩ (.slice a2 n2 c2)).setCell ⟨B, 5, none⟩ (.slice none 0 0)) :=
  ⟨hN.set6 _ _ _ _ _ _, r1.set6 hN (by decide) _ _ _ _ _ _, r2.set6 hN (by decide) _ _ _ _ _ _, keeps_set6 k hB _ _ _ _ _ _, hB⟩
theorem Aft.ofNew {W2 W : World} {a1 : Option Addr} {n1 c1 : Nat} {L1 : List Value} {a2 : Option Addr} {n2 c2 : Nat} {L2 : List Value}
    (r1 : Row0 31 1 W (.slice a1 n1 c1) n1 L1) (r2 : Row0 31 1 W (.slice a2 n2 c2) n2 L2) (k : Keeps W2 W) (u0 u1 u2 : Value) :
    Aft W2 W.heap.size u0 u1 u2 a1 n1 c1 L1 a2 n2 c2 L2 (W.alloc (.cells #[u0, u1, u2, .slice a1 n1 c1, .slice a2 n2 c2, .slice none 0 0] 36)) :=
  ⟨Blk.new _ _ _, r1.keep ((Keeps.refl _).alloc _), r2.keep ((Keeps.refl _).alloc _), k.alloc _, k.size⟩
end Go.Proofs.YtijknodekomdfaaGreatDoor
