/- Texts joined into one, what is needed of them (a program of ours). -/
import Derived.Test.YtijknodekomdfaaGreatDoorCKYe
import Derived.Test.YtijknodekomdfaaGreatDoorCKTd
import Derived.Lib.QuietBelow
import Derived.Deep.RegionWith
import Derived.Test.YtijknodekomdfaaGreatDoorCKYa
import Derived.Test.YtijknodekomdfaaGreatDoorCKU
import Derived.Test.YtijknodekomdfaaGreatDoorCKH
namespace Go.Proofs.YtijknodekomdfaaGreatDoor
open Go.RowKit Go.Lib Go.Shelf

def canI (wt : S) (x : It) : S := if x.1 = 1 then x.2.1 &&& x.2.2.1 &&& ~~~x.2.2.2.1 &&& ~~~wt else x.2.1 &&& x.2.2.1 &&& ~~~x.2.2.2.1
def bitI (s : S) (i : Int) : Bool := (s >>> i.toNat) &&& 1#16 == 1#16
def eqC (x y : It) : Bool := x.1 == y.1 && (x.2.1 == y.2.1 && (x.2.2.1 == y.2.2.1 && x.2.2.2.1 == y.2.2.2.1))
def chkI (wt : S) (x y : It) : Bool := eqC x y && (decide (0 ≤ x.2.2.2.2) && (decide (x.2.2.2.2 < 12) && bitI (canI wt x) x.2.2.2.2))
def all2 {α β : Type} (p : α → β → Bool) : List α → List β → Bool
  | x :: xs, y :: ys => p x y && all2 p xs ys
  | _, _ => true
theorem all2_self {α : Type} {p : α → α → Bool} : ∀ l : List α, (∀ x ∈ l, p x x = true) → all2 p l l = true
  | [], _ => rfl
  | x :: xs, h => by rw [all2, h x (List.mem_cons_self ..), all2_self xs fun y hy => h y (List.mem_cons_of_mem _ hy)]; rfl
/-- what the program's Check answers -/
def chkS (kd : Int) (wt M : S) (R Q : List S) (F : List F2) (l : List It) : Bool :=
  cvS kd M R Q F == 0 && (l.length == (rowsP wt (byz27 kd M F) R Q).length && all2 (chkI wt) l (rowsP wt (byz27 kd M F) R Q))
def hasI (s : S) (i : Int) : Bool := decide (0 ≤ i) && (decide (i < 16) && bitI s i)
def rchk1 (wt : S) (x : It) (r : CL) : Bool := (x.1 == r.1 && (x.2.1 == r.2.1 && (x.2.2.1 == r.2.2.1 && x.2.2.2.1 == r.2.2.2))) && hasI (x.2.1 &&& x.2.2.1 &&& ~~~(badC wt r)) x.2.2.2.2
theorem small_and {a b : S} (h : small b) (c : S) : small (a &&& b &&& c) := by
  show (a &&& b &&& c).toNat < 4096
  have hb : b.toNat < 4096 := h
  rw [BitVec.toNat_and, BitVec.toNat_and]
  exact Nat.lt_of_le_of_lt Nat.and_le_left (Nat.lt_of_le_of_lt Nat.and_le_right hb)
theorem bit_hi {s : S} (h : small s) {i : Int} (h12 : 12 ≤ i) : bitI s i = false := by
  unfold bitI
  rw [hbT]
  exact hiT h _ (by omega)
theorem chk_one {wt : S} {r : CL} (hq : small r.2.2.1) (x : It) : chkI wt x (withS wt r) = rchk1 wt x r := by
  obtain ⟨r0, r1, r2, r3⟩ := r
  obtain ⟨x0, x1, x2, x3, s⟩ := x
  unfold chkI rchk1 eqC withS
  dsimp only
  cases hE : (x0 == r0 && (x1 == r1 && (x2 == r2 && x3 == r3)))
  · rfl
  · rw [Bool.true_and, Bool.true_and]
    simp only [Bool.and_eq_true, beq_iff_eq] at hE
    obtain ⟨rfl, rfl, rfl, rfl⟩ := hE
    have hc : canI wt (x0, x1, x2, x3, s) = x1 &&& x2 &&& ~~~(badC wt (x0, x1, x2, x3)) := by
      unfold canI badC
      dsimp only
      by_cases h1 : x0 = 1
      · rw [if_pos h1, if_pos h1, BitVec.not_or, ← BitVec.and_assoc]
      · rw [if_neg h1, if_neg h1]
    rw [hc]
    have hs : small (x1 &&& x2 &&& ~~~(badC wt (x0, x1, x2, x3))) := small_and hq _
    generalize x1 &&& x2 &&& ~~~(badC wt (x0, x1, x2, x3)) = c at *
    unfold hasI
    by_cases h12 : s < 12
    · rw [decide_eq_true h12, decide_eq_true (show s < 16 by omega)]
    · rw [decide_eq_false h12]
      rw [bit_hi hs (by omega)]
      simp
theorem has_cmn {c : S} (hs : small c) (hne : c ≠ 0#16) : hasI c (cmnS c) = true := by
  have hm := mem_head hs hne
  have hmm : (memTo c 16).getD 0 0 ∈ memTo c 16 := by
    have h0 := (members_step hs hne).1
    rw [memTo_members hs]
    generalize members c = l at h0 ⊢
    rw [h0, List.getD_cons_zero]
    exact List.mem_cons_self ..
  rw [← hm]
  generalize (memTo c 16).getD 0 0 = i at hmm
  unfold memTo at hmm
  rw [List.mem_filter, List.mem_range] at hmm
  unfold hasI bitI
  rw [decide_eq_true (show (0 : Int) ≤ (i : Int) by omega), decide_eq_true (show (i : Int) < 16 by omega), Bool.true_and, Bool.true_and, Int.toNat_natCast]
  exact hmm.2
theorem self_row {wt : S} {r : CL} (hq : small r.2.2.1) (hv : violC wt r = false) : rchk1 wt (withS wt r) r = true := by
  obtain ⟨r0, r1, r2, r3⟩ := r
  have hsmall : small (r1 &&& r2 &&& ~~~(badC wt (r0, r1, r2, r3))) := small_and hq _
  have hne : r1 &&& r2 &&& ~~~(badC wt (r0, r1, r2, r3)) ≠ 0#16 := by
    intro e
    unfold violC at hv
    dsimp only at hv
    rw [e] at hv
    cases hv
  have h := has_cmn hsmall hne
  unfold rchk1 withS
  dsimp only
  rw [h, Bool.and_true, beq_self_eq_true, beq_self_eq_true, beq_self_eq_true, beq_self_eq_true]
  rfl
theorem self_chk {wt : S} {rows : List CL} {ps : List It} (hp : ps = rows.map (withS wt)) (hq : ∀ r ∈ rows, small r.2.2.1) (hn : ps.any negI = false) : all2 (chkI wt) ps ps = true := by
  refine all2_self _ (fun x hx => ?_)
  have hng := List.any_eq_false.1 hn _ hx
  rw [hp] at hx
  obtain ⟨r, hr, rfl⟩ := List.mem_map.1 hx
  rw [chk_one (hq r hr)]
  refine self_row (hq r hr) ?_
  rw [← withS_neg]
  simpa using hng
theorem chkS_of {kd : Int} {wt M : S} {R Q : List S} {F : List F2} {ps : List It} (hps : ps = rowsP wt (byz27 kd M F) R Q) (hcv : cvS kd M R Q F = 0) (hn : ps.any negI = false) : chkS kd wt M R Q F ps = true := by
  have hq := cf_parts (cv_parts hcv).2.2.2.1
  have hsm := ((valid_iff Q).1 hq.1).low
  have h := self_chk (wt := wt) (hps.trans (rowsP_eq wt _ R Q (valid_nodup hq.1))) (fun r hr => hsm _ (rows_in hr)) hn
  unfold chkS
  rw [← hps, h, hcv]
  simp
theorem safe_neg {kd : Int} {wt M : S} {R Q : List S} {F : List F2} (hcv : cvS kd M R Q F = 0) : safe27 kd wt M R Q F = !(rowsP wt (byz27 kd M F) R Q).any negI := by
  have hq := cf_parts (cv_parts hcv).2.2.2.1
  rw [rowsP_neg wt _ R Q (valid_nodup hq.1)]
  unfold safe27 clash27
  rw [if_neg (by simp [hcv])]
  cases firstR wt (byz27 kd M F) R Q <;> rfl
theorem proS_small {kd : Int} {wt M : S} {R Q : List S} {F : List F2} (hcv : cvS kd M R Q F = 0) (ps : List It) (hps : ps = rowsP wt (byz27 kd M F) R Q) (cn : Nat) (hcn : cn = cntR (byz27 kd M F) R Q) (hbig : ¬ 20000 < cn) :
    proS kd wt M R Q F = if ps.any negI = true then ([], 12) else (ps, 0) := by
  subst hps
  unfold proS
  rw [if_neg (by simp [hcv]), ← hcn, if_neg hbig]
theorem proS_err {kd : Int} {wt M : S} {R Q : List S} {F : List F2} (hcv : cvS kd M R Q F ≠ 0) : proS kd wt M R Q F = ([], cvS kd M R Q F) := by
  unfold proS
  rw [if_pos hcv]
theorem pro_facts {kd : Int} {wt M : S} {R Q : List S} {F : List F2} (cn : Nat) (hcn : cn = cntR (byz27 kd M F) R Q) (hbig : ¬ 20000 < cn) : ((proS kd wt M R Q F).2 == 0) = safe27 kd wt M R Q F ∧
    ((proS kd wt M R Q F).2 = 0 → chkS kd wt M R Q F (proS kd wt M R Q F).1 = true) := by
  by_cases hcv : cvS kd M R Q F = 0
  · obtain ⟨ps, hps⟩ : ∃ p, p = rowsP wt (byz27 kd M F) R Q := ⟨_, rfl⟩
    rw [proS_small hcv ps hps cn hcn hbig, safe_neg hcv, ← hps]
    cases hn : ps.any negI
    · rw [if_neg (by simp)]
      exact ⟨rfl, fun _ => chkS_of hps hcv hn⟩
    · rw [if_pos rfl]
      exact ⟨rfl, fun h => absurd h (by decide)⟩
  · rw [proS_err hcv]
    refine ⟨?_, fun h => absurd h hcv⟩
    cases hs : safe27 kd wt M R Q F
    · simpa using hcv
    · exact absurd (safe_cv hs).1 hcv
end Go.Proofs.YtijknodekomdfaaGreatDoor
namespace Go.Proofs.YtijknodekomdfaaGreatDoor
open Go.RowKit Go.Lib Go.Shelf

set_option maxRecDepth 20000 in
set_option maxHeartbeats 4000000 in
theorem equalFuncI_any (a : Option Addr) (c : Nat) (l : List It) (a2 : Option Addr) (c2 : Nat) (m : List It) (w : World) (g : Nat) (lb : Array Value) (p : It → It → Bool) (h : Rd w a l.length c 5 (itl l)) (h2 : Rd w a2 m.length c2 5 (itl m))
    (eg : ∀ args w, (callFunc g args).run Tryz.prog w = .ok (.enter g args) w) (hp : ∀ W x y, Keeps w W → Calls Tryz.prog g (#[vit x, vit y] ++ lb) W fun e w' => e = .returned (.bool (p x y)) ∧ Keeps W w') :
    Calls Tryz.prog 61 #[.slice a l.length c, .slice a2 m.length c2, .func (.func g) #[] lb] w fun e w' => e = .returned (.bool (l.length == m.length && all2 p l m)) ∧ Keeps w w' := by
  have s1 := h.small; have s2 := h2.small
  have HP := Lib.hid hp; clear hp
  by_cases hl : l.length = m.length
  rotate_left
  · have hb : (l.length == m.length) = false := by simpa using hl
    have hb2 : (((l.length : Nat) : Int) == ((m.length : Nat) : Int)) = false := by simpa using fun e => hl (by omega)
    have hb3 : ¬ ((l.length : Nat) : Int) = ((m.length : Nat) : Int) := fun e => hl (by omega)
    rw [hb, Bool.false_and]
    clear hl
    go_enter Tryz.func61, Tryz.ntmps61
    go_wp2_with fail
    go_ret
    exact ⟨rfl, Keeps.refl _⟩
  have hlb : (l.length == m.length) = true := by simpa using hl
  rw [hlb, Bool.true_and]
  clear hlb
  rw [← hl] at h2 s2 ⊢
  obtain ⟨res, hres⟩ : ∃ r, r = all2 p l m := ⟨_, rfl⟩
  rw [← hres]
  have HRES := Lib.hid hres; have HL := Lib.hid hl; have HR := Lib.hid h; have HR2 := Lib.hid h2
  clear hres hl h h2
  go_enter Tryz.func61, Tryz.ntmps61
  go_wp2_with fail
  go_loopw [17] (fun v wr => ∃ k : Nat, k ≤ l.length ∧ v = .int .i64 k ∧ Keeps w wr ∧ Hid (res = all2 p (l.drop k) (m.drop k))) (fun v _ => l.length - (RowKit.intOf v).toNat)
  case atStart => exact ⟨0, Nat.zero_le _, rfl, Keeps.refl _, HRES.out⟩
  case round =>
    obtain ⟨k, hk, rfl, K1, HI⟩ := hrel
    by_cases hlt : k < l.length
    · obtain ⟨hc, _⟩ := (HR.out.keep K1).i hlt
      obtain ⟨hc1, hc2, hc3, hc4⟩ := (HR.out.keep K1).i' hlt
      have ha := HR.out.isSome (by omega)
      have ha2 := HR2.out.isSome (by omega)
      have hlt' : (k : Int) < (l.length : Int) := by omega
      have hst := HI.out
      rw [drop_ia l k hlt, drop_ia m k (by have := HL.out; omega), all2] at hst
      have hR2 := HR2.out
      have hgm := fun W (q : Keeps w W) => And.intro ((hR2.keep q).i hlt) ((hR2.keep q).i' hlt)
      generalize ia l k = x at *
      generalize ia m k = y at *
      obtain ⟨x0, x1, x2, x3, x4⟩ := x
      obtain ⟨y0, y1, y2, y3, y4⟩ := y
      dsimp only at hc hc1 hc2 hc3 hc4 hgm
      have KX := (Keeps.refl wr).alloc (.cells #[.int .i64 x0, .int .u16 (sv x1), .int .u16 (sv x2), .int .u16 (sv x3), .int .i64 x4] 101)
      have bx := Blk.new wr 101 #[.int .i64 x0, .int .u16 (sv x1), .int .u16 (sv x2), .int .u16 (sv x3), .int .i64 x4]
      obtain ⟨⟨m0, _⟩, m1, m2, m3, m4⟩ := hgm _ (K1.trans KX)
      have KY := (Keeps.refl (wr.alloc (.cells #[.int .i64 x0, .int .u16 (sv x1), .int .u16 (sv x2), .int .u16 (sv x3), .int .i64 x4] 101))).alloc (.cells #[.int .i64 y0, .int .u16 (sv y1), .int .u16 (sv y2), .int .u16 (sv y3), .int .i64 y4] 101)
      have by_ := Blk.new (wr.alloc (.cells #[.int .i64 x0, .int .u16 (sv x1), .int .u16 (sv x2), .int .u16 (sv x3), .int .i64 x4] 101)) 101 #[.int .i64 y0, .int .u16 (sv y1), .int .u16 (sv y2), .int .u16 (sv y3), .int .i64 y4]
      rw [World.size_alloc] at by_
      obtain ⟨d0, d1, d2, d3, d4⟩ := cB5 (bx.keep KY)
      obtain ⟨e0, e1, e2, e3, e4⟩ := cB5 by_
      have hcall := HP.out _ (x0, x1, x2, x3, x4) (y0, y1, y2, y3, y4) (K1.trans (KX.trans KY))
      unfold vit at hcall
      dsimp only at hcall
      have HC := Lib.hid hcall
      have KK := Lib.hid (K1.trans (KX.trans KY))
      clear hcall hgm hR2 bx by_ HI KX KY
      cases hq : p (x0, x1, x2, x3, x4) (y0, y1, y2, y3, y4)
      · rw [hq] at HC hst
        rw [Bool.false_and] at hst
        have HS := Lib.hid hst
        clear hst hq
        go_wp2_with (go_at_fn g; refine (HC.out).mono ?_; rintro e w' ⟨rfl, K2⟩)
        go_ret
        exact ⟨by rw [HS.out]; rfl, KK.out.trans K2⟩
      · rw [hq] at HC hst
        rw [Bool.true_and] at hst
        have HS := Lib.hid hst
        clear hst hq
        go_wp2_with (go_at_fn g; refine (HC.out).mono ?_; rintro e w' ⟨rfl, K2⟩)
        go_roundw
        case rel => exact ⟨k + 1, by omega, by go_num, KK.out.trans K2, HS⟩
        case measure => simp [RowKit.intOf]; omega
    · have hst := HI.out
      rw [List.drop_eq_nil_of_le (by omega), all2] at hst
      · have HS := Lib.hid hst
        clear hst HI
        go_wp2_with fail
        go_ret
        exact ⟨by rw [HS.out]; rfl, K1⟩
      · intros; simp_all
set_option maxRecDepth 20000 in
set_option maxHeartbeats 4000000 in
theorem chkPred (wt : S) (B : Nat) (x y : It) (W : World) (hB : W.cell? ⟨B, 0, none⟩ = some (.int .u16 (sv wt))) :
    Calls Tryz.prog 62 (#[vit x, vit y] ++ #[.pointer (some ⟨B, 0, none⟩)]) W fun e w' => e = .returned (.bool (chkI wt x y)) ∧ Keeps W w' := by
  obtain ⟨x0, x1, x2, x3, s⟩ := x
  obtain ⟨y0, y1, y2, y3, s2⟩ := y
  have hBX := (((Keeps.refl W).alloc (.cells #[.int .i64 x0, .int .u16 (sv x1), .int .u16 (sv x2), .int .u16 (sv x3), .int .i64 s] 101)).alloc (.cells #[.int .i64 y0, .int .u16 (sv y1), .int .u16 (sv y2), .int .u16 (sv y3), .int .i64 s2] 101)).cell hB
  have KX := (Keeps.refl W).alloc (.cells #[.int .i64 x0, .int .u16 (sv x1), .int .u16 (sv x2), .int .u16 (sv x3), .int .i64 s] 101)
  have bx := Blk.new W 101 #[.int .i64 x0, .int .u16 (sv x1), .int .u16 (sv x2), .int .u16 (sv x3), .int .i64 s]
  obtain ⟨W1, hW1⟩ : ∃ W1, W1 = W.alloc (.cells #[.int .i64 x0, .int .u16 (sv x1), .int .u16 (sv x2), .int .u16 (sv x3), .int .i64 s] 101) := ⟨_, rfl⟩
  have hsz : W1.heap.size = W.heap.size + 1 := by rw [hW1, World.size_alloc]
  rw [← hW1] at KX bx
  have KY := (Keeps.refl W1).alloc (.cells #[.int .i64 y0, .int .u16 (sv y1), .int .u16 (sv y2), .int .u16 (sv y3), .int .i64 s2] 101)
  have b2 := Blk.new W1 101 #[.int .i64 y0, .int .u16 (sv y1), .int .u16 (sv y2), .int .u16 (sv y3), .int .i64 s2]
  obtain ⟨W2, hW2⟩ : ∃ W2, W2 = W1.alloc (.cells #[.int .i64 y0, .int .u16 (sv y1), .int .u16 (sv y2), .int .u16 (sv y3), .int .i64 s2] 101) := ⟨_, rfl⟩
  rw [← hW2] at KY b2
  rw [hsz] at b2
  replace bx := bx.keep KY
  have hB2 := (KX.trans KY).cell hB
  obtain ⟨d0, d1, d2, d3, d4⟩ := cB5 bx
  obtain ⟨e0, e1, e2, e3, e4⟩ := cB5 b2
  have f4 := b2.frozen 4
  have hne : W.heap.size ≠ W.heap.size + 1 := by omega
  have bx3 := bx.setOther hne 4 (.int .i64 s)
  have b3 := b2.set 4 (.int .i64 s)
  obtain ⟨p0, p1, p2, p3, p4⟩ := cB5 bx3
  have hb3 : Blk (W2.setCell ⟨W.heap.size + 1, 4, none⟩ (.int .i64 s)) (W.heap.size + 1) 101 #[.int .i64 y0, .int .u16 (sv y1), .int .u16 (sv y2), .int .u16 (sv y3), .int .i64 s] := b3
  obtain ⟨q0, q1, q2, q3, q4⟩ := cB5 hb3
  have hres : chkI wt (x0, x1, x2, x3, s) (y0, y1, y2, y3, s2) = ((x0 == y0 && (x1 == y1 && (x2 == y2 && x3 == y3))) && (decide (0 ≤ s) && (decide (s < 12) && bitI (if x0 = 1 then x1 &&& x2 &&& ~~~x3 &&& ~~~wt else x1 &&& x2 &&& ~~~x3) s))) := rfl
  rw [hres]
  clear hres
  have KF := Lib.hid ((keeps_set (KX.trans KY) (show W.heap.size ≤ W.heap.size + 1 by omega) 4 (.int .i64 s)))
  clear bx b2 bx3 b3 hb3 hB KX KY
  unfold vit
  dsimp only
  show Calls _ _ #[.agg #[.int .i64 x0, .int .u16 (sv x1), .int .u16 (sv x2), .int .u16 (sv x3), .int .i64 s], .agg #[.int .i64 y0, .int .u16 (sv y1), .int .u16 (sv y2), .int .u16 (sv y3), .int .i64 s2], .pointer (some ⟨B, 0, none⟩)] W _
  have hcs : (∃ n : Nat, s = n ∧ n < 12) ∨ decide (0 ≤ s) = false ∨ (decide (0 ≤ s) = true ∧ decide (s < 12) = false) := by
    by_cases h0 : 0 ≤ s
    · by_cases h12 : s < 12
      · exact .inl ⟨s.toNat, by omega, by omega⟩
      · exact .inr (.inr ⟨by simpa using h0, by simp; omega⟩)
    · exact .inr (.inl (by simp; omega))
  obtain ⟨em, hem⟩ : ∃ e, e = (x0 == y0 && (x1 == y1 && (x2 == y2 && x3 == y3))) := ⟨_, rfl⟩
  rw [← hem]
  have HEM := Lib.hid hem
  clear hem
  have fin : ∀ e, Hid (e = true ∨ e = false) := fun e => by cases e <;> simp [Hid]
  rcases hcs with ⟨n, rfl, hn⟩ | hd0 | ⟨hd0, hd1⟩
  · have hd0 : decide ((0 : Int) ≤ (n : Int)) = true := by simp
    have hd1 : decide ((n : Int) < 12) = true := by simp; omega
    rw [hd0, hd1, Bool.true_and, Bool.true_and]
    unfold bitI
    rw [Int.toNat_natCast]
    cases h1 : (x0 == 1)
    · rw [if_neg (by simpa using h1)]
      cases hb : (((x1 &&& x2 &&& ~~~x3) >>> n) &&& 1#16 == 1#16)
      all_goals
        go_enter Tryz.func62, Tryz.ntmps62
        go_wp2_with fail
      all_goals go_ret
      all_goals refine ⟨?_, ((Keeps.refl _).alloc _).alloc _⟩
      all_goals rw [HEM.out]
      all_goals simp_all
    · rw [if_pos (by simpa using h1)]
      cases hb : (((x1 &&& x2 &&& ~~~x3 &&& ~~~wt) >>> n) &&& 1#16 == 1#16)
      all_goals
        go_enter Tryz.func62, Tryz.ntmps62
        go_wp2_with fail
      all_goals go_ret
      all_goals refine ⟨?_, ((Keeps.refl _).alloc _).alloc _⟩
      all_goals rw [HEM.out]
      all_goals simp_all
  · rw [hd0, Bool.false_and, Bool.and_false]
    clear HEM
    cases h1 : (x0 == 1)
    all_goals
      go_enter Tryz.func62, Tryz.ntmps62
      go_wp2_with fail
    all_goals go_ret
    all_goals exact ⟨rfl, ((Keeps.refl _).alloc _).alloc _⟩
  · rw [hd0, hd1, Bool.true_and, Bool.false_and, Bool.and_false]
    clear HEM
    cases h1 : (x0 == 1)
    all_goals
      go_enter Tryz.func62, Tryz.ntmps62
      go_wp2_with fail
    all_goals go_ret
    all_goals exact ⟨rfl, ((Keeps.refl _).alloc _).alloc _⟩
set_option maxRecDepth 20000 in
set_option maxHeartbeats 4000000 in
theorem cCheck_any {nm : ByteArray} [NmOk nm] (kd : Int) (wt M : S) {ar : Option Addr} {cr : Nat} {R : List S} {aw : Option Addr} {cw : Nat} {Q : List S} {af : Option Addr} {cf : Nat} {F : List F2} {al : Option Addr} {cl : Nat} (l : List It) (w : World) (hT : Tab w) (h : RowC w ar cr R aw cw Q af cf F) (hl : Rd w al l.length cl 5 (itl l)) (hn : F.length ≤ 1000000) (hbig : (allL wt (byz27 kd M F) R Q).length ≤ 9000000) :
    Calls Tryz.prog 18 #[.agg #[.string nm, .int .i64 kd, .int .u16 (sv M), .slice ar R.length cr, .slice aw Q.length cw, .slice af F.length cf], .int .u16 (sv wt), .slice al l.length cl] w fun e w' => e = .returned (.bool (chkS kd wt M R Q F l)) ∧ Keeps w w' := by
  have K0 := (Keeps.refl w).alloc (.cells #[.string nm, .int .i64 kd, .int .u16 (sv M), .slice ar R.length cr, .slice aw Q.length cw, .slice af F.length cf] 36)
  have hb := BoxC.new w 36 nm kd M ar R.length cr aw Q.length cw af F.length cf
  obtain ⟨W1, hW1⟩ : ∃ W0, W0 = w.alloc (.cells #[.string nm, .int .i64 kd, .int .u16 (sv M), .slice ar R.length cr, .slice aw Q.length cw, .slice af F.length cf] 36) := ⟨_, rfl⟩
  have hsz : W1.heap.size = w.heap.size + 1 := by rw [hW1, World.size_alloc]
  rw [← hW1] at hb K0
  have k2 := (Keeps.refl W1).alloc (.cells #[.int .u16 (sv wt)] 31)
  have hx : (W1.alloc (.cells #[.int .u16 (sv wt)] 31)).cell? ⟨w.heap.size + 1, 0, none⟩ = some (.int .u16 (sv wt)) := by rw [← hsz, World.cell?_alloc_at _ _ _ _ rfl]; rfl
  obtain ⟨W2, hW2⟩ : ∃ W2, W2 = W1.alloc (.cells #[.int .u16 (sv wt)] 31) := ⟨_, rfl⟩
  rw [← hW2] at hx k2
  replace hb := hb.keep k2
  replace K0 := K0.trans k2
  have h1 := fun W (k : Keeps w W) => configValid_any (nm := nm) kd M W (h.keep k).rd
  have h3 := fun W (k : Keeps w W) => cRows_any nm kd wt M W (hT.keep k) (h.keep k) hn hbig
  have h4 := fun A C (m : List It) W (k : Keeps W2 W) (k2 : Keeps w W) hm => equalFuncI_any al cl l A C m W 62 #[.pointer (some ⟨w.heap.size + 1, 0, none⟩)] (chkI wt) (hl.keep k2) hm (enters_of Tryz.func62 (by kernel_rfl) rfl) (fun W' x y k' => chkPred wt (w.heap.size + 1) x y W' ((k.trans k').cell hx))
  unfold chkS
  generalize cvS kd M R Q F = er at *
  obtain ⟨ps, hps⟩ : ∃ p, p = rowsP wt (byz27 kd M F) R Q := ⟨_, rfl⟩
  have h4' := fun A C W (k : Keeps W2 W) (k2 : Keeps w W) hm => h4 A C ps W k k2 hm
  simp only [← hps] at h3 ⊢
  generalize (l.length == ps.length && all2 (chkI wt) l ps) = q at *
  generalize R.length = nr at *
  generalize Q.length = nq at *
  generalize F.length = nf at *
  have H1 := Lib.hid h1; have H3 := Lib.hid h3; have H4 := Lib.hid h4'
  have HFA := Lib.hid (fun (W : World) (k : Keeps W2 W) => And.intro (hb.keep k).conj (k.cell hx))
  obtain ⟨c0, c1, c2, c3, c4, c5⟩ := hb.conj
  clear h1 h3 h4 h4' h hl hps hT hb hx
  have hcs : er = 0 ∨ er ≠ 0 ∧ (er != 0) = true ∧ (er == 0) = false := by
    by_cases hz : er = 0
    · exact .inl hz
    · exact .inr ⟨hz, by simpa using hz, by simpa using hz⟩
  rcases hcs with rfl | ⟨_, hb1, hb2⟩
  · rw [beq_self_eq_true, Bool.true_and]
    go_enter Tryz.func18, Tryz.ntmps18
    go_wp2_with fail
    rw [← hW1, ← hW2]
    clear hW1 hW2 hsz k2 c0 c1 c2 c3 c4 c5
    refine (H1.out _ K0).mono ?_
    rintro e w3 ⟨rfl, J⟩
    obtain ⟨⟨c0, c1, c2, c3, c4, c5⟩, hx⟩ := HFA.out _ J
    go_wp2_with fail
    clear c0 c1 c2 c3 c4 c5 hx
    refine (H3.out _ (K0.trans J)).mono ?_
    rintro e w4 ⟨v4, rfl, hO⟩
    obtain ⟨a4, cc4, rfl, hR⟩ := hO.rd
    replace J := Keeps.trans J hO.2
    have hcall := H4.out _ _ _ J (K0.trans J) hR
    have HC := Lib.hid hcall
    clear hcall hR hO H1 H3 H4 HFA
    go_wp2_with fail
    refine HC.out.mono ?_
    rintro e w6 ⟨rfl, K6⟩
    go_wp2_with fail
    go_ret
    exact ⟨rfl, (K0.trans J).trans K6⟩
  · rw [hb2, Bool.false_and]
    go_enter Tryz.func18, Tryz.ntmps18
    go_wp2_with fail
    rw [← hW1, ← hW2]
    clear hW1 hW2 hsz k2
    refine (H1.out _ K0).mono ?_
    rintro e w3 ⟨rfl, K1⟩
    go_wp2_with fail
    go_ret
    exact ⟨rfl, K0.trans K1⟩
end Go.Proofs.YtijknodekomdfaaGreatDoor
namespace Go.Proofs.YtijknodekomdfaaGreatDoor
open Go.RowKit Go.Lib Go.Shelf

theorem isc_split (kd : Int) (wt M : S) (R Q : List S) (F : List F2) (x0 : Int) (x1 x2 x3 : S) : iscS kd wt M R Q F (x0, x1, x2, x3) =
    (cvS kd M R Q F == 0 && ((byz27 kd M F).contains x3 && (Q.contains x2 &&
    (if x0 = 1 then R.contains x1 && (x1 &&& x2 &&& ~~~x3 &&& ~~~wt == 0#16) else if x0 = 2 then Q.contains x1 && (x3 != 0#16 && (x1 &&& x2 &&& ~~~x3 == 0#16)) else false)))) := rfl
set_option maxRecDepth 20000 in
set_option maxHeartbeats 4000000 in
theorem cIs_any {nm : ByteArray} [NmOk nm] (kd x0 : Int) (wt M x1 x2 x3 : S) {ar : Option Addr} {cr : Nat} {R : List S} {aw : Option Addr} {cw : Nat} {Q : List S} {af : Option Addr} {cf : Nat} {F : List F2} (w : World) (h : RdC w ar cr R aw cw Q af cf F) (hn : F.length ≤ 1000000) :
    Calls Tryz.prog 26 #[.agg #[.string nm, .int .i64 kd, .int .u16 (sv M), .slice ar R.length cr, .slice aw Q.length cw, .slice af F.length cf], .int .u16 (sv wt), .agg #[.int .i64 x0, .int .u16 (sv x1), .int .u16 (sv x2), .int .u16 (sv x3)]] w fun e w' => e = .returned (.bool (iscS kd wt M R Q F (x0, x1, x2, x3))) ∧ Keeps w w' := by
  have K0 := (Keeps.refl w).alloc (.cells #[.string nm, .int .i64 kd, .int .u16 (sv M), .slice ar R.length cr, .slice aw Q.length cw, .slice af F.length cf] 36)
  have hb := BoxC.new w 36 nm kd M ar R.length cr aw Q.length cw af F.length cf
  obtain ⟨W1, hW1⟩ : ∃ W0, W0 = w.alloc (.cells #[.string nm, .int .i64 kd, .int .u16 (sv M), .slice ar R.length cr, .slice aw Q.length cw, .slice af F.length cf] 36) := ⟨_, rfl⟩
  rw [← hW1] at hb K0
  have hsz : W1.heap.size = w.heap.size + 1 := by rw [hW1, World.size_alloc]
  have k2 := (Keeps.refl W1).alloc (.cells #[.int .i64 x0, .int .u16 (sv x1), .int .u16 (sv x2), .int .u16 (sv x3)] 61)
  have hx : ClBox (W1.alloc (.cells #[.int .i64 x0, .int .u16 (sv x1), .int .u16 (sv x2), .int .u16 (sv x3)] 61)) (w.heap.size + 1) (x0, x1, x2, x3) := by rw [← hsz]; exact World.alloc_heap_new W1 _
  obtain ⟨W2, hW2⟩ : ∃ W2, W2 = W1.alloc (.cells #[.int .i64 x0, .int .u16 (sv x1), .int .u16 (sv x2), .int .u16 (sv x3)] 61) := ⟨_, rfl⟩
  rw [← hW2] at hx k2
  replace hb := hb.keep k2
  replace K0 := K0.trans k2
  have h1 := fun W (k : Keeps w W) => configValid_any (nm := nm) kd M W (h.keep k)
  have h2 := fun W (k : Keeps w W) => cByz_any nm kd M (ar := ar) (cr := cr) (R := R) (aw := aw) (cw := cw) (Q := Q) W ((h.keep k).f) hn
  have h3 := fun A N C W s (hz : Rd W A N C 1 (sl (byz27 kd M F))) => contains_s_any A N C (byz27 kd M F) s W hz
  have h4 := fun W s (k : Keeps w W) => contains_s_any aw Q.length cw Q s W ((h.keep k).q)
  have h5 := fun W s (k : Keeps w W) => contains_s_any ar R.length cr R s W ((h.keep k).r)
  rw [isc_split]
  generalize cvS kd M R Q F = er at *
  generalize byz27 kd M F = byz at *
  generalize R.length = nr at *
  generalize Q.length = nq at *
  generalize F.length = nf at *
  have H1 := Lib.hid h1; have H2 := Lib.hid h2; have H3 := Lib.hid h3; have H4 := Lib.hid h4; have H5 := Lib.hid h5; have HB := Lib.hid hb; have HX := Lib.hid hx
  have HFA := Lib.hid (fun (W : World) (k : Keeps W2 W) => And.intro (hb.keep k).conj (hx.keep k).cells)
  clear h1 h2 h3 h4 h5 h
  have hcs : er = 0 ∨ er ≠ 0 ∧ (er != 0) = true ∧ (er == 0) = false := by
    by_cases hz : er = 0
    · exact .inl hz
    · exact .inr ⟨hz, by simpa using hz, by simpa using hz⟩
  rcases hcs with rfl | ⟨_, hb1, hb2⟩
  rotate_left
  · rw [hb2, Bool.false_and]
    have hv := fun d os => Calls.regrown_of (H1.out (Sort.grow (redrawn W2 d) os) (K0.trans (grow_keeps d os)))
    have HV := Lib.hid hv
    have d0 := cell_regrown HB.out.c0; have d1 := cell_regrown HB.out.c1; have d2 := cell_regrown HB.out.c2; have d3 := cell_regrown HB.out.c3; have d4 := cell_regrown HB.out.c4; have d5 := cell_regrown HB.out.c5
    clear hv hb hx HB HX HFA H2 H3 H4 H5
    go_enter Tryz.func26, Tryz.ntmps26
    go_wp2_with fail
    rw [← hW1, ← hW2]
    clear hW1 hW2 hsz k2
    refine wp_region_quiet_below (by kernel_rfl) (by kernel_rfl) ?_
    repeat (first | go_big_quiet_step (exact HV.out _ _) | quiet_step (exact HV.out _ _))
    refine wpQuiet_nil ?_
    intro _ hw'
    obtain ⟨⟨dq, osq⟩, hw''⟩ := hw'
    subst hw''
    have KF := K0.trans (grow_keeps dq osq)
    clear d0 d1 d2 d3 d4 d5
    generalize Sort.grow (redrawn W2 dq) osq = wz at *
    go_wp2_with fail
    go_ret
    exact ⟨rfl, KF⟩
  · rw [beq_self_eq_true, Bool.true_and]
    clear hb hx HB HX
    have J := Keeps.refl W2
    cases q1 : byz.contains x3
    · rw [Bool.false_and]
      have hc3 := fun A N C W hz => H3.out A N C W x3 hz
      rw [q1] at hc3
      have HC3 := Lib.hid hc3; have HC4 := Lib.hid (fun W k => H4.out W x2 k)
      clear hc3 H3 H4 H5 q1
      go_enter Tryz.func26, Tryz.ntmps26
      go_wp2_with fail
      rw [← hW1, ← hW2]
      clear hW1 hW2 hsz k2
      refine wp_region_held_drew (S := (fun w' => (w'.cell? ⟨w.heap.size, 0, none⟩ = some (.string nm) ∧ w'.cell? ⟨w.heap.size, 1, none⟩ = some (.int .i64 kd) ∧ w'.cell? ⟨w.heap.size, 2, none⟩ = some (.int .u16 (sv M)) ∧ w'.cell? ⟨w.heap.size, 3, none⟩ = some (.slice ar nr cr) ∧ w'.cell? ⟨w.heap.size, 4, none⟩ = some (.slice aw nq cw) ∧ w'.cell? ⟨w.heap.size, 5, none⟩ = some (.slice af nf cf)) ∧ (w'.cell? ⟨w.heap.size + 1, 0, none⟩ = some (.int .i64 x0) ∧ w'.cell? ⟨w.heap.size + 1, 1, none⟩ = some (.int .u16 (sv x1)) ∧ w'.cell? ⟨w.heap.size + 1, 2, none⟩ = some (.int .u16 (sv x2)) ∧ w'.cell? ⟨w.heap.size + 1, 3, none⟩ = some (.int .u16 (sv x3))))) (by kernel_rfl) ?_ (fun hHeld => ?_)
      · exact HFA.out _ J.drew
      refine wpAnyH_take (i := 0) (oi := ⟨_, _, _, _, _, _⟩) (v := ?_) rfl (by kernel_rfl) (by kernel_rfl) (by kernel_rfl) (fun _ _ _ h => h) (Or.inl ⟨by rfl, ?_⟩) (by assumption) ?_
      rotate_left 1
      · intro w hSw; (try dsimp only at hSw); go_simp <;> with_reducible rfl
      (try simp only [Act.put]); (try simp only [List.setIfInBounds_toArray]); (try simp only [List.set_cons_succ]); (try simp only [List.set_cons_zero])
      refine wpAnyH_ready (rs := [1]) (by kernel_rfl) (by simp) ?_
      refine AllReadyH.cons (o := ⟨_, _, _, _, _, _⟩) rfl (fun K hK => ?_) AllReadyH.nil
      go_simp
      refine (H1.out _ (K0.trans J.drew)).mono ?_; rintro e W6 ⟨rfl, K6⟩; replace J := Keeps.trans J.drew K6
      try go_wp2_with fail
      refine hK.out _ _ ?_ (fun hHeld => ?_)
      · exact HFA.out _ J
      clear hK K
      (try simp only [Act.put]); (try simp only [List.setIfInBounds_toArray]); (try simp only [List.set_cons_succ]); (try simp only [List.set_cons_zero])
      refine wpAnyH_take (i := 2) (oi := ⟨_, _, _, _, _, _⟩) (v := ?_) rfl (by kernel_rfl) (by kernel_rfl) (by kernel_rfl) (fun _ _ _ h => h) (Or.inl ⟨by rfl, ?_⟩) (by assumption) ?_
      rotate_left 1
      · intro w hSw; (try dsimp only at hSw); go_simp <;> with_reducible rfl
      (try simp only [Act.put]); (try simp only [List.setIfInBounds_toArray]); (try simp only [List.set_cons_succ]); (try simp only [List.set_cons_zero])
      refine wpAnyH_take (i := 3) (oi := ⟨_, _, _, _, _, _⟩) (v := ?_) rfl (by kernel_rfl) (by kernel_rfl) (by kernel_rfl) (fun _ _ _ h => h) (Or.inl ⟨by rfl, ?_⟩) (by assumption) ?_
      rotate_left 1
      · intro w hSw; (try dsimp only at hSw); go_simp <;> with_reducible rfl
      (try simp only [Act.put]); (try simp only [List.setIfInBounds_toArray]); (try simp only [List.set_cons_succ]); (try simp only [List.set_cons_zero])
      refine wpAnyH_take (i := 4) (oi := ⟨_, _, _, _, _, _⟩) (v := ?_) rfl (by kernel_rfl) (by kernel_rfl) (by kernel_rfl) (fun _ _ _ h => h) (Or.inl ⟨by rfl, ?_⟩) (by assumption) ?_
      rotate_left 1
      · intro w hSw; (try dsimp only at hSw); go_simp <;> with_reducible rfl
      (try simp only [Act.put]); (try simp only [List.setIfInBounds_toArray]); (try simp only [List.set_cons_succ]); (try simp only [List.set_cons_zero])
      refine wpAnyH_take (i := 6) (oi := ⟨_, _, _, _, _, _⟩) (v := ?_) rfl (by kernel_rfl) (by kernel_rfl) (by kernel_rfl) (fun _ _ _ h => h) (Or.inl ⟨by rfl, ?_⟩) (by assumption) ?_
      rotate_left 1
      · intro w hSw; (try dsimp only at hSw); go_simp <;> with_reducible rfl
      (try simp only [Act.put]); (try simp only [List.setIfInBounds_toArray]); (try simp only [List.set_cons_succ]); (try simp only [List.set_cons_zero])
      refine wpAnyH_take (i := 7) (oi := ⟨_, _, _, _, _, _⟩) (v := ?_) rfl (by kernel_rfl) (by kernel_rfl) (by kernel_rfl) (fun _ _ _ h => h) (Or.inl ⟨by rfl, ?_⟩) (by assumption) ?_
      rotate_left 1
      · intro w hSw; (try dsimp only at hSw); go_simp <;> with_reducible rfl
      (try simp only [Act.put]); (try simp only [List.setIfInBounds_toArray]); (try simp only [List.set_cons_succ]); (try simp only [List.set_cons_zero])
      refine wpAnyH_ready (rs := [5]) (by kernel_rfl) (by simp) ?_
      refine AllReadyH.cons (o := ⟨_, _, _, _, _, _⟩) rfl (fun K hK => ?_) AllReadyH.nil
      go_simp
      refine (H2.out _ (K0.trans J)).mono ?_; rintro e W7 ⟨v7, rfl, hO7⟩; obtain ⟨a7, c7, rfl, hR7⟩ := hO7.rd; replace J := Keeps.trans J hO7.2
      try go_wp2_with fail
      refine hK.out _ _ ?_ (fun hHeld => ?_)
      · exact HFA.out _ J
      clear hK K
      (try simp only [Act.put]); (try simp only [List.setIfInBounds_toArray]); (try simp only [List.set_cons_succ]); (try simp only [List.set_cons_zero])
      refine wpAnyH_ready (rs := [8]) (by kernel_rfl) (by simp) ?_
      refine AllReadyH.cons (o := ⟨_, _, _, _, _, _⟩) rfl (fun K hK => ?_) AllReadyH.nil
      go_simp
      refine (HC3.out _ _ _ _ hR7).mono ?_; rintro e W8 ⟨rfl, rfl⟩
      try go_wp2_with fail
      refine hK.out _ _ ?_ (fun hHeld => ?_)
      · exact HFA.out _ J
      clear hK K
      (try simp only [Act.put]); (try simp only [List.setIfInBounds_toArray]); (try simp only [List.set_cons_succ]); (try simp only [List.set_cons_zero])
      refine wpAnyH_ready (rs := [9]) (by kernel_rfl) (by simp) ?_
      refine AllReadyH.cons (o := ⟨_, _, _, _, _, _⟩) rfl (fun K hK => ?_) AllReadyH.nil
      go_simp
      refine hK.out _ _ ?_ (fun hHeld => ?_)
      · exact HFA.out _ J
      clear hK K
      (try simp only [Act.put]); (try simp only [List.setIfInBounds_toArray]); (try simp only [List.set_cons_succ]); (try simp only [List.set_cons_zero])
      refine wpAnyH_take (i := 10) (oi := ⟨_, _, _, _, _, _⟩) (v := ?_) rfl (by kernel_rfl) (by kernel_rfl) (by kernel_rfl) (fun _ _ _ h => h) (Or.inl ⟨by rfl, ?_⟩) (by assumption) ?_
      rotate_left 1
      · intro w hSw; (try dsimp only at hSw); go_simp <;> with_reducible rfl
      (try simp only [Act.put]); (try simp only [List.setIfInBounds_toArray]); (try simp only [List.set_cons_succ]); (try simp only [List.set_cons_zero])
      refine wpAnyH_take (i := 11) (oi := ⟨_, _, _, _, _, _⟩) (v := ?_) rfl (by kernel_rfl) (by kernel_rfl) (by kernel_rfl) (fun _ _ _ h => h) (Or.inl ⟨by rfl, ?_⟩) (by assumption) ?_
      rotate_left 1
      · intro w hSw; (try dsimp only at hSw); go_simp <;> with_reducible rfl
      (try simp only [Act.put]); (try simp only [List.setIfInBounds_toArray]); (try simp only [List.set_cons_succ]); (try simp only [List.set_cons_zero])
      refine wpAnyH_take (i := 12) (oi := ⟨_, _, _, _, _, _⟩) (v := undef) rfl (by kernel_rfl) (by kernel_rfl) (by kernel_rfl) (fun _ _ _ h => h) (Or.inr ⟨by rfl, rfl⟩) (by assumption) ?_
      (try simp only [Act.put]); (try simp only [List.setIfInBounds_toArray]); (try simp only [List.set_cons_succ]); (try simp only [List.set_cons_zero])
      refine wpAnyH_take (i := 13) (oi := ⟨_, _, _, _, _, _⟩) (v := undef) rfl (by kernel_rfl) (by kernel_rfl) (by kernel_rfl) (fun _ _ _ h => h) (Or.inr ⟨by rfl, rfl⟩) (by assumption) ?_
      (try simp only [Act.put]); (try simp only [List.setIfInBounds_toArray]); (try simp only [List.set_cons_succ]); (try simp only [List.set_cons_zero])
      refine wpAnyH_take (i := 14) (oi := ⟨_, _, _, _, _, _⟩) (v := undef) rfl (by kernel_rfl) (by kernel_rfl) (by kernel_rfl) (fun _ _ _ h => h) (Or.inr ⟨by rfl, rfl⟩) (by assumption) ?_
      (try simp only [Act.put]); (try simp only [List.setIfInBounds_toArray]); (try simp only [List.set_cons_succ]); (try simp only [List.set_cons_zero])
      refine wpAnyH_take (i := 15) (oi := ⟨_, _, _, _, _, _⟩) (v := undef) rfl (by kernel_rfl) (by kernel_rfl) (by kernel_rfl) (fun _ _ _ h => h) (Or.inr ⟨by rfl, rfl⟩) (by assumption) ?_
      (try simp only [Act.put]); (try simp only [List.setIfInBounds_toArray]); (try simp only [List.set_cons_succ]); (try simp only [List.set_cons_zero])
      refine wpAnyH_take (i := 16) (oi := ⟨_, _, _, _, _, _⟩) (v := undef) rfl (by kernel_rfl) (by kernel_rfl) (by kernel_rfl) (fun _ _ _ h => h) (Or.inr ⟨by rfl, rfl⟩) (by assumption) ?_
      (try simp only [Act.put]); (try simp only [List.setIfInBounds_toArray]); (try simp only [List.set_cons_succ]); (try simp only [List.set_cons_zero])
      refine wpAnyH_take (i := 17) (oi := ⟨_, _, _, _, _, _⟩) (v := undef) rfl (by kernel_rfl) (by kernel_rfl) (by kernel_rfl) (fun _ _ _ h => h) (Or.inr ⟨by rfl, rfl⟩) (by assumption) ?_
      (try simp only [Act.put]); (try simp only [List.setIfInBounds_toArray]); (try simp only [List.set_cons_succ]); (try simp only [List.set_cons_zero])
      refine wpAnyH_take (i := 18) (oi := ⟨_, _, _, _, _, _⟩) (v := ?_) rfl (by kernel_rfl) (by kernel_rfl) (by kernel_rfl) (fun _ _ _ h => h) (Or.inl ⟨by rfl, ?_⟩) (by assumption) ?_
      rotate_left 1
      · intro w hSw; (try dsimp only at hSw); go_simp <;> with_reducible rfl
      (try simp only [Act.put]); (try simp only [List.setIfInBounds_toArray]); (try simp only [List.set_cons_succ]); (try simp only [List.set_cons_zero])
      refine wpAnyH_done (by kernel_rfl) ?_ _
      all_goals go_wp2_with fail
      all_goals go_ret
      all_goals exact ⟨rfl, K0.trans J⟩
    · rw [Bool.true_and]
      cases q2 : Q.contains x2
      · rw [Bool.false_and]
        have hc3 := fun A N C W hz => H3.out A N C W x3 hz
        have hc4 := fun W k => H4.out W x2 k
        rw [q1] at hc3
        rw [q2] at hc4
        have HC3 := Lib.hid hc3; have HC4 := Lib.hid hc4
        clear hc3 hc4 H3 H4 H5 q1 q2
        go_enter Tryz.func26, Tryz.ntmps26
        go_wp2_with fail
        rw [← hW1, ← hW2]
        clear hW1 hW2 hsz k2
        go_region_held3 (fun w' => (w'.cell? ⟨w.heap.size, 0, none⟩ = some (.string nm) ∧ w'.cell? ⟨w.heap.size, 1, none⟩ = some (.int .i64 kd) ∧ w'.cell? ⟨w.heap.size, 2, none⟩ = some (.int .u16 (sv M)) ∧ w'.cell? ⟨w.heap.size, 3, none⟩ = some (.slice ar nr cr) ∧ w'.cell? ⟨w.heap.size, 4, none⟩ = some (.slice aw nq cw) ∧ w'.cell? ⟨w.heap.size, 5, none⟩ = some (.slice af nf cf)) ∧ (w'.cell? ⟨w.heap.size + 1, 0, none⟩ = some (.int .i64 x0) ∧ w'.cell? ⟨w.heap.size + 1, 1, none⟩ = some (.int .u16 (sv x1)) ∧ w'.cell? ⟨w.heap.size + 1, 2, none⟩ = some (.int .u16 (sv x2)) ∧ w'.cell? ⟨w.heap.size + 1, 3, none⟩ = some (.int .u16 (sv x3)))) (first | with_reducible exact HFA.out _ J.drew | with_reducible exact HFA.out _ J | go_keep) ((first | (go_at_call 13; refine (H1.out _ (K0.trans J.drew)).mono ?_; rintro e W6 ⟨rfl, K6⟩; replace J := Keeps.trans J.drew K6) | (go_at_call 50; refine (H2.out _ (K0.trans J)).mono ?_; rintro e W7 ⟨v7, rfl, hO7⟩; obtain ⟨a7, c7, rfl, hR7⟩ := hO7.rd; replace J := Keeps.trans J hO7.2) | (go_at_call 78; first | (refine (HC3.out _ _ _ _ hR7).mono ?_; rintro e W8 ⟨rfl, rfl⟩) | (refine (HC4.out _ (K0.trans J)).mono ?_; rintro e W9 ⟨rfl, rfl⟩))))
        all_goals go_wp2_with fail
        all_goals go_ret
        all_goals exact ⟨rfl, K0.trans J⟩
      · rw [Bool.true_and]
        have hc3 := fun A N C W hz => H3.out A N C W x3 hz
        have hc4 := fun W k => H4.out W x2 k
        rw [q1] at hc3
        rw [q2] at hc4
        have HC3 := Lib.hid hc3; have HC4 := Lib.hid hc4
        clear hc3 hc4 H3 q1 q2
        have hR5 := fun W k => H5.out W x1 k
        have hQ5 := fun W k => H4.out W x1 k
        clear H4 H5
        by_cases e1 : x0 = 1
        · rw [if_pos e1]
          have e1b : (x0 == 1) = true := by simpa using e1
          clear e1
          generalize R.contains x1 = q3 at *
          have HR5 := Lib.hid hR5
          clear hR5 hQ5
          cases q3
          all_goals
            first | rw [Bool.true_and] | rw [Bool.false_and]
            go_enter Tryz.func26, Tryz.ntmps26
            go_wp2_with fail
            rw [← hW1, ← hW2]
            clear hW1 hW2 hsz k2
            go_region_held3 (fun w' => (w'.cell? ⟨w.heap.size, 0, none⟩ = some (.string nm) ∧ w'.cell? ⟨w.heap.size, 1, none⟩ = some (.int .i64 kd) ∧ w'.cell? ⟨w.heap.size, 2, none⟩ = some (.int .u16 (sv M)) ∧ w'.cell? ⟨w.heap.size, 3, none⟩ = some (.slice ar nr cr) ∧ w'.cell? ⟨w.heap.size, 4, none⟩ = some (.slice aw nq cw) ∧ w'.cell? ⟨w.heap.size, 5, none⟩ = some (.slice af nf cf)) ∧ (w'.cell? ⟨w.heap.size + 1, 0, none⟩ = some (.int .i64 x0) ∧ w'.cell? ⟨w.heap.size + 1, 1, none⟩ = some (.int .u16 (sv x1)) ∧ w'.cell? ⟨w.heap.size + 1, 2, none⟩ = some (.int .u16 (sv x2)) ∧ w'.cell? ⟨w.heap.size + 1, 3, none⟩ = some (.int .u16 (sv x3)))) (first | with_reducible exact HFA.out _ J.drew | with_reducible exact HFA.out _ J | go_keep) ((first | (go_at_call 13; refine (H1.out _ (K0.trans J.drew)).mono ?_; rintro e W6 ⟨rfl, K6⟩; replace J := Keeps.trans J.drew K6) | (go_at_call 50; refine (H2.out _ (K0.trans J)).mono ?_; rintro e W7 ⟨v7, rfl, hO7⟩; obtain ⟨a7, c7, rfl, hR7⟩ := hO7.rd; replace J := Keeps.trans J hO7.2) | (go_at_call 78; first | (refine (HC3.out _ _ _ _ hR7).mono ?_; rintro e W8 ⟨rfl, rfl⟩) | (refine (HC4.out _ (K0.trans J)).mono ?_; rintro e W9 ⟨rfl, rfl⟩))))
          all_goals have hfa := HFA.out _ J
          all_goals obtain ⟨⟨c0, c1, c2, c3, c4, c5⟩, g0, g1, g2, g3⟩ := hfa
          all_goals go_wp2_with fail
          all_goals refine (HR5.out _ (K0.trans J)).mono ?_
          all_goals rintro e W9 ⟨rfl, rfl⟩
          all_goals go_wp2_with fail
          all_goals go_ret
          all_goals exact ⟨rfl, K0.trans J⟩
        · rw [if_neg e1]
          have e1b : (x0 == 1) = false := by simpa using e1
          by_cases e2 : x0 = 2
          · rw [if_pos e2]
            have e2b : (x0 == 2) = true := by simpa using e2
            clear e2
            generalize Q.contains x1 = q3 at *
            have HQ5 := Lib.hid hQ5
            clear hR5 hQ5 e1
            obtain ⟨q4, hq4⟩ : ∃ q, (x3 != 0#16) = q := ⟨_, rfl⟩
            rw [hq4]
            cases q3 <;> cases q4
            all_goals simp only [Bool.true_and, Bool.false_and]
            all_goals
              go_enter Tryz.func26, Tryz.ntmps26
              go_wp2_with fail
              rw [← hW1, ← hW2]
              clear hW1 hW2 hsz k2
              go_region_held3 (fun w' => (w'.cell? ⟨w.heap.size, 0, none⟩ = some (.string nm) ∧ w'.cell? ⟨w.heap.size, 1, none⟩ = some (.int .i64 kd) ∧ w'.cell? ⟨w.heap.size, 2, none⟩ = some (.int .u16 (sv M)) ∧ w'.cell? ⟨w.heap.size, 3, none⟩ = some (.slice ar nr cr) ∧ w'.cell? ⟨w.heap.size, 4, none⟩ = some (.slice aw nq cw) ∧ w'.cell? ⟨w.heap.size, 5, none⟩ = some (.slice af nf cf)) ∧ (w'.cell? ⟨w.heap.size + 1, 0, none⟩ = some (.int .i64 x0) ∧ w'.cell? ⟨w.heap.size + 1, 1, none⟩ = some (.int .u16 (sv x1)) ∧ w'.cell? ⟨w.heap.size + 1, 2, none⟩ = some (.int .u16 (sv x2)) ∧ w'.cell? ⟨w.heap.size + 1, 3, none⟩ = some (.int .u16 (sv x3)))) (first | with_reducible exact HFA.out _ J.drew | with_reducible exact HFA.out _ J | go_keep) ((first | (go_at_call 13; refine (H1.out _ (K0.trans J.drew)).mono ?_; rintro e W6 ⟨rfl, K6⟩; replace J := Keeps.trans J.drew K6) | (go_at_call 50; refine (H2.out _ (K0.trans J)).mono ?_; rintro e W7 ⟨v7, rfl, hO7⟩; obtain ⟨a7, c7, rfl, hR7⟩ := hO7.rd; replace J := Keeps.trans J hO7.2) | (go_at_call 78; first | (refine (HC3.out _ _ _ _ hR7).mono ?_; rintro e W8 ⟨rfl, rfl⟩) | (refine (HC4.out _ (K0.trans J)).mono ?_; rintro e W9 ⟨rfl, rfl⟩))))
            all_goals have hfa := HFA.out _ J
            all_goals obtain ⟨⟨c0, c1, c2, c3, c4, c5⟩, g0, g1, g2, g3⟩ := hfa
            all_goals go_wp2_with fail
            all_goals refine (HQ5.out _ (K0.trans J)).mono ?_
            all_goals rintro e W9 ⟨rfl, rfl⟩
            all_goals go_wp2_with fail
            all_goals go_ret
            all_goals exact ⟨rfl, K0.trans J⟩
          · rw [if_neg e2]
            have e2b : (x0 == 2) = false := by simpa using e2
            clear hR5 hQ5 e1 e2
            go_enter Tryz.func26, Tryz.ntmps26
            go_wp2_with fail
            rw [← hW1, ← hW2]
            clear hW1 hW2 hsz k2
            go_region_held3 (fun w' => (w'.cell? ⟨w.heap.size, 0, none⟩ = some (.string nm) ∧ w'.cell? ⟨w.heap.size, 1, none⟩ = some (.int .i64 kd) ∧ w'.cell? ⟨w.heap.size, 2, none⟩ = some (.int .u16 (sv M)) ∧ w'.cell? ⟨w.heap.size, 3, none⟩ = some (.slice ar nr cr) ∧ w'.cell? ⟨w.heap.size, 4, none⟩ = some (.slice aw nq cw) ∧ w'.cell? ⟨w.heap.size, 5, none⟩ = some (.slice af nf cf)) ∧ (w'.cell? ⟨w.heap.size + 1, 0, none⟩ = some (.int .i64 x0) ∧ w'.cell? ⟨w.heap.size + 1, 1, none⟩ = some (.int .u16 (sv x1)) ∧ w'.cell? ⟨w.heap.size + 1, 2, none⟩ = some (.int .u16 (sv x2)) ∧ w'.cell? ⟨w.heap.size + 1, 3, none⟩ = some (.int .u16 (sv x3)))) (first | with_reducible exact HFA.out _ J.drew | with_reducible exact HFA.out _ J | go_keep) ((first | (go_at_call 13; refine (H1.out _ (K0.trans J.drew)).mono ?_; rintro e W6 ⟨rfl, K6⟩; replace J := Keeps.trans J.drew K6) | (go_at_call 50; refine (H2.out _ (K0.trans J)).mono ?_; rintro e W7 ⟨v7, rfl, hO7⟩; obtain ⟨a7, c7, rfl, hR7⟩ := hO7.rd; replace J := Keeps.trans J hO7.2) | (go_at_call 78; first | (refine (HC3.out _ _ _ _ hR7).mono ?_; rintro e W8 ⟨rfl, rfl⟩) | (refine (HC4.out _ (K0.trans J)).mono ?_; rintro e W9 ⟨rfl, rfl⟩))))
            all_goals have hfa := HFA.out _ J
            all_goals obtain ⟨⟨c0, c1, c2, c3, c4, c5⟩, g0, g1, g2, g3⟩ := hfa
            all_goals go_wp2_with fail
            all_goals go_ret
            all_goals exact ⟨rfl, K0.trans J⟩
end Go.Proofs.YtijknodekomdfaaGreatDoor
