/- Texts joined into one, what is needed of them (a program of ours). -/
import Derived.Test.YtijknodekomdfaaGreatDoorCKYb
import Derived.Test.YtijknodekomdfaaGreatDoorCKYa
namespace Go.Proofs.YtijknodekomdfaaGreatDoor
open Go.RowKit Go.Lib Go.Shelf

/-- a write into a block that may change -/
theorem KpX.set {bad : Nat → Obj → Prop} {W : World} {B : Nat} {T : TypeId} {cs : Array Value} (hB : Blk W B T cs) (hb : bad B (.cells cs T)) (i : Nat) (u : Value) : KpX bad W (W.setCell ⟨B, i, none⟩ u) :=
  ⟨rfl, rfl, rfl, by simp [World.setCell], fun k o hk hn => by
    by_cases h : k = B
    · subst h; rw [show W.heap[k]? = some (.cells cs T) from hB] at hk; cases hk; exact absurd hb hn
    · rw [Below.heap_setCell _ _ _ _ (by simpa using h)]; exact hk⟩
def badCl (B E : Nat) (k : Nat) (o : Obj) : Prop := (k = B ∧ ∃ cs, o = .cells cs 61) ∨ (k = E ∧ ∃ cs, o = .cells cs 27)
/-- what the two variables hold after some items -/
def clSt (l : List It) : CL × Int := match l.find? negI with | some x => (clI x, 0) | none => (cl0, 13)
def clInv (B E : Nat) (l : List It) (W : World) : Prop :=
  Blk W B 61 #[.int .i64 (clSt l).1.1, .int .u16 (sv (clSt l).1.2.1), .int .u16 (sv (clSt l).1.2.2.1), .int .u16 (sv (clSt l).1.2.2.2)] ∧ Blk W E 27 #[.int .i64 (clSt l).2]
theorem clSt_all {l : List It} (h : l.all (fun x => !negI x) = true) : clSt l = (cl0, 13) := by
  unfold clSt
  rw [show l.find? negI = none from List.find?_eq_none.2 fun x hx => by have := List.all_eq_true.1 h x hx; simpa using this]
theorem clSt_snoc {l : List It} (h : l.all (fun x => !negI x) = true) (x : It) : clSt (l ++ [x]) = if negI x = true then (clI x, 0) else (cl0, 13) := by
  have hl : l.find? negI = none := List.find?_eq_none.2 fun x hx => by have := List.all_eq_true.1 h x hx; simpa using this
  unfold clSt
  rw [List.find?_append, hl, Option.none_or]
  cases hx : negI x <;> simp [hx]
set_option maxHeartbeats 2000000 in
theorem clStep (B E : Nat) (hBE : B ≠ E) (l : List It) (x : It) (W : World) (h : l.all (fun x => !negI x) = true) (hI : clInv B E l W) :
    Calls Tryz.prog 77 (argsI x ++ #[.pointer (some ⟨B, 0, none⟩), .pointer (some ⟨E, 0, none⟩)]) W fun e w' => e = .returned (.bool (!negI x)) ∧ clInv B E (l ++ [x]) w' ∧ KpX (badCl B E) W w' := by
  have h2 := clSt_snoc h x
  obtain ⟨hb, he⟩ := hI
  unfold clInv
  rw [h2]
  clear h2
  rw [clSt_all h] at hb he
  obtain ⟨r, a, b, z, s⟩ := x
  unfold argsI negI
  show Calls _ _ #[.int .i64 r, .int .u16 (sv a), .int .u16 (sv b), .int .u16 (sv z), .int .i64 s, .pointer (some ⟨B, 0, none⟩), .pointer (some ⟨E, 0, none⟩)] W _
  dsimp only [cl0] at hb he
  by_cases hs : s < 0
  · have hsb : decide (s < 0) = true := by simpa using hs
    have hge : decide (0 ≤ s) = false := by simp; omega
    have f0 := hb.frozen 0; have f1 := hb.frozen 1; have f2 := hb.frozen 2; have f3 := hb.frozen 3; have g0 := he.frozen 0
    have c0 := hb.cell 0 rfl; have c1 := hb.cell 1 rfl; have c2 := hb.cell 2 rfl; have c3 := hb.cell 3 rfl; have d0 := he.cell 0 rfl
    have HB := Lib.hid hb; have HE := Lib.hid he; have HH := Lib.hid hBE
    have e4 := (((HE.out.setOther (Ne.symm HH.out) 0 (.int .i64 r)).setOther (Ne.symm HH.out) 1 (.int .u16 (sv a))).setOther (Ne.symm HH.out) 2 (.int .u16 (sv b))).setOther (Ne.symm HH.out) 3 (.int .u16 (sv z))
    have g4 := e4.frozen 0; have d4 := e4.cell 0 rfl
    have HE4 := Lib.hid e4
    clear e4
    simp only [hsb, if_true, Bool.not_true]
    clear hb he hBE h
    go_enter Tryz.func77, Tryz.ntmps77
    go_wp2_with fail
    go_ret
    have b1 := (HB.out.set 0 (.int .i64 r)); have b2 := b1.set 1 (.int .u16 (sv a)); have b3 := b2.set 2 (.int .u16 (sv b)); have b4 := b3.set 3 (.int .u16 (sv z))
    have kb : ∀ cs, badCl B E B (.cells cs 61) := fun cs => Or.inl ⟨rfl, cs, rfl⟩
    exact ⟨rfl, ⟨b4.setOther HH.out _ _, HE4.out.set 0 _⟩, ((((KpX.set HB.out (kb _) _ _).trans (KpX.set b1 (kb _) _ _)).trans (KpX.set b2 (kb _) _ _)).trans (KpX.set b3 (kb _) _ _)).trans (KpX.set HE4.out (Or.inr ⟨rfl, _, rfl⟩) _ _)⟩
  · have hsb : decide (s < 0) = false := by simpa using hs
    have hge : decide (0 ≤ s) = true := by simp; omega
    simp only [hsb, Bool.false_eq_true, if_false, Bool.not_false]
    go_enter Tryz.func77, Tryz.ntmps77
    go_wp2_with fail
    go_ret
    exact ⟨rfl, ⟨hb, he⟩, KpX.refl _ _⟩
end Go.Proofs.YtijknodekomdfaaGreatDoor
namespace Go.Proofs.YtijknodekomdfaaGreatDoor
open Go.RowKit Go.Lib Go.Shelf

theorem cB1 {w : World} {B : Nat} {T : TypeId} {v0 : Value} (h : Blk w B T #[v0]) : w.cell? ⟨B, 0, none⟩ = some v0 := h.cell 0 rfl
theorem clSt_upTo (l : List It) : clSt (upTo (fun x => !negI x) l) = clSt l := by
  induction l with
  | nil => rfl
  | cons x xs ih =>
    unfold upTo
    unfold clSt at ih ⊢
    cases hx : negI x
    · simp only [Bool.not_false, if_true, List.find?_cons, hx]; exact ih
    · simp [hx]
set_option maxRecDepth 20000 in
set_option maxHeartbeats 4000000 in
theorem cClash_any {nm : ByteArray} [NmOk nm] (kd : Int) (wt M : S) {ar : Option Addr} {cr : Nat} {R : List S} {aw : Option Addr} {cw : Nat} {Q : List S} {af : Option Addr} {cf : Nat} {F : List F2} (w : World) (hT : Tab w) (h : RowC w ar cr R aw cw Q af cf F) (hn : F.length ≤ 1000000) :
    Calls Tryz.prog 25 #[.agg #[.string nm, .int .i64 kd, .int .u16 (sv M), .slice ar R.length cr, .slice aw Q.length cw, .slice af F.length cf], .int .u16 (sv wt)] w fun e w' => RetCE (clash27 kd wt M R Q F) e ∧ Keeps w w' := by
  have e0 : clash27 kd wt M R Q F = if cvS kd M R Q F ≠ 0 then (cl0, cvS kd M R Q F) else clSt (upTo (fun x => !negI x) (allL wt (byz27 kd M F) R Q)) := by
    rw [clSt_upTo]
    unfold clash27 clSt
    rw [first_eq, ← all_first]
    cases (allL wt (byz27 kd M F) R Q).find? negI <;> rfl
  have K0 := (Keeps.refl w).alloc (.cells #[.string nm, .int .i64 kd, .int .u16 (sv M), .slice ar R.length cr, .slice aw Q.length cw, .slice af F.length cf] 36)
  have hb := BoxC.new w 36 nm kd M ar R.length cr aw Q.length cw af F.length cf
  obtain ⟨W1, hW1⟩ : ∃ W0, W0 = w.alloc (.cells #[.string nm, .int .i64 kd, .int .u16 (sv M), .slice ar R.length cr, .slice aw Q.length cw, .slice af F.length cf] 36) := ⟨_, rfl⟩
  rw [← hW1] at hb K0
  have hsz : W1.heap.size = w.heap.size + 1 := by rw [hW1, World.size_alloc]
  have k2 := (Keeps.refl W1).alloc (.cells #[.int .i64 0, .int .u16 0, .int .u16 0, .int .u16 0] 61)
  have hx : ClBox (W1.alloc (.cells #[.int .i64 0, .int .u16 0, .int .u16 0, .int .u16 0] 61)) (w.heap.size + 1) cl0 := by rw [← hsz]; exact World.alloc_heap_new W1 _
  obtain ⟨W2, hW2⟩ : ∃ W2, W2 = W1.alloc (.cells #[.int .i64 0, .int .u16 0, .int .u16 0, .int .u16 0] 61) := ⟨_, rfl⟩
  rw [← hW2] at hx k2
  replace hb := hb.keep k2
  replace K0 := K0.trans k2
  have h1 := fun W (k : Keeps w W) => configValid_any (nm := nm) kd M W (h.keep k).rd
  have eg : ∀ args w, (callFunc 77 args).run Tryz.prog w = .ok (.enter 77 args) w := enters_of Tryz.func77 (by kernel_rfl) rfl
  have h2 := fun W (k : Keeps w W) (B E : Nat) (hBE : B ≠ E) (hBT : B ≠ 0) (hET : E ≠ 0) (hI : clInv B E [] W) =>
    all_any nm kd M wt 77 #[.pointer (some ⟨B, 0, none⟩), .pointer (some ⟨E, 0, none⟩)] (fun x => !negI x) (badCl B E) (clInv B E) (byz27 kd M F) W (hT.keep k) (h.keep k)
      (by rintro k cs (⟨_, c, hc⟩ | ⟨_, c, hc⟩) <;> simp at hc) (by rintro k cs (⟨_, c, hc⟩ | ⟨_, c, hc⟩) <;> simp at hc) (by rintro k cs (⟨_, c, hc⟩ | ⟨_, c, hc⟩) <;> simp at hc)
      (by rintro o (⟨hc, _⟩ | ⟨hc, _⟩); exact hBT hc.symm; exact hET hc.symm)
      (fun l W W' hl hk => ⟨hl.1.keep hk, hl.2.keep hk⟩) eg (fun l x W hl _ hi => clStep B E hBE l x W hl hi) hI
      (fun W' k' => cByz_any nm kd M W' ((h.keep k).keep k').f.rd hn)
  have H1 := Lib.hid h1; have H2 := Lib.hid h2; have E0 := Lib.hid e0
  clear h1 h2 e0 eg
  generalize clash27 kd wt M R Q F = res at *
  generalize cvS kd M R Q F = er at *
  generalize upTo (fun x => !negI x) (allL wt (byz27 kd M F) R Q) = up at *
  have HT := Lib.hid hT
  clear h hT
  obtain ⟨c0, c1, c2, c3, c4, c5⟩ := hb.conj
  have HBX := Lib.hid hb
  clear hb
  go_enter Tryz.func25, Tryz.ntmps25
  go_wp2_with fail
  rw [← hW1, ← hW2]
  clear hW1 hW2 hsz k2 c0 c1 c2 c3 c4 c5
  refine (H1.out _ K0).mono ?_
  rintro e w3 ⟨rfl, K1⟩
  have b3 := HBX.out.keep K1
  have x3 := hx.keep K1
  replace K1 := K0.trans K1
  clear hx K0 H1 HBX
  by_cases her : er = 0
  rotate_left
  · have hres : res = (cl0, er) := by rw [E0.out, if_pos her]
    have hb : (er != 0) = true := by simpa using her
    obtain ⟨f0, f1, f2, f3⟩ := x3.frozen
    obtain ⟨g0, g1, g2, g3⟩ := x3.cells
    have X3 := Lib.hid x3; have HRS := Lib.hid hres
    clear x3 hres her b3
    go_wp2_with fail
    exact bodyPost_ret (resBox rfl (X3.out.store cl0) rfl rfl) rfl ⟨by rw [HRS.out]; rfl, K1.set4 (Nat.le_succ _) _ _ _ _⟩
  subst her
  have hE := E0.out
  rw [if_neg (by simp)] at hE
  have HE := Lib.hid hE
  have HB3 := Lib.hid b3; have HX3 := Lib.hid x3
  clear hE E0 b3 x3
  have J4 : Keeps w3 ((w3.alloc (.cells #[.int .i64 0, .int .u16 0, .int .u16 0, .int .u16 0] 61)).alloc (.cells #[.int .i64 13] 27)) := ((Keeps.refl w3).alloc _).alloc _
  have hI : clInv w3.heap.size (w3.heap.size + 1) [] ((w3.alloc (.cells #[.int .i64 0, .int .u16 0, .int .u16 0, .int .u16 0] 61)).alloc (.cells #[.int .i64 13] 27)) := by
    refine ⟨(Blk.new w3 61 _).keep ((Keeps.refl _).alloc _), ?_⟩
    have := Blk.new (w3.alloc (.cells #[.int .i64 0, .int .u16 0, .int .u16 0, .int .u16 0] 61)) 27 #[.int .i64 13]
    rw [World.size_alloc] at this
    exact this
  obtain ⟨W4, hW4⟩ : ∃ W4, W4 = ((w3.alloc (.cells #[.int .i64 0, .int .u16 0, .int .u16 0, .int .u16 0] 61)).alloc (.cells #[.int .i64 13] 27)) := ⟨_, rfl⟩
  obtain ⟨p0, p1, p2, p3, p4, p5⟩ := (HB3.out.keep J4).conj
  rw [← hW4] at J4 hI
  have hcall := H2.out W4 (K1.trans J4) w3.heap.size (w3.heap.size + 1) (by omega) (by have := (HT.out.keep K1).lt; omega) (by have := (HT.out.keep K1).lt; omega) hI
  have HC := Lib.hid hcall
  clear hcall hI
  go_wp2_with fail
  rw [← hW4]
  refine HC.out.mono ?_
  rintro e w5 ⟨rfl, hI5, K5⟩
  obtain ⟨hA, hE5⟩ := hI5
  have hx5 : ClBox w5 (w.heap.size + 1) cl0 := by
    have h4 := HX3.out.keep J4
    exact KpX.blk K5 (B := w.heap.size + 1) (T := 61) h4 (by have := Blk.lt (T := 61) HX3.out; rintro (⟨hc, _⟩ | ⟨hc, _⟩) <;> omega)
  have KJ : Keeps w w5 := (show Below _ _ _ from K1.trans J4).trans (K5.below (K1.trans J4).size (by have := K1.size; rintro k o hk (⟨hc, _⟩ | ⟨hc, _⟩) <;> omega))
  obtain ⟨f0, f1, f2, f3⟩ := hx5.frozen
  obtain ⟨g0, g1, g2, g3⟩ := hx5.cells
  have KD := (Keeps.refl w5).drew
  have hn1 : w3.heap.size ≠ w.heap.size + 1 := by have := Blk.lt (T := 61) HX3.out; omega
  have hn2 : w3.heap.size + 1 ≠ w.heap.size + 1 := by have := Blk.lt (T := 61) HX3.out; omega
  rw [← HE.out] at hA hE5
  clear HE HC HX3 HT HB3 H2 K1 J4 K5 p0 p1 p2 p3 p4 p5
  obtain ⟨⟨y0, y1, y2, y3⟩, z⟩ := res
  dsimp only at hA hE5 ⊢
  have hD := And.intro (cB4 (hA.keep KD)) (cB1 (hE5.keep KD))
  have hDS := fun v0 v1 v2 v3 => And.intro (cB4 (((((hA.setOther hn1 0 v0).setOther hn1 1 v1).setOther hn1 2 v2).setOther hn1 3 v3).keep ((Keeps.refl _).drew))) (cB1 (((((hE5.setOther hn2 0 v0).setOther hn2 1 v1).setOther hn2 2 v2).setOther hn2 3 v3).keep ((Keeps.refl _).drew)))
  have X5 := Lib.hid hx5; have HD := Lib.hid hD; have HDS := Lib.hid hDS
  clear hx5 hA hE5 hD hDS
  go_wp2_with fail
  go_region_held3 (fun w' => (w'.cell? ⟨w3.heap.size, 0, none⟩ = some (.int .i64 y0) ∧ w'.cell? ⟨w3.heap.size, 1, none⟩ = some (.int .u16 (sv y1)) ∧ w'.cell? ⟨w3.heap.size, 2, none⟩ = some (.int .u16 (sv y2)) ∧ w'.cell? ⟨w3.heap.size, 3, none⟩ = some (.int .u16 (sv y3))) ∧ w'.cell? ⟨w3.heap.size + 1, 0, none⟩ = some (.int .i64 z)) (first | with_reducible exact HD.out | with_reducible exact HDS.out _ _ _ _ | go_keep) (fail)
  all_goals go_wp2_with fail
  all_goals exact bodyPost_ret (resBox rfl ((X5.out.store (y0, y1, y2, y3)).keep ((Keeps.refl _).drew)) rfl rfl) rfl ⟨by unfold RetCE; rfl, (KJ.set4 (Nat.le_succ _) _ _ _ _).drew⟩
end Go.Proofs.YtijknodekomdfaaGreatDoor
namespace Go.Proofs.YtijknodekomdfaaGreatDoor
open Go.RowKit Go.Lib Go.Shelf

set_option maxRecDepth 20000 in
theorem cSafe_any {nm : ByteArray} [NmOk nm] (kd : Int) (wt M : S) {ar : Option Addr} {cr : Nat} {R : List S} {aw : Option Addr} {cw : Nat} {Q : List S} {af : Option Addr} {cf : Nat} {F : List F2} (w : World) (hT : Tab w) (h : RowC w ar cr R aw cw Q af cf F) (hn : F.length ≤ 1000000) :
    Calls Tryz.prog 14 #[.agg #[.string nm, .int .i64 kd, .int .u16 (sv M), .slice ar R.length cr, .slice aw Q.length cw, .slice af F.length cf], .int .u16 (sv wt)] w fun e w' => e = .returned (.bool (safe27 kd wt M R Q F)) ∧ Keeps w w' := by
  have K0 := (Keeps.refl w).alloc (.cells #[.string nm, .int .i64 kd, .int .u16 (sv M), .slice ar R.length cr, .slice aw Q.length cw, .slice af F.length cf] 36)
  have h1 := fun W (k : Keeps w W) => cClash_any (nm := nm) kd wt M W (hT.keep k) (h.keep k) hn
  unfold safe27
  unfold RetCE at h1
  generalize clash27 kd wt M R Q F = r at *
  obtain ⟨x, z⟩ := r
  simp only [vcl] at h1
  have H1 := Lib.hid h1
  clear h1 h hT
  generalize R.length = nr at *
  generalize Q.length = nq at *
  generalize F.length = nf at *
  go_enter Tryz.func14, Tryz.ntmps14
  go_wp2_with fail
  refine (H1.out _ K0).mono ?_
  rintro e w2 ⟨rfl, K1⟩
  go_wp2_with fail
  go_ret
  exact ⟨rfl, (K0.trans K1).alloc _⟩
end Go.Proofs.YtijknodekomdfaaGreatDoor
