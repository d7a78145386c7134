/- Texts joined into one (wip/bin/pack.py): CAvo, CDead. -/
import Derived.Test.YtcnccoinhohbeaaDoorKA
import Derived.Test.YtcnccoinhohbeaaDoorKYa
import Derived.Test.YtcnccoinhohbeaaDoorKU
import Derived.Laws.ResultCell
/- config.avoids, config.Tolerates. -/
namespace Go.Proofs.YtcnccoinhohbeaaDoor
open Go.RowKit Go.Lib Go.Shelf

theorem avoPred (s : S) (B : Nat) (l : List S) (w : World) (h0 : w.cell? ⟨B, 0, none⟩ = some (.int .u16 (sv s))) :
    PredK Tryd.prog 49 #[.pointer (some ⟨B, 0, none⟩)] vs (fun t => s &&& t == 0#16) l w := fun W x _ hk => by
  have c0 := hk.cell h0
  show Calls Tryd.prog 49 #[.int .u16 (sv x), .pointer (some ⟨B, 0, none⟩)] W _
  go_enter Tryd.func49, Tryd.ntmps49
  go_wp2_with fail
  go_ret
  exact ⟨rfl, Keeps.refl _⟩
theorem avo_and (l : List S) (s : S) : avo l s = l.any fun t => s &&& t == 0#16 := by
  unfold avo; congr 1; funext t; rw [BitVec.and_comm]
theorem avoids_any (a : Option Addr) (n c : Nat) (l : List S) (s : S) (w : World) (h : Rd w a n c 1 (sl l)) :
    Calls Tryd.prog 25 #[.slice a n c, .int .u16 (sv s)] w fun e w' => e = .returned (.bool (avo l s)) ∧ Keeps w w' := by
  have K := (Keeps.refl w).alloc (.cells #[.int .u16 (sv s)] 28)
  have hcon := containsFuncS_any a n c l _ 49 #[.pointer (some ⟨w.heap.size, 0, none⟩)] (fun t => s &&& t == 0#16) (h.keep K) (enters_of Tryd.func49 (by kernel_rfl) rfl) (avoPred s w.heap.size l _ (by rw [World.cell?_alloc_at _ _ _ _ rfl]; rfl))
  rw [avo_and]
  generalize (l.any fun t => s &&& t == 0#16) = r at hcon ⊢
  have HC := Lib.hid hcon; clear hcon h
  go_enter Tryd.func25, Tryd.ntmps25
  go_wp2_with fail
  refine HC.out.mono ?_
  rintro e w' ⟨rfl, K2⟩
  go_wp2_with fail
  go_ret
  exact ⟨rfl, K.trans K2⟩
set_option maxRecDepth 20000 in
theorem tolPred27 (nm : ByteArray) (kd : Int) (M z : S) (ar : Option Addr) (nr cr : Nat) (aw : Option Addr) (nw cw : Nat) (af : Option Addr) (nf cf : Nat) (B1 B2 : Nat) (l : List S) (w : World)
    (h1 : BoxC w B1 nm kd M ar nr cr aw nw cw af nf cf) (h2 : w.cell? ⟨B2, 0, none⟩ = some (.int .u16 (sv z))) :
    PredK Tryd.prog 42 #[.pointer (some ⟨B2, 0, none⟩), .pointer (some ⟨B1, 0, none⟩)] vs (fun b => z &&& M &&& ~~~b == 0#16) l w := fun W x _ hk => by
  obtain ⟨c0, c1, c2, c3, c4, c5⟩ := (h1.keep hk).conj
  have e2 := hk.cell h2
  show Calls Tryd.prog 42 #[.int .u16 (sv x), .pointer (some ⟨B2, 0, none⟩), .pointer (some ⟨B1, 0, none⟩)] W _
  go_enter Tryd.func42, Tryd.ntmps42
  go_wp2_with fail
  go_ret
  exact ⟨rfl, Keeps.refl _⟩
set_option maxRecDepth 20000 in
set_option maxHeartbeats 2000000 in
theorem tol27_any {nm : ByteArray} [NmOk nm] (kd : Int) (z M : S) {ar : Option Addr} {cr : Nat} {R : List S} {aw : Option Addr} {cw : Nat} {Q : List S} {af : Option Addr} {cf : Nat} {F : List F2} (w : World) (h : RdC w ar cr R aw cw Q af cf F) (hn : F.length ≤ 1000000) :
    Calls Tryd.prog 18 #[.agg #[.string nm, .int .i64 kd, .int .u16 (sv M), .slice ar R.length cr, .slice aw Q.length cw, .slice af F.length cf], .int .u16 (sv z)] w fun e w' => e = .returned (.bool (tolS27 kd M R Q F z)) ∧ Keeps w w' := by
  have K0 := (Keeps.refl w).alloc (.cells #[.string nm, .int .i64 kd, .int .u16 (sv M), .slice ar R.length cr, .slice aw Q.length cw, .slice af F.length cf] 31)
  have hb := BoxC.new w 31 nm kd M ar R.length cr aw Q.length cw af F.length cf
  obtain ⟨W1, hW1⟩ : ∃ W0, W0 = w.alloc (.cells #[.string nm, .int .i64 kd, .int .u16 (sv M), .slice ar R.length cr, .slice aw Q.length cw, .slice af F.length cf] 31) := ⟨_, rfl⟩
  have hsz : W1.heap.size = w.heap.size + 1 := by rw [hW1, World.size_alloc]
  rw [← hW1] at hb K0
  have k2 := (Keeps.refl W1).alloc (.cells #[.int .u16 (sv z)] 28)
  have hx : (W1.alloc (.cells #[.int .u16 (sv z)] 28)).cell? ⟨w.heap.size + 1, 0, none⟩ = some (.int .u16 (sv z)) := by rw [← hsz, World.cell?_alloc_at _ _ _ _ rfl]; rfl
  obtain ⟨W2, hW2⟩ : ∃ W2, W2 = W1.alloc (.cells #[.int .u16 (sv z)] 28) := ⟨_, rfl⟩
  rw [← hW2] at hx k2
  replace hb := hb.keep k2
  replace K0 := K0.trans k2
  have h1 := fun W (k : Keeps w W) => configValid_any (nm := nm) kd M W (h.keep k)
  have h2 := fun W (k : Keeps w W) => cByz_any nm kd M (ar := ar) (cr := cr) (R := R) (aw := aw) (cw := cw) (Q := Q) W ((h.keep k).f) hn
  have h3 := fun W A C (k : Keeps w W) hz (hB : BoxC W w.heap.size nm kd M ar R.length cr aw Q.length cw af F.length cf) (he : W.cell? ⟨w.heap.size + 1, 0, none⟩ = some (.int .u16 (sv z))) => containsFuncS_any A (byz27 kd M F).length C (byz27 kd M F) W 42 #[.pointer (some ⟨w.heap.size + 1, 0, none⟩), .pointer (some ⟨w.heap.size, 0, none⟩)] (fun b => z &&& M &&& ~~~b == 0#16) hz (enters_of Tryd.func42 (by kernel_rfl) rfl)
    (tolPred27 nm kd M z ar R.length cr aw Q.length cw af F.length cf w.heap.size (w.heap.size + 1) (byz27 kd M F) W hB he)
  unfold tolS27
  generalize cvS kd M R Q F = er at *
  generalize ((byz27 kd M F).any fun b => z &&& M &&& ~~~b == 0#16) = q at *
  generalize byz27 kd M F = byz at *
  generalize R.length = nr at *
  generalize Q.length = nq at *
  generalize F.length = nf at *
  have H1 := Lib.hid h1; have H2 := Lib.hid h2; have H3 := Lib.hid h3
  obtain ⟨c0, c1, c2, c3, c4, c5⟩ := hb
  clear h1 h2 h3 h
  have hcs : er = 0 ∨ er ≠ 0 ∧ (er != 0) = true ∧ (er == 0) = false := by
    by_cases hz : er = 0
    · exact .inl hz
    · exact .inr ⟨hz, by simpa using hz, by simpa using hz⟩
  rcases hcs with rfl | ⟨_, hb1, hb2⟩
  · rw [beq_self_eq_true, Bool.true_and]
    go_enter Tryd.func18, Tryd.ntmps18
    go_wp2_with fail
    rw [← hW1, ← hW2]
    clear hW1 hW2 hsz k2
    refine (H1.out _ K0).mono ?_
    rintro e w3 ⟨rfl, K1⟩
    replace c0 := K1.cell c0; replace c1 := K1.cell c1; replace c2 := K1.cell c2; replace c3 := K1.cell c3; replace c4 := K1.cell c4; replace c5 := K1.cell c5; replace hx := K1.cell hx
    replace K1 := K0.trans K1
    go_wp2_with fail
    refine (H2.out _ K1).mono ?_
    rintro e w4 ⟨v4, rfl, hO⟩
    obtain ⟨a4, cc4, rfl, hR⟩ := hO.rd
    have Kx := hO.2
    have hB5 : BoxC w4 w.heap.size nm kd M ar nr cr aw nq cw af nf cf := (BoxC.mk c0 c1 c2 c3 c4 c5).keep Kx
    have hcall := H3.out _ a4 cc4 (K1.trans Kx) hR hB5 (Kx.cell hx)
    have HC := Lib.hid hcall
    clear hcall hB5 H1 H2 H3 hR hO
    go_wp2_with fail
    refine HC.out.mono ?_
    rintro e w6 ⟨rfl, K6⟩
    go_wp2_with fail
    go_ret
    exact ⟨rfl, (K1.trans Kx).trans K6⟩
  · rw [hb2, Bool.false_and]
    go_enter Tryd.func18, Tryd.ntmps18
    go_wp2_with fail
    rw [← hW1, ← hW2]
    clear hW1 hW2 hsz k2
    refine (H1.out _ K0).mono ?_
    rintro e w3 ⟨rfl, K1⟩
    go_wp2_with fail
    go_ret
    exact ⟨rfl, K0.trans K1⟩
end Go.Proofs.YtcnccoinhohbeaaDoor
/- config.Dead, config.Live. -/
namespace Go.Proofs.YtcnccoinhohbeaaDoor
open Go.RowKit Go.Lib Go.Shelf

/-- a block that holds a fault -/
def FBox (w : World) (B : Nat) (x : F2) : Prop := w.heap[B]? = some (.cells #[.int .u16 (sv x.1), .int .u16 (sv x.2)] 34 (0, 0))
theorem FBox.keep {w w' : World} {B : Nat} {x : F2} (h : FBox w B x) (k : Keeps w w') : FBox w' B x := (k.below.block B (Array.getElem?_eq_some_iff.1 h).1).trans h
theorem FBox.cells {w : World} {B : Nat} {x : F2} (h : FBox w B x) : w.cell? ⟨B, 0, none⟩ = some (.int .u16 (sv x.1)) ∧ w.cell? ⟨B, 1, none⟩ = some (.int .u16 (sv x.2)) := by
  simp [World.cell?, show w.heap[B]? = _ from h]
theorem FBox.frozen {w : World} {B : Nat} {x : F2} (h : FBox w B x) : w.frozen? ⟨B, 0, none⟩ = false ∧ w.frozen? ⟨B, 1, none⟩ = false := by
  simp [World.frozen?, show w.heap[B]? = _ from h]
theorem FBox.store {w : World} {B : Nat} {x : F2} (h : FBox w B x) (y : F2) : FBox ((w.setCell ⟨B, 0, none⟩ (.int .u16 (sv y.1))).setCell ⟨B, 1, none⟩ (.int .u16 (sv y.2))) B y := heap_set (heap_set h _) _
theorem Keeps.set2 {w W : World} (h : Keeps w W) {B : Nat} (hB : w.heap.size ≤ B) (v0 v1 : Value) : Keeps w ((W.setCell ⟨B, 0, none⟩ v0).setCell ⟨B, 1, none⟩ v1) := (h.setC hB 0 v0).setC hB 1 v1
theorem resBoxF {fn : Func} {p u : Tmp} (h : fn.results = #[.cell p 34, .tmp u]) {tmps : Array Value} {W : World} {B : Nat} {x : F2} {v : Value} (hB : FBox W B x)
    (tp : tmps.getD p undef = .pointer (some ⟨B, 0, none⟩)) (tu : tmps.getD u undef = v) :
    (results fn tmps).run Tryd.prog W = .ok (.tuple #[vf x, v]) W := by
  rw [results_cell_tmp h, tp, tu]
  obtain ⟨k0, k1⟩ := hB.cells
  simp [go_sem, vf, asAddr, loadVar, loadCells, loadCellsFrom, k0, k1]
/-- what a call that gives a fault and an error came back with -/
def RetFE (r : F2 × Int) (e : Ending) : Prop := e = .returned (.tuple #[vf r.1, .int .i64 r.2])
def deadT (o : Option F2) : F2 × Int := match o with | some a => (a, 0) | none => ((0#16, 0#16), 13)
theorem dead_eq (kd : Int) (M : S) (R Q : List S) (F : List F2) : deadS kd M R Q F = if cvS kd M R Q F ≠ 0 then ((0#16, 0#16), cvS kd M R Q F) else deadT (F.find? (badF R Q)) := rfl
theorem findF_step (f : F2 → Bool) (l : List F2) (i : Nat) (h : i < l.length) : (l.drop i).find? f = match f (fa l i) with | true => some (fa l i) | false => (l.drop (i + 1)).find? f := by
  rw [drop_fa l i h, List.find?_cons]; cases f (fa l i) <;> rfl
set_option maxRecDepth 20000 in
set_option maxHeartbeats 4000000 in
theorem dead_any {nm : ByteArray} [NmOk nm] (kd : Int) (M : S) {ar : Option Addr} {cr : Nat} {R : List S} {aw : Option Addr} {cw : Nat} {Q : List S} {af : Option Addr} {cf : Nat} {F : List F2} (w : World) (h : RdC w ar cr R aw cw Q af cf F) :
    Calls Tryd.prog 8 #[.agg #[.string nm, .int .i64 kd, .int .u16 (sv M), .slice ar R.length cr, .slice aw Q.length cw, .slice af F.length cf]] w fun e w' => RetFE (deadS kd M R Q F) e ∧ Keeps w w' := by
  have K0 := (Keeps.refl w).alloc (.cells #[.string nm, .int .i64 kd, .int .u16 (sv M), .slice ar R.length cr, .slice aw Q.length cw, .slice af F.length cf] 31)
  have hb := BoxC.new w 31 nm kd M ar R.length cr aw Q.length cw af F.length cf
  obtain ⟨W1, hW1⟩ : ∃ W0, W0 = w.alloc (.cells #[.string nm, .int .i64 kd, .int .u16 (sv M), .slice ar R.length cr, .slice aw Q.length cw, .slice af F.length cf] 31) := ⟨_, rfl⟩
  rw [← hW1] at hb K0
  have hsz : W1.heap.size = w.heap.size + 1 := by rw [hW1, World.size_alloc]
  have k2 := (Keeps.refl W1).alloc (.cells #[.int .u16 0, .int .u16 0] 34)
  have hx : FBox (W1.alloc (.cells #[.int .u16 0, .int .u16 0] 34)) (w.heap.size + 1) (0#16, 0#16) := by rw [← hsz]; exact World.alloc_heap_new W1 _
  obtain ⟨W2, hW2⟩ : ∃ W2, W2 = W1.alloc (.cells #[.int .u16 0, .int .u16 0] 34) := ⟨_, rfl⟩
  rw [← hW2] at hx k2
  replace hb := hb.keep k2
  replace K0 := K0.trans k2
  have h1 := fun W (k : Keeps w W) => configValid_any (nm := nm) kd M W (h.keep k)
  have h2 := fun W (k : Keeps w W) s => avoids_any ar R.length cr R s W ((h.keep k).r)
  have h3 := fun W (k : Keeps w W) s => avoids_any aw Q.length cw Q s W ((h.keep k).q)
  have hf := fun W (k : Keeps w W) => (h.keep k).f
  have sf := h.f.small
  have ebad : ∀ a : F2, badF R Q a = (!(avo R (facF a)) || !(avo Q (facF a))) := fun _ => rfl
  have EB := Lib.hid ebad
  clear ebad
  rw [dead_eq]
  generalize cvS kd M R Q F = er at *
  generalize avo R = aR at *
  generalize avo Q = aQ at *
  generalize badF R Q = bd at *
  generalize R.length = nr at *
  generalize Q.length = nq at *
  have H1 := Lib.hid h1; have H2 := Lib.hid h2; have H3 := Lib.hid h3; have HF := Lib.hid hf
  have HFA := Lib.hid (fun (W : World) (k : Keeps W2 W) => And.intro (hb.keep k) (hx.keep k))
  clear h1 h2 h3 hf h
  obtain ⟨c0, c1, c2, c3, c4, c5⟩ := hb.conj
  clear hb hx
  have hcs : er = 0 ∨ er ≠ 0 ∧ (er != 0) = true ∧ (er == 0) = false := by
    by_cases hz : er = 0
    · exact .inl hz
    · exact .inr ⟨hz, by simpa using hz, by simpa using hz⟩
  rcases hcs with rfl | ⟨hne, hb1, hb2⟩
  rotate_left
  · rw [if_pos hne]
    go_enter Tryd.func8, Tryd.ntmps8
    go_wp2_with fail
    rw [← hW1, ← hW2]
    clear hW1 hW2 hsz k2 c0 c1 c2 c3 c4 c5 hne
    refine (H1.out _ K0).mono ?_
    rintro e w3 ⟨rfl, K1⟩
    obtain ⟨hb, hx⟩ := HFA.out _ K1
    obtain ⟨f0, f1⟩ := hx.frozen
    obtain ⟨g0, g1⟩ := hx.cells
    have X := Lib.hid hx
    clear hb hx
    go_wp2_with fail
    exact bodyPost_ret (resBoxF rfl (X.out.store (0#16, 0#16)) rfl rfl) rfl ⟨by unfold RetFE; rfl, (K0.trans K1).set2 (Nat.le_succ _) _ _⟩
  · rw [if_neg (by simp)]
    obtain ⟨res, hres⟩ : ∃ r, r = deadT (F.find? bd) := ⟨_, rfl⟩
    rw [← hres]
    have HRES := Lib.hid hres
    clear hres
    go_enter Tryd.func8, Tryd.ntmps8
    go_wp2_with fail
    rw [← hW1, ← hW2]
    clear hW1 hW2 hsz k2 c0 c1 c2 c3 c4 c5
    refine (H1.out _ K0).mono ?_
    rintro e w3 ⟨rfl, K1⟩
    obtain ⟨c0, c1, c2, c3, c4, c5⟩ := (HFA.out _ K1).1.conj
    go_wp2_with fail
    clear c0 c1 c2 c3 c4 c5
    have HR := Lib.hid (HF.out _ (K0.trans K1))
    go_loopw [17] (fun v wr => ∃ i : Nat, i ≤ F.length ∧ v = .int .i64 i ∧ Keeps w3 wr ∧ Hid (res = deadT ((F.drop i).find? bd))) (fun v _ => F.length - (RowKit.intOf v).toNat)
    case atStart => exact ⟨0, Nat.zero_le _, rfl, Keeps.refl _, HRES.out⟩
    case round =>
      obtain ⟨i, hi, rfl, K3, HI⟩ := hrel
      by_cases hlt : i < F.length
      · have hRi := HR.out.keep K3
        have g0 := hRi.f0 hlt
        have g1 := hRi.f1' hlt
        have hs := HR.out.isSome (by omega)
        have hst := HI.out
        rw [findF_step bd F i hlt] at hst
        generalize fa F i = a at *
        have KB := (Keeps.refl wr).alloc (.cells #[.int .u16 (sv a.1), .int .u16 (sv a.2)] 34)
        have hA : FBox (wr.alloc (.cells #[.int .u16 (sv a.1), .int .u16 (sv a.2)] 34)) wr.heap.size a := World.alloc_heap_new wr _
        obtain ⟨c0, c1, c2, c3, c4, c5⟩ := (HFA.out _ (K1.trans (K3.trans KB))).1.conj
        obtain ⟨W4, hW4⟩ : ∃ W4, W4 = wr.alloc (.cells #[.int .u16 (sv a.1), .int .u16 (sv a.2)] 34) := ⟨_, rfl⟩
        rw [← hW4] at KB hA
        have K4 := K3.trans KB
        have ho := EB.out a
        unfold facF at ho
        have q2 := H2.out W4 ((K0.trans K1).trans K4) (a.1 ||| a.2)
        have q3 := fun W k => H3.out W k (a.1 ||| a.2)
        generalize aR (a.1 ||| a.2) = b1 at *
        generalize aQ (a.1 ||| a.2) = b2 at *
        have HW4 := Lib.hid hW4
        have HQ2 := Lib.hid q2; have HQ3 := Lib.hid q3
        have HAA := Lib.hid hA
        clear q2 q3 HI hW4 hA
        cases b1
        · have ho2 : bd a = true := by rw [ho]; rfl
          rw [ho2] at hst
          have HS := Lib.hid hst
          clear hst ho ho2
          go_wp2_with fail
          rw [← HW4.out]
          refine HQ2.out.mono ?_
          rintro e w5 ⟨rfl, K5⟩
          have K6 := K4.trans K5
          have hx := (HFA.out _ (K1.trans K6)).2
          obtain ⟨f0, f1⟩ := hx.frozen
          obtain ⟨p0, p1⟩ := hx.cells
          obtain ⟨d0, d1⟩ := (HAA.out.keep K5).cells
          have X := Lib.hid hx
          clear hx g0 g1 c0 c1 c2 c3 c4 c5
          go_wp2_with fail
          exact bodyPost_ret (resBoxF rfl (X.out.store a) rfl rfl) rfl ⟨by rw [HS.out]; unfold RetFE; rfl, ((K0.trans K1).trans K6).set2 (Nat.le_succ _) _ _⟩
        · go_wp2_with fail
          rw [← HW4.out]
          refine HQ2.out.mono ?_
          rintro e w5 ⟨rfl, K5⟩
          have K6 := K4.trans K5
          clear g0 g1 c0 c1 c2 c3 c4 c5
          obtain ⟨c0, c1, c2, c3, c4, c5⟩ := (HFA.out _ (K1.trans K6)).1.conj
          have HD := Lib.hid (HAA.out.keep K5)
          have HHS := Lib.hid hst
          have HO := Lib.hid ho
          clear hst ho
          go_wp2_with fail
          refine (HQ3.out _ ((K0.trans K1).trans K6)).mono ?_
          rintro e w7 ⟨rfl, K7⟩
          have K8 := K6.trans K7
          clear c0 c1 c2 c3 c4 c5
          have ho := HO.out
          have hst := HHS.out
          cases b2
          · have ho2 : bd a = true := by rw [ho]; rfl
            rw [ho2] at hst
            have HS := Lib.hid hst
            clear hst ho ho2 HHS HO
            have hx := (HFA.out _ (K1.trans K8)).2
            obtain ⟨f0, f1⟩ := hx.frozen
            obtain ⟨p0, p1⟩ := hx.cells
            obtain ⟨d0, d1⟩ := (HD.out.keep K7).cells
            have X := Lib.hid hx
            clear hx
            go_wp2_with fail
            exact bodyPost_ret (resBoxF rfl (X.out.store a) rfl rfl) rfl ⟨by rw [HS.out]; unfold RetFE; rfl, ((K0.trans K1).trans K8).set2 (Nat.le_succ _) _ _⟩
          · have ho2 : bd a = false := by rw [ho]; rfl
            rw [ho2] at hst
            have HS := Lib.hid hst
            clear hst ho ho2 HHS HO
            go_wp2_with fail
            go_roundw
            case rel => exact ⟨i + 1, by omega, by go_num, K8, HS⟩
            case measure => simp [RowKit.intOf]; omega
      · have hst := HI.out
        rw [List.drop_eq_nil_of_le (by omega), List.find?_nil] at hst
        have HS := Lib.hid hst
        have hx := (HFA.out _ (K1.trans K3)).2
        obtain ⟨f0, f1⟩ := hx.frozen
        obtain ⟨p0, p1⟩ := hx.cells
        have X := Lib.hid hx
        clear hst HI hx
        go_wp2_with fail
        exact bodyPost_ret (resBoxF rfl (X.out.store (0#16, 0#16)) rfl rfl) rfl ⟨by rw [HS.out]; unfold RetFE; rfl, ((K0.trans K1).trans K3).set2 (Nat.le_succ _) _ _⟩
def liv27 (kd : Int) (M : S) (R Q : List S) (F : List F2) : Bool := (deadS kd M R Q F).2 == 13
set_option maxRecDepth 20000 in
theorem live27_any {nm : ByteArray} [NmOk nm] (kd : Int) (M : S) {ar : Option Addr} {cr : Nat} {R : List S} {aw : Option Addr} {cw : Nat} {Q : List S} {af : Option Addr} {cf : Nat} {F : List F2} (w : World) (h : RdC w ar cr R aw cw Q af cf F) :
    Calls Tryd.prog 10 #[.agg #[.string nm, .int .i64 kd, .int .u16 (sv M), .slice ar R.length cr, .slice aw Q.length cw, .slice af F.length cf]] w fun e w' => e = .returned (.bool (liv27 kd M R Q F)) ∧ Keeps w w' := by
  have K0 := (Keeps.refl w).alloc (.cells #[.string nm, .int .i64 kd, .int .u16 (sv M), .slice ar R.length cr, .slice aw Q.length cw, .slice af F.length cf] 31)
  have h1 := fun W (k : Keeps w W) => dead_any (nm := nm) kd M W (h.keep k)
  unfold liv27
  unfold RetFE at h1
  generalize deadS kd M R Q F = r at *
  obtain ⟨x, z⟩ := r
  simp only [vf] at h1
  have H1 := Lib.hid h1
  clear h1 h
  generalize R.length = nr at *
  generalize Q.length = nq at *
  generalize F.length = nf at *
  go_enter Tryd.func10, Tryd.ntmps10
  go_wp2_with fail
  refine (H1.out _ K0).mono ?_
  rintro e w2 ⟨rfl, K1⟩
  go_wp2_with fail
  go_ret
  exact ⟨rfl, by first | exact K0.trans K1 | exact (K0.trans K1).alloc _⟩
end Go.Proofs.YtcnccoinhohbeaaDoor
