/- Texts joined into one (wip/bin/pack.py): CDead. -/
import Derived.Laws.ResultCell
import Derived.Test.YtijknodekomdfaaGreatDoorKYd
/- config.Dead, config.Live. -/
namespace Go.Proofs.YtijknodekomdfaaGreatDoor
open Go.RowKit Go.Lib Go.Shelf

/-- a block that holds a fault -/
def FBox (w : World) (B : Nat) (x : F2) : Prop := w.heap[B]? = some (.cells #[.int .u16 (sv x.1), .int .u16 (sv x.2)] 34 (0, 0))
theorem FBox.keep {w w' : World} {B : Nat} {x : F2} (h : FBox w B x) (k : Keeps w w') : FBox w' B x := (k.below.block B (Array.getElem?_eq_some_iff.1 h).1).trans h
theorem FBox.cells {w : World} {B : Nat} {x : F2} (h : FBox w B x) : w.cell? ⟨B, 0, none⟩ = some (.int .u16 (sv x.1)) ∧ w.cell? ⟨B, 1, none⟩ = some (.int .u16 (sv x.2)) := by
  simp [World.cell?, show w.heap[B]? = _ from h]
theorem FBox.frozen {w : World} {B : Nat} {x : F2} (h : FBox w B x) : w.frozen? ⟨B, 0, none⟩ = false ∧ w.frozen? ⟨B, 1, none⟩ = false := by
  simp [World.frozen?, show w.heap[B]? = _ from h]
theorem FBox.store {w : World} {B : Nat} {x : F2} (h : FBox w B x) (y : F2) : FBox ((w.setCell ⟨B, 0, none⟩ (.int .u16 (sv y.1))).setCell ⟨B, 1, none⟩ (.int .u16 (sv y.2))) B y := heap_set (heap_set h _) _
theorem Keeps.set2 {w W : World} (h : Keeps w W) {B : Nat} (hB : w.heap.size ≤ B) (v0 v1 : Value) : Keeps w ((W.setCell ⟨B, 0, none⟩ v0).setCell ⟨B, 1, none⟩ v1) := (h.setC hB 0 v0).setC hB 1 v1
theorem resBoxF {fn : Func} {p u : Tmp} (h : fn.results = #[.cell p 34, .tmp u]) {tmps : Array Value} {W : World} {B : Nat} {x : F2} {v : Value} (hB : FBox W B x)
    (tp : tmps.getD p undef = .pointer (some ⟨B, 0, none⟩)) (tu : tmps.getD u undef = v) :
    (results fn tmps).run Tryz.prog W = .ok (.tuple #[vf x, v]) W := by
  rw [results_cell_tmp h, tp, tu]
  obtain ⟨k0, k1⟩ := hB.cells
  simp [go_sem, vf, asAddr, loadVar, loadCells, loadCellsFrom, k0, k1]
/-- what a call that gives a fault and an error came back with -/
def RetFE (r : F2 × Int) (e : Ending) : Prop := e = .returned (.tuple #[vf r.1, .int .i64 r.2])
def deadT (o : Option F2) : F2 × Int := match o with | some a => (a, 0) | none => ((0#16, 0#16), 13)
theorem dead_eq (kd : Int) (M : S) (R Q : List S) (F : List F2) : deadS kd M R Q F = if cvS kd M R Q F ≠ 0 then ((0#16, 0#16), cvS kd M R Q F) else deadT (F.find? (badF R Q)) := rfl
theorem findF_step (f : F2 → Bool) (l : List F2) (i : Nat) (h : i < l.length) : (l.drop i).find? f = match f (fa l i) with | true => some (fa l i) | false => (l.drop (i + 1)).find? f := by
  rw [drop_fa l i h, List.find?_cons]; cases f (fa l i) <;> rfl
set_option maxRecDepth 20000 in
set_option maxHeartbeats 4000000 in
theorem dead_any {nm : ByteArray} [NmOk nm] (kd : Int) (M : S) {ar : Option Addr} {cr : Nat} {R : List S} {aw : Option Addr} {cw : Nat} {Q : List S} {af : Option Addr} {cf : Nat} {F : List F2} (w : World) (h : RdC w ar cr R aw cw Q af cf F) :
    Calls Tryz.prog 58 #[.agg #[.string nm, .int .i64 kd, .int .u16 (sv M), .slice ar R.length cr, .slice aw Q.length cw, .slice af F.length cf]] w fun e w' => RetFE (deadS kd M R Q F) e ∧ Keeps w w' := by
  have K0 := (Keeps.refl w).alloc (.cells #[.string nm, .int .i64 kd, .int .u16 (sv M), .slice ar R.length cr, .slice aw Q.length cw, .slice af F.length cf] 36)
  have hb := BoxC.new w 36 nm kd M ar R.length cr aw Q.length cw af F.length cf
  obtain ⟨W1, hW1⟩ : ∃ W0, W0 = w.alloc (.cells #[.string nm, .int .i64 kd, .int .u16 (sv M), .slice ar R.length cr, .slice aw Q.length cw, .slice af F.length cf] 36) := ⟨_, rfl⟩
  rw [← hW1] at hb K0
  have hsz : W1.heap.size = w.heap.size + 1 := by rw [hW1, World.size_alloc]
  have k2 := (Keeps.refl W1).alloc (.cells #[.int .u16 0, .int .u16 0] 34)
  have hx : FBox (W1.alloc (.cells #[.int .u16 0, .int .u16 0] 34)) (w.heap.size + 1) (0#16, 0#16) := by rw [← hsz]; exact World.alloc_heap_new W1 _
  obtain ⟨W2, hW2⟩ : ∃ W2, W2 = W1.alloc (.cells #[.int .u16 0, .int .u16 0] 34) := ⟨_, rfl⟩
  rw [← hW2] at hx k2
  replace hb := hb.keep k2
  replace K0 := K0.trans k2
  have h1 := fun W (k : Keeps w W) => configValid_any (nm := nm) kd M W (h.keep k)
  have h2 := fun W (k : Keeps w W) s => avoids_any ar R.length cr R s W ((h.keep k).r)
  have h3 := fun W (k : Keeps w W) s => avoids_any aw Q.length cw Q s W ((h.keep k).q)
  have hf := fun W (k : Keeps w W) => (h.keep k).f
  have sf := h.f.small
  have ebad : ∀ a : F2, badF R Q a = (!(avo R (facF a)) || !(avo Q (facF a))) := fun _ => rfl
  have EB := Lib.hid ebad
  clear ebad
  rw [dead_eq]
  generalize cvS kd M R Q F = er at *
  generalize avo R = aR at *
  generalize avo Q = aQ at *
  generalize badF R Q = bd at *
  generalize R.length = nr at *
  generalize Q.length = nq at *
  have H1 := Lib.hid h1; have H2 := Lib.hid h2; have H3 := Lib.hid h3; have HF := Lib.hid hf
  have HFA := Lib.hid (fun (W : World) (k : Keeps W2 W) => And.intro (hb.keep k) (hx.keep k))
  clear h1 h2 h3 hf h
  obtain ⟨c0, c1, c2, c3, c4, c5⟩ := hb.conj
  clear hb hx
  have hcs : er = 0 ∨ er ≠ 0 ∧ (er != 0) = true ∧ (er == 0) = false := by
    by_cases hz : er = 0
    · exact .inl hz
    · exact .inr ⟨hz, by simpa using hz, by simpa using hz⟩
  rcases hcs with rfl | ⟨hne, hb1, hb2⟩
  rotate_left
  · rw [if_pos hne]
    go_enter Tryz.func58, Tryz.ntmps58
    go_wp2_with fail
    rw [← hW1, ← hW2]
    clear hW1 hW2 hsz k2 c0 c1 c2 c3 c4 c5 hne
    refine (H1.out _ K0).mono ?_
    rintro e w3 ⟨rfl, K1⟩
    obtain ⟨hb, hx⟩ := HFA.out _ K1
    obtain ⟨f0, f1⟩ := hx.frozen
    obtain ⟨g0, g1⟩ := hx.cells
    have X := Lib.hid hx
    clear hb hx
    go_wp2_with fail
    exact bodyPost_ret (resBoxF rfl (X.out.store (0#16, 0#16)) rfl rfl) rfl ⟨by unfold RetFE; rfl, (K0.trans K1).set2 (Nat.le_succ _) _ _⟩
  · rw [if_neg (by simp)]
    obtain ⟨res, hres⟩ : ∃ r, r = deadT (F.find? bd) := ⟨_, rfl⟩
    rw [← hres]
    have HRES := Lib.hid hres
    clear hres
    go_enter Tryz.func58, Tryz.ntmps58
    go_wp2_with fail
    rw [← hW1, ← hW2]
    clear hW1 hW2 hsz k2 c0 c1 c2 c3 c4 c5
    refine (H1.out _ K0).mono ?_
    rintro e w3 ⟨rfl, K1⟩
    obtain ⟨c0, c1, c2, c3, c4, c5⟩ := (HFA.out _ K1).1.conj
    go_wp2_with fail
    clear c0 c1 c2 c3 c4 c5
    have HR := Lib.hid (HF.out _ (K0.trans K1))
    go_loopw [17] (fun v wr => ∃ i : Nat, i ≤ F.length ∧ v = .int .i64 i ∧ Keeps w3 wr ∧ Hid (res = deadT ((F.drop i).find? bd))) (fun v _ => F.length - (RowKit.intOf v).toNat)
    case atStart => exact ⟨0, Nat.zero_le _, rfl, Keeps.refl _, HRES.out⟩
    case round =>
      obtain ⟨i, hi, rfl, K3, HI⟩ := hrel
      by_cases hlt : i < F.length
      · have hRi := HR.out.keep K3
        have g0 := hRi.f0 hlt
        have g1 := hRi.f1' hlt
        have hs := HR.out.isSome (by omega)
        have hst := HI.out
        rw [findF_step bd F i hlt] at hst
        generalize fa F i = a at *
        have KB := (Keeps.refl wr).alloc (.cells #[.int .u16 (sv a.1), .int .u16 (sv a.2)] 34)
        have hA : FBox (wr.alloc (.cells #[.int .u16 (sv a.1), .int .u16 (sv a.2)] 34)) wr.heap.size a := World.alloc_heap_new wr _
        obtain ⟨c0, c1, c2, c3, c4, c5⟩ := (HFA.out _ (K1.trans (K3.trans KB))).1.conj
        obtain ⟨W4, hW4⟩ : ∃ W4, W4 = wr.alloc (.cells #[.int .u16 (sv a.1), .int .u16 (sv a.2)] 34) := ⟨_, rfl⟩
        rw [← hW4] at KB hA
        have K4 := K3.trans KB
        have ho := EB.out a
        unfold facF at ho
        have q2 := H2.out W4 ((K0.trans K1).trans K4) (a.1 ||| a.2)
        have q3 := fun W k => H3.out W k (a.1 ||| a.2)
        generalize aR (a.1 ||| a.2) = b1 at *
        generalize aQ (a.1 ||| a.2) = b2 at *
        have HW4 := Lib.hid hW4
        have HQ2 := Lib.hid q2; have HQ3 := Lib.hid q3
        have HAA := Lib.hid hA
        clear q2 q3 HI hW4 hA
        cases b1
        · have ho2 : bd a = true := by rw [ho]; rfl
          rw [ho2] at hst
          have HS := Lib.hid hst
          clear hst ho ho2
          go_wp2_with fail
          rw [← HW4.out]
          refine HQ2.out.mono ?_
          rintro e w5 ⟨rfl, K5⟩
          have K6 := K4.trans K5
          have hx := (HFA.out _ (K1.trans K6)).2
          obtain ⟨f0, f1⟩ := hx.frozen
          obtain ⟨p0, p1⟩ := hx.cells
          obtain ⟨d0, d1⟩ := (HAA.out.keep K5).cells
          have X := Lib.hid hx
          clear hx g0 g1 c0 c1 c2 c3 c4 c5
          go_wp2_with fail
          exact bodyPost_ret (resBoxF rfl (X.out.store a) rfl rfl) rfl ⟨by rw [HS.out]; unfold RetFE; rfl, ((K0.trans K1).trans K6).set2 (Nat.le_succ _) _ _⟩
        · go_wp2_with fail
          rw [← HW4.out]
          refine HQ2.out.mono ?_
          rintro e w5 ⟨rfl, K5⟩
          have K6 := K4.trans K5
          clear g0 g1 c0 c1 c2 c3 c4 c5
          obtain ⟨c0, c1, c2, c3, c4, c5⟩ := (HFA.out _ (K1.trans K6)).1.conj
          have HD := Lib.hid (HAA.out.keep K5)
          have HHS := Lib.hid hst
          have HO := Lib.hid ho
          clear hst ho
          go_wp2_with fail
          refine (HQ3.out _ ((K0.trans K1).trans K6)).mono ?_
          rintro e w7 ⟨rfl, K7⟩
          have K8 := K6.trans K7
          clear c0 c1 c2 c3 c4 c5
          have ho := HO.out
          have hst := HHS.out
          cases b2
          · have ho2 : bd a = true := by rw [ho]; rfl
            rw [ho2] at hst
            have HS := Lib.hid hst
            clear hst ho ho2 HHS HO
            have hx := (HFA.out _ (K1.trans K8)).2
            obtain ⟨f0, f1⟩ := hx.frozen
            obtain ⟨p0, p1⟩ := hx.cells
            obtain ⟨d0, d1⟩ := (HD.out.keep K7).cells
            have X := Lib.hid hx
            clear hx
            go_wp2_with fail
            exact bodyPost_ret (resBoxF rfl (X.out.store a) rfl rfl) rfl ⟨by rw [HS.out]; unfold RetFE; rfl, ((K0.trans K1).trans K8).set2 (Nat.le_succ _) _ _⟩
          · have ho2 : bd a = false := by rw [ho]; rfl
            rw [ho2] at hst
            have HS := Lib.hid hst
            clear hst ho ho2 HHS HO
            go_wp2_with fail
            go_roundw
            case rel => exact ⟨i + 1, by omega, by go_num, K8, HS⟩
            case measure => simp [RowKit.intOf]; omega
      · have hst := HI.out
        rw [List.drop_eq_nil_of_le (by omega), List.find?_nil] at hst
        have HS := Lib.hid hst
        have hx := (HFA.out _ (K1.trans K3)).2
        obtain ⟨f0, f1⟩ := hx.frozen
        obtain ⟨p0, p1⟩ := hx.cells
        have X := Lib.hid hx
        clear hst HI hx
        go_wp2_with fail
        exact bodyPost_ret (resBoxF rfl (X.out.store (0#16, 0#16)) rfl rfl) rfl ⟨by rw [HS.out]; unfold RetFE; rfl, ((K0.trans K1).trans K3).set2 (Nat.le_succ _) _ _⟩
def liv27 (kd : Int) (M : S) (R Q : List S) (F : List F2) : Bool := (deadS kd M R Q F).2 == 13
set_option maxRecDepth 20000 in
theorem live27_any {nm : ByteArray} [NmOk nm] (kd : Int) (M : S) {ar : Option Addr} {cr : Nat} {R : List S} {aw : Option Addr} {cw : Nat} {Q : List S} {af : Option Addr} {cf : Nat} {F : List F2} (w : World) (h : RdC w ar cr R aw cw Q af cf F) :
    Calls Tryz.prog 16 #[.agg #[.string nm, .int .i64 kd, .int .u16 (sv M), .slice ar R.length cr, .slice aw Q.length cw, .slice af F.length cf]] w fun e w' => e = .returned (.bool (liv27 kd M R Q F)) ∧ Keeps w w' := by
  have K0 := (Keeps.refl w).alloc (.cells #[.string nm, .int .i64 kd, .int .u16 (sv M), .slice ar R.length cr, .slice aw Q.length cw, .slice af F.length cf] 36)
  have h1 := fun W (k : Keeps w W) => dead_any (nm := nm) kd M W (h.keep k)
  unfold liv27
  unfold RetFE at h1
  generalize deadS kd M R Q F = r at *
  obtain ⟨x, z⟩ := r
  simp only [vf] at h1
  have H1 := Lib.hid h1
  clear h1 h
  generalize R.length = nr at *
  generalize Q.length = nq at *
  generalize F.length = nf at *
  go_enter Tryz.func16, Tryz.ntmps16
  go_wp2_with fail
  refine (H1.out _ K0).mono ?_
  rintro e w2 ⟨rfl, K1⟩
  go_wp2_with fail
  go_ret
  exact ⟨rfl, by first | exact K0.trans K1 | exact (K0.trans K1).alloc _⟩
end Go.Proofs.YtijknodekomdfaaGreatDoor
