/- Texts joined into one (wip/bin/pack.py): RDead. -/
import Derived.Test.YtcnccoinhohbeaaDoorKYd
import Derived.Test.YtcnccoinhohbeaaDoorKYi
/- The reference's Dead. -/
namespace Go.Proofs.YtcnccoinhohbeaaDoor
open Go.RowKit Go.Lib Go.Shelf

set_option maxRecDepth 20000 in
set_option maxHeartbeats 4000000 in
theorem rDead_any {nm : ByteArray} [NmOk nm] (kd : Int) (M : S) {ar : Option Addr} {cr : Nat} {R : List S} {aw : Option Addr} {cw : Nat} {Q : List S} {af : Option Addr} {cf : Nat} {F : List F2} (w : World) (h : RdC w ar cr R aw cw Q af cf F) :
    Calls Tryd.prog 9 #[.agg #[.string nm, .int .i64 kd, .int .u16 (sv M), .slice ar R.length cr, .slice aw Q.length cw, .slice af F.length cf]] w fun e w' => RetFE (deadS kd M R Q F) e ∧ Keeps w w' := by
  have K0 := (Keeps.refl w).alloc (.cells #[.string nm, .int .i64 kd, .int .u16 (sv M), .slice ar R.length cr, .slice aw Q.length cw, .slice af F.length cf] 31)
  have hb := BoxC.new w 31 nm kd M ar R.length cr aw Q.length cw af F.length cf
  obtain ⟨W1, hW1⟩ : ∃ W0, W0 = w.alloc (.cells #[.string nm, .int .i64 kd, .int .u16 (sv M), .slice ar R.length cr, .slice aw Q.length cw, .slice af F.length cf] 31) := ⟨_, rfl⟩
  rw [← hW1] at hb K0
  have hsz : W1.heap.size = w.heap.size + 1 := by rw [hW1, World.size_alloc]
  have k2 := (Keeps.refl W1).alloc (.cells #[.int .u16 0, .int .u16 0] 34)
  have hx : FBox (W1.alloc (.cells #[.int .u16 0, .int .u16 0] 34)) (w.heap.size + 1) (0#16, 0#16) := by rw [← hsz]; exact World.alloc_heap_new W1 _
  obtain ⟨W2, hW2⟩ : ∃ W2, W2 = W1.alloc (.cells #[.int .u16 0, .int .u16 0] 34) := ⟨_, rfl⟩
  rw [← hW2] at hx k2
  replace hb := hb.keep k2
  replace K0 := K0.trans k2
  have h1 := fun W (k : Keeps w W) => rcValid_any (nm := nm) kd M W (h.keep k)
  have h2 := fun W (k : Keeps w W) s => rAvo_any ar R.length cr R s W ((h.keep k).r)
  have h3 := fun W (k : Keeps w W) s => rAvo_any aw Q.length cw Q s W ((h.keep k).q)
  have hf := fun W (k : Keeps w W) => (h.keep k).f
  have sf := h.f.small
  have ebad : ∀ a : F2, badF R Q a = (!(avo R (facF a)) || !(avo Q (facF a))) := fun _ => rfl
  have EB := Lib.hid ebad
  clear ebad
  rw [dead_eq]
  generalize cvS kd M R Q F = er at *
  generalize avo R = aR at *
  generalize avo Q = aQ at *
  generalize badF R Q = bd at *
  generalize R.length = nr at *
  generalize Q.length = nq at *
  have H1 := Lib.hid h1; have H2 := Lib.hid h2; have H3 := Lib.hid h3; have HF := Lib.hid hf
  have HFA := Lib.hid (fun (W : World) (k : Keeps W2 W) => And.intro (hb.keep k) (hx.keep k))
  clear h1 h2 h3 hf h
  obtain ⟨c0, c1, c2, c3, c4, c5⟩ := hb.conj
  clear hb hx
  have hcs : er = 0 ∨ er ≠ 0 ∧ (er != 0) = true ∧ (er == 0) = false := by
    by_cases hz : er = 0
    · exact .inl hz
    · exact .inr ⟨hz, by simpa using hz, by simpa using hz⟩
  rcases hcs with rfl | ⟨hne, hb1, hb2⟩
  rotate_left
  · rw [if_pos hne]
    go_enter Tryd.func9, Tryd.ntmps9
    go_wp2_with fail
    rw [← hW1, ← hW2]
    clear hW1 hW2 hsz k2 c0 c1 c2 c3 c4 c5 hne
    refine (H1.out _ K0).mono ?_
    rintro e w3 ⟨rfl, K1⟩
    obtain ⟨hb, hx⟩ := HFA.out _ K1
    obtain ⟨f0, f1⟩ := hx.frozen
    obtain ⟨g0, g1⟩ := hx.cells
    have X := Lib.hid hx
    clear hb hx
    go_wp2_with fail
    exact bodyPost_ret (resBoxF rfl (X.out.store (0#16, 0#16)) rfl rfl) rfl ⟨by unfold RetFE; rfl, (K0.trans K1).set2 (Nat.le_succ _) _ _⟩
  · rw [if_neg (by simp)]
    obtain ⟨res, hres⟩ : ∃ r, r = deadT (F.find? bd) := ⟨_, rfl⟩
    rw [← hres]
    have HRES := Lib.hid hres
    clear hres
    go_enter Tryd.func9, Tryd.ntmps9
    go_wp2_with fail
    rw [← hW1, ← hW2]
    clear hW1 hW2 hsz k2 c0 c1 c2 c3 c4 c5
    refine (H1.out _ K0).mono ?_
    rintro e w3 ⟨rfl, K1⟩
    obtain ⟨c0, c1, c2, c3, c4, c5⟩ := (HFA.out _ K1).1.conj
    go_wp2_with fail
    clear c0 c1 c2 c3 c4 c5
    have HR := Lib.hid (HF.out _ (K0.trans K1))
    go_loopw [5] (fun v wr => ∃ i : Nat, i ≤ F.length ∧ v = .int .i64 i ∧ Keeps w3 wr ∧ Hid (res = deadT ((F.drop i).find? bd))) (fun v _ => F.length - (RowKit.intOf v).toNat)
    case atStart => exact ⟨0, Nat.zero_le _, rfl, Keeps.refl _, HRES.out⟩
    case round =>
      obtain ⟨i, hi, rfl, K3, HI⟩ := hrel
      by_cases hlt : i < F.length
      · have hs := HR.out.isSome (by omega)
        have HG := Lib.hid (fun (W : World) (k : Keeps wr W) => And.intro ((HR.out.keep (K3.trans k)).f0 hlt) ((HR.out.keep (K3.trans k)).f1' hlt))
        have hst := HI.out
        rw [findF_step bd F i hlt] at hst
        generalize fa F i = a at *
        obtain ⟨g0, g1⟩ := HG.out _ (Keeps.refl _)
        obtain ⟨c0, c1, c2, c3, c4, c5⟩ := (HFA.out _ (K1.trans K3)).1.conj
        have ho := EB.out a
        have q2 := fun W k => H2.out W k (facF a)
        have q3 := fun W k => H3.out W k (facF a)
        have hfc := faulty19_any a wr
        generalize facF a = fa_ at *
        generalize aR fa_ = b1 at *
        generalize aQ fa_ = b2 at *
        have HQ2 := Lib.hid q2; have HQ3 := Lib.hid q3; have HFC := Lib.hid hfc
        have hlt' : (i : Int) < (F.length : Int) := by omega
        clear q2 q3 HI hfc
        have HHS := Lib.hid hst; have HO := Lib.hid ho
        clear hst ho
        go_wp2_with fail
        clear g0 g1 c0 c1 c2 c3 c4 c5
        refine HFC.out.mono ?_
        rintro e w5 ⟨rfl, K5⟩
        have K6 := K3.trans K5
        obtain ⟨c0, c1, c2, c3, c4, c5⟩ := (HFA.out _ (K1.trans K6)).1.conj
        go_wp2_with fail
        refine (HQ2.out _ ((K0.trans K1).trans K6)).mono ?_
        rintro e w6 ⟨rfl, rfl⟩
        have ho := HO.out
        have hst := HHS.out
        cases b1
        · have ho2 : bd a = true := by rw [ho]; rfl
          rw [ho2] at hst
          have HS := Lib.hid hst
          have hx := (HFA.out _ (K1.trans K6)).2
          obtain ⟨f0, f1⟩ := hx.frozen
          obtain ⟨p0, p1⟩ := hx.cells
          obtain ⟨d0, d1⟩ := HG.out _ K5
          have X := Lib.hid hx
          clear hx hst ho ho2 HHS HO
          go_wp2_with fail
          exact bodyPost_ret (resBoxF rfl (X.out.store a) rfl rfl) rfl ⟨by rw [HS.out]; unfold RetFE; rfl, ((K0.trans K1).trans K6).set2 (Nat.le_succ _) _ _⟩
        · clear ho hst
          go_wp2_with fail
          refine (HQ3.out _ ((K0.trans K1).trans K6)).mono ?_
          rintro e w7 ⟨rfl, rfl⟩
          have ho := HO.out
          have hst := HHS.out
          cases b2
          · have ho2 : bd a = true := by rw [ho]; rfl
            rw [ho2] at hst
            have HS := Lib.hid hst
            have hx := (HFA.out _ (K1.trans K6)).2
            obtain ⟨f0, f1⟩ := hx.frozen
            obtain ⟨p0, p1⟩ := hx.cells
            obtain ⟨d0, d1⟩ := HG.out _ K5
            have X := Lib.hid hx
            clear hx hst ho ho2 HHS HO
            go_wp2_with fail
            exact bodyPost_ret (resBoxF rfl (X.out.store a) rfl rfl) rfl ⟨by rw [HS.out]; unfold RetFE; rfl, ((K0.trans K1).trans K6).set2 (Nat.le_succ _) _ _⟩
          · have ho2 : bd a = false := by rw [ho]; rfl
            rw [ho2] at hst
            have HS := Lib.hid hst
            clear hst ho ho2 HHS HO c0 c1 c2 c3 c4 c5
            go_wp2_with fail
            go_roundw
            case rel => exact ⟨i + 1, by omega, by go_num, K6, HS⟩
            case measure => simp [RowKit.intOf]; omega
      · obtain ⟨c0, c1, c2, c3, c4, c5⟩ := (HFA.out _ (K1.trans K3)).1.conj
        have hst := HI.out
        rw [List.drop_eq_nil_of_le (by omega), List.find?_nil] at hst
        have HS := Lib.hid hst
        have hx := (HFA.out _ (K1.trans K3)).2
        obtain ⟨f0, f1⟩ := hx.frozen
        obtain ⟨p0, p1⟩ := hx.cells
        have X := Lib.hid hx
        clear hst HI hx
        go_wp2_with fail
        exact bodyPost_ret (resBoxF rfl (X.out.store (0#16, 0#16)) rfl rfl) rfl ⟨by rw [HS.out]; unfold RetFE; rfl, ((K0.trans K1).trans K3).set2 (Nat.le_succ _) _ _⟩
end Go.Proofs.YtcnccoinhohbeaaDoor
