/- Texts joined into one (wip/bin/pack.py): TopJ. -/
import Derived.Test.YtijknodekomdfaaGreatDoorKTa
import Derived.Test.YtijknodekomdfaaGreatDoorKZd
import Derived.Test.YtijknodekomdfaaGreatDoorKZj
import Derived.Test.YtijknodekomdfaaGreatDoorKSa
import Derived.Lib.QuietBelow
import Derived.Deep.DeepCutAuto
/- The statement TopJoint. -/
namespace Go.Proofs.YtijknodekomdfaaGreatDoor
open Go.RowKit Go.Lib Go.Shelf
/-- what the reference of layer 27 makes -/
def mtC (nm : ByteArray) (d : D29) : Cf := ⟨nm, kdOf d.kd, fullS (nOf d.N), setsR d.md d.lr (nOf d.N), setsR d.md d.lw (nOf d.N), madeF (nOf d.N) d.lf⟩
theorem mv_zero (R : List S) : mvL 0 R = R := by
  unfold mvL
  induction R with
  | nil => rfl
  | cons x t ih => rw [List.map_cons, ih, BitVec.shiftLeft_zero]
theorem mt_valid {nm : ByteArray} (hnm : nmB nm = true) (d : D29) : cvf (mtC nm d) = 0 := by
  have hn1 : 1 ≤ nOf d.N := by unfold nOf; omega
  have hn := nOf_le d.N
  have hR := few_cf hn (show (0 : Nat) ≤ 3 by omega) (sets_few d.md d.lr hn1 hn)
  have hQ := few_cf hn (show (0 : Nat) ≤ 3 by omega) (sets_few d.md d.lw hn1 hn)
  rw [mv_zero, show fullS (nOf d.N) <<< 0 = fullS (nOf d.N) from by simp] at hR hQ
  have hF := fv_made (nOf d.N) (show nOf d.N ≤ 12 by omega) d.lf
  obtain ⟨hM1, hM2⟩ := shl_full ⟨0, by omega⟩ ⟨nOf d.N, by omega⟩
  have hM2 := hM2 hn1
  unfold cvf mtC
  dsimp only at *
  rw [show fullS (nOf d.N) <<< 0 = fullS (nOf d.N) from by simp] at hM1 hM2
  rw [if_pos hnm]
  unfold cvS
  have h4 : sv (fullS (nOf d.N)) / 4096 = 0 := by unfold sv; omega
  rw [if_neg ?_, if_neg (by simp [h4]), if_neg (by simpa using hM2), if_neg (by simp [hR]), if_neg (by simp [hQ])]
  · exact hF
  · have : kdOf d.kd = 1 ∨ kdOf d.kd = 2 := by unfold kdOf; omega
    rcases this with e | e <;> rw [e] <;> decide
theorem of27G_any (nm : ByteArray) (d : D29) (w : World) (h : OkD w d) : Calls Tryz.prog 19 #[.agg #[.int .u8 d.kd, .int .u8 d.N, .int .u8 d.md, .slice d.ar d.lr.length d.cr, .slice d.aw d.lw.length d.cw, .slice d.af d.lf.length d.cf], .string nm] w fun e w' => RetG w (mtC nm d) e w' := by
  refine (of27n_any nm d.kd d.N d.md d.lr d.lw d.lf w h.r h.q h.f h.k0 h.k1 h.n0 h.n1 h.m0 h.m1).mono ?_
  rintro e w' ⟨ar, cr, aw, cw, af, cf, rfl, hC, K⟩
  exact ⟨⟨mtC nm d, ar, cr, aw, cw, af, cf⟩, rfl, rfl, hC, K⟩
def acC (wt : S) (m : List F2) (s : S) (x : CA) : Bool := accS28 x.c.kd wt x.c.M x.c.R x.c.Q x.c.F m s
theorem accG_any (x : CA) (wt s : S) (a : Option Addr) (n c : Nat) (m : List F2) (w : World) (h : RdG w x) (hm : Rd w a n c 2 (fl m)) (hn : n ≤ 1000000) (hv : cvf x.c = 0) :
    Calls Tryz.prog 22 #[vg x, .int .u16 (sv wt), .slice a n c, .int .u16 (sv s)] w fun e w' => e = .returned (.bool (acC wt m s x)) ∧ Keeps w w' := by
  haveI : NmOk x.c.nm := ⟨(cvf_cv hv).1⟩
  exact acceptsC_any x.c.kd wt x.c.M s a n c m w h hm hn
/-- what the joint configuration has of the two -/
structure TopJ (z : S) (m : List F2) (s : S) (z1 z2 z3 : CA) : Prop where
  v : cvf z3.c = 0
  saf : safC z z1 = true → safC z z2 = true → safC z z3 = true
  snd : sndC z m z1 = true → sndC z m z2 = true → sndC z m z3 = true
  acc : acC z m s z1 = true ∨ acC z m s z2 = true → acC z m s z3 = true
  wri : sndC z m z3 = true → ∀ t ∈ z3.c.Q, acC z m t z3 = true
theorem topJ (z : S) (m : List F2) (s : S) {z1 z2 z3 : CA} (h3 : z3.c = ofC z1.c z2.c) (h : ofE z1.c z2.c = 0) : TopJ z m s z1 z2 z3 := by
  have ho := of_ok h
  refine ⟨by rw [h3]; exact ho.cvf, fun h1 h2 => ?_, fun h1 h2 => ?_, fun h1 => ?_, fun h1 t ht => sound_writes h1 t ht⟩
  · unfold safC at *
    rw [h3, ho.c]
    exact joint_safe ho h1 h2
  · unfold sndC at *
    rw [h3, ho.c]
    have := joint_sound ho h1 h2
    exact this
  · unfold acC at *
    rw [h3, ho.c]
    have := joint_acc ho h1
    exact this
theorem Blk.c14 {w : World} {B : Nat} {T : TypeId} {a b : D29} {z : S} {am : Option Addr} {m : List F2} {cm : Nat} (h : Blk w B T #[.int .u8 a.kd, .int .u8 a.N, .int .u8 a.md, .slice a.ar a.lr.length a.cr, .slice a.aw a.lw.length a.cw, .slice a.af a.lf.length a.cf, .int .u8 b.kd, .int .u8 b.N, .int .u8 b.md, .slice b.ar b.lr.length b.cr, .slice b.aw b.lw.length b.cw, .slice b.af b.lf.length b.cf, .int .u16 (sv z), .slice am m.length cm]) : w.cell? ⟨B, 0, none⟩ = some (.int .u8 a.kd) ∧ w.cell? ⟨B, 1, none⟩ = some (.int .u8 a.N) ∧ w.cell? ⟨B, 2, none⟩ = some (.int .u8 a.md) ∧ w.cell? ⟨B, 3, none⟩ = some (.slice a.ar a.lr.length a.cr) ∧ w.cell? ⟨B, 4, none⟩ = some (.slice a.aw a.lw.length a.cw) ∧ w.cell? ⟨B, 5, none⟩ = some (.slice a.af a.lf.length a.cf) ∧ w.cell? ⟨B, 6, none⟩ = some (.int .u8 b.kd) ∧ w.cell? ⟨B, 7, none⟩ = some (.int .u8 b.N) ∧ w.cell? ⟨B, 8, none⟩ = some (.int .u8 b.md) ∧ w.cell? ⟨B, 9, none⟩ = some (.slice b.ar b.lr.length b.cr) ∧ w.cell? ⟨B, 10, none⟩ = some (.slice b.aw b.lw.length b.cw) ∧ w.cell? ⟨B, 11, none⟩ = some (.slice b.af b.lf.length b.cf) ∧ w.cell? ⟨B, 12, none⟩ = some (.int .u16 (sv z)) ∧ w.cell? ⟨B, 13, none⟩ = some (.slice am m.length cm) :=
  ⟨h.cell 0 rfl, h.cell 1 rfl, h.cell 2 rfl, h.cell 3 rfl, h.cell 4 rfl, h.cell 5 rfl, h.cell 6 rfl, h.cell 7 rfl, h.cell 8 rfl, h.cell 9 rfl, h.cell 10 rfl, h.cell 11 rfl, h.cell 12 rfl, h.cell 13 rfl⟩
set_option maxRecDepth 20000 in
set_option maxHeartbeats 16000000 in
theorem TopJoint_any (a b : D29) (z : S) (am : Option Addr) (cm : Nat) (m : List F2) (s : S) (w : World) (hT : Tab w) (ha : OkD w a) (hb : OkD w b) (hm : Rd w am m.length cm 2 (fl m)) :
    Calls Tryz.prog 4 #[.agg #[.int .u8 a.kd, .int .u8 a.N, .int .u8 a.md, .slice a.ar a.lr.length a.cr, .slice a.aw a.lw.length a.cw, .slice a.af a.lf.length a.cf, .int .u8 b.kd, .int .u8 b.N, .int .u8 b.md, .slice b.ar b.lr.length b.cr, .slice b.aw b.lw.length b.cw, .slice b.af b.lf.length b.cf, .int .u16 (sv z), .slice am m.length cm], .int .u16 (sv s)] w fun e w' => e = .returned (.bool true) ∧ Keeps w w' := by
  have hb4 := Blk.new w 50 #[.int .u8 a.kd, .int .u8 a.N, .int .u8 a.md, .slice a.ar a.lr.length a.cr, .slice a.aw a.lw.length a.cw, .slice a.af a.lf.length a.cf, .int .u8 b.kd, .int .u8 b.N, .int .u8 b.md, .slice b.ar b.lr.length b.cr, .slice b.aw b.lw.length b.cw, .slice b.af b.lf.length b.cf, .int .u16 (sv z), .slice am m.length cm]
  have KW := (Keeps.refl w).alloc (.cells #[.int .u8 a.kd, .int .u8 a.N, .int .u8 a.md, .slice a.ar a.lr.length a.cr, .slice a.aw a.lw.length a.cw, .slice a.af a.lf.length a.cf, .int .u8 b.kd, .int .u8 b.N, .int .u8 b.md, .slice b.ar b.lr.length b.cr, .slice b.aw b.lw.length b.cw, .slice b.af b.lf.length b.cf, .int .u16 (sv z), .slice am m.length cm] 50)
  have hma := fun W (J : Keeps w W) => of27G_any ⟨#[97]⟩ a W (ha.keep J)
  have hmb := fun W (J : Keeps w W) => of27G_any ⟨#[98]⟩ b W (hb.keep J)
  have hmm := fun W (J : Keeps w W) => made19_any 5 am cm m W (hm.keep J) (by decide) (by decide)
  have hml : (madeF 5 m).length ≤ 1000000 := by have := madeF_le 5 m; omega
  obtain ⟨ml, hml2⟩ : ∃ ml, ml = madeF 5 m := ⟨_, rfl⟩
  rw [← hml2] at hmm hml
  have HA := Lib.hid hma; have HB := Lib.hid hmb; have HM := Lib.hid hmm; have HML := Lib.hid hml; have HB4 := Lib.hid hb4; have HKW := Lib.hid KW; have HT := Lib.hid (hT.keep KW)
  clear hma hmb hmm hml hml2 hb4 KW hT ha hb hm
  go_enter Tryz.func4, Tryz.ntmps4
  go_wp2_with fail
  generalize w.alloc (.cells #[.int .u8 a.kd, .int .u8 a.N, .int .u8 a.md, .slice a.ar a.lr.length a.cr, .slice a.aw a.lw.length a.cw, .slice a.af a.lf.length a.cf, .int .u8 b.kd, .int .u8 b.N, .int .u8 b.md, .slice b.ar b.lr.length b.cr, .slice b.aw b.lw.length b.cw, .slice b.af b.lf.length b.cf, .int .u16 (sv z), .slice am m.length cm] 50) = W1 at *
  refine (awakeT_any _ HT.out).mono ?_
  rintro e W2 ⟨rfl, K1⟩
  have c13 := (HB4.out.keep K1).cell 13 (v := .slice am m.length cm) rfl
  by_cases h20 : 20 < m.length
  · have h20' : (20 : Int) < (m.length : Int) := by omega
    go_wp2_with fail
    refine (awakeT_any _ (HT.out.keep K1)).mono ?_
    rintro e w4 ⟨rfl, K⟩
    go_wp2_with fail
    go_ret
    exact ⟨rfl, (HKW.out.trans K1).trans K⟩
  have h20' : ¬ (20 : Int) < (m.length : Int) := by omega
  go_wp2_with fail
  clear c13 h20 h20'
  have hp : ∀ W', Keeps W2 W' → W'.cell? ⟨w.heap.size, 0, none⟩ = some (.int .u8 a.kd) ∧ W'.cell? ⟨w.heap.size, 1, none⟩ = some (.int .u8 a.N) ∧ W'.cell? ⟨w.heap.size, 2, none⟩ = some (.int .u8 a.md) ∧ W'.cell? ⟨w.heap.size, 3, none⟩ = some (.slice a.ar a.lr.length a.cr) ∧ W'.cell? ⟨w.heap.size, 4, none⟩ = some (.slice a.aw a.lw.length a.cw) ∧ W'.cell? ⟨w.heap.size, 5, none⟩ = some (.slice a.af a.lf.length a.cf) ∧ W'.cell? ⟨w.heap.size, 6, none⟩ = some (.int .u8 b.kd) ∧ W'.cell? ⟨w.heap.size, 7, none⟩ = some (.int .u8 b.N) ∧ W'.cell? ⟨w.heap.size, 8, none⟩ = some (.int .u8 b.md) ∧ W'.cell? ⟨w.heap.size, 9, none⟩ = some (.slice b.ar b.lr.length b.cr) ∧ W'.cell? ⟨w.heap.size, 10, none⟩ = some (.slice b.aw b.lw.length b.cw) ∧ W'.cell? ⟨w.heap.size, 11, none⟩ = some (.slice b.af b.lf.length b.cf) ∧ W'.cell? ⟨w.heap.size, 12, none⟩ = some (.int .u16 (sv z)) ∧ W'.cell? ⟨w.heap.size, 13, none⟩ = some (.slice am m.length cm) := fun W' J => ((HB4.out.keep K1).keep J).c14
  have HP := Lib.hid hp
  clear hp
  go_cut [5, 6, 7] from 12 (fun s5 s6 s7 wx => ∃ B5 B6 z1 z2 a7 c7, s5 = .pointer (some ⟨B5, 0, none⟩) ∧ s6 = .pointer (some ⟨B6, 0, none⟩) ∧ s7 = .slice a7 ml.length c7 ∧ Hid (z1.c = mtC ⟨#[97]⟩ a) ∧ Hid (z2.c = mtC ⟨#[98]⟩ b) ∧ Hid (Blk wx B5 36 #[.string z1.c.nm, .int .i64 z1.c.kd, .int .u16 (sv z1.c.M), .slice z1.ar z1.c.R.length z1.cr, .slice z1.aw z1.c.Q.length z1.cw, .slice z1.af z1.c.F.length z1.cf]) ∧ Hid (Blk wx B6 36 #[.string z2.c.nm, .int .i64 z2.c.kd, .int .u16 (sv z2.c.M), .slice z2.ar z2.c.R.length z2.cr, .slice z2.aw z2.c.Q.length z2.cw, .slice z2.af z2.c.F.length z2.cf]) ∧ Hid (RoG wx z1) ∧ Hid (RoG wx z2) ∧ Hid (Rd wx a7 ml.length c7 2 (fl ml)) ∧ Keeps W2 wx)
  case first =>
    have J : Keeps W2 W2.drew := (Keeps.refl W2).drew
    refine wp_region_held_drew (S := (fun w' => w'.cell? ⟨w.heap.size, 0, none⟩ = some (.int .u8 a.kd) ∧ w'.cell? ⟨w.heap.size, 1, none⟩ = some (.int .u8 a.N) ∧ w'.cell? ⟨w.heap.size, 2, none⟩ = some (.int .u8 a.md) ∧ w'.cell? ⟨w.heap.size, 3, none⟩ = some (.slice a.ar a.lr.length a.cr) ∧ w'.cell? ⟨w.heap.size, 4, none⟩ = some (.slice a.aw a.lw.length a.cw) ∧ w'.cell? ⟨w.heap.size, 5, none⟩ = some (.slice a.af a.lf.length a.cf) ∧ w'.cell? ⟨w.heap.size, 6, none⟩ = some (.int .u8 b.kd) ∧ w'.cell? ⟨w.heap.size, 7, none⟩ = some (.int .u8 b.N) ∧ w'.cell? ⟨w.heap.size, 8, none⟩ = some (.int .u8 b.md) ∧ w'.cell? ⟨w.heap.size, 9, none⟩ = some (.slice b.ar b.lr.length b.cr) ∧ w'.cell? ⟨w.heap.size, 10, none⟩ = some (.slice b.aw b.lw.length b.cw) ∧ w'.cell? ⟨w.heap.size, 11, none⟩ = some (.slice b.af b.lf.length b.cf) ∧ w'.cell? ⟨w.heap.size, 12, none⟩ = some (.int .u16 (sv z)) ∧ w'.cell? ⟨w.heap.size, 13, none⟩ = some (.slice am m.length cm))) (by kernel_rfl) ?_ (fun hHeld => ?_)
    · exact HP.out _ J
    generalize W2.drew = V0 at *
    refine wpAnyH_take (i := 0) (oi := ⟨_, _, _, _, _, _⟩) (v := ?_) rfl (by kernel_rfl) (by kernel_rfl) (by kernel_rfl) (fun _ _ _ h => h) (Or.inl ⟨by rfl, ?_⟩) (by assumption) ?_
    rotate_left 1
    · intro w hSw; (try dsimp only at hSw); go_simp <;> with_reducible rfl
    (try simp only [Act.put]); (try simp only [List.setIfInBounds_toArray]); (try simp only [List.set_cons_succ]); (try simp only [List.set_cons_zero])
    refine wpAnyH_take (i := 1) (oi := ⟨_, _, _, _, _, _⟩) (v := ?_) rfl (by kernel_rfl) (by kernel_rfl) (by kernel_rfl) (fun _ _ _ h => h) (Or.inl ⟨by rfl, ?_⟩) (by assumption) ?_
    rotate_left 1
    · intro w hSw; (try dsimp only at hSw); go_simp <;> with_reducible rfl
    (try simp only [Act.put]); (try simp only [List.setIfInBounds_toArray]); (try simp only [List.set_cons_succ]); (try simp only [List.set_cons_zero])
    refine wpAnyH_take (i := 3) (oi := ⟨_, _, _, _, _, _⟩) (v := ?_) rfl (by kernel_rfl) (by kernel_rfl) (by kernel_rfl) (fun _ _ _ h => h) (Or.inl ⟨by rfl, ?_⟩) (by assumption) ?_
    rotate_left 1
    · intro w hSw; (try dsimp only at hSw); go_simp <;> with_reducible rfl
    (try simp only [Act.put]); (try simp only [List.setIfInBounds_toArray]); (try simp only [List.set_cons_succ]); (try simp only [List.set_cons_zero])
    refine wpAnyH_take (i := 4) (oi := ⟨_, _, _, _, _, _⟩) (v := ?_) rfl (by kernel_rfl) (by kernel_rfl) (by kernel_rfl) (fun _ _ _ h => h) (Or.inl ⟨by rfl, ?_⟩) (by assumption) ?_
    rotate_left 1
    · intro w hSw; (try dsimp only at hSw); go_simp <;> with_reducible rfl
    (try simp only [Act.put]); (try simp only [List.setIfInBounds_toArray]); (try simp only [List.set_cons_succ]); (try simp only [List.set_cons_zero])
    refine wpAnyH_take (i := 6) (oi := ⟨_, _, _, _, _, _⟩) (v := ?_) rfl (by kernel_rfl) (by kernel_rfl) (by kernel_rfl) (fun _ _ _ h => h) (Or.inl ⟨by rfl, ?_⟩) (by assumption) ?_
    rotate_left 1
    · intro w hSw; (try dsimp only at hSw); go_simp <;> with_reducible rfl
    (try simp only [Act.put]); (try simp only [List.setIfInBounds_toArray]); (try simp only [List.set_cons_succ]); (try simp only [List.set_cons_zero])
    refine wpAnyH_take (i := 7) (oi := ⟨_, _, _, _, _, _⟩) (v := ?_) rfl (by kernel_rfl) (by kernel_rfl) (by kernel_rfl) (fun _ _ _ h => h) (Or.inl ⟨by rfl, ?_⟩) (by assumption) ?_
    rotate_left 1
    · intro w hSw; (try dsimp only at hSw); go_simp <;> with_reducible rfl
    (try simp only [Act.put]); (try simp only [List.setIfInBounds_toArray]); (try simp only [List.set_cons_succ]); (try simp only [List.set_cons_zero])
    refine wpAnyH_ready (rs := [2, 9, 10]) (by kernel_rfl) (by simp) ?_
    refine AllReadyH.cons (o := ⟨_, _, _, _, _, _⟩) rfl (fun K hK => ?_) (AllReadyH.cons (o := ⟨_, _, _, _, _, _⟩) rfl (fun K hK => ?_) (AllReadyH.cons (o := ⟨_, _, _, _, _, _⟩) rfl (fun K hK => ?_) AllReadyH.nil))
    · go_simp
      have hcl := HA.out V0 (HKW.out.trans (K1.trans J))
      refine hcl.mono ?_
      clear hcl
      rintro e V1 ⟨z1, rfl, hz, hR1, K9⟩
      have HZ1 := Lib.hid hz
      clear hz
      unfold vg
      dsimp only
      replace J := J.trans K9
      clear K9
      refine hK.out _ _ ?_ (fun hHeld => ?_)
      · exact HP.out _ J
      clear hK K
      (try simp only [Act.put]); (try simp only [List.setIfInBounds_toArray]); (try simp only [List.set_cons_succ]); (try simp only [List.set_cons_zero])
      refine wpAnyH_ready (rs := [5, 9, 10]) (by kernel_rfl) (by simp) ?_
      refine AllReadyH.cons (o := ⟨_, _, _, _, _, _⟩) rfl (fun K hK => ?_) (AllReadyH.cons (o := ⟨_, _, _, _, _, _⟩) rfl (fun K hK => ?_) (AllReadyH.cons (o := ⟨_, _, _, _, _, _⟩) rfl (fun K hK => ?_) AllReadyH.nil))
      · go_simp
        have hcl := HB.out V1 (HKW.out.trans (K1.trans J))
        refine hcl.mono ?_
        clear hcl
        rintro e V2 ⟨z2, rfl, hz, hR2, K9⟩
        have HZ2 := Lib.hid hz
        clear hz
        unfold vg
        dsimp only
        replace hR1 := hR1.keep K9
        replace J := J.trans K9
        clear K9
        refine hK.out _ _ ?_ (fun hHeld => ?_)
        · exact HP.out _ J
        clear hK K
        (try simp only [Act.put]); (try simp only [List.setIfInBounds_toArray]); (try simp only [List.set_cons_succ]); (try simp only [List.set_cons_zero])
        refine wpAnyH_ready (rs := [8, 9, 10]) (by kernel_rfl) (by simp) ?_
        refine AllReadyH.cons (o := ⟨_, _, _, _, _, _⟩) rfl (fun K hK => ?_) (AllReadyH.cons (o := ⟨_, _, _, _, _, _⟩) rfl (fun K hK => ?_) (AllReadyH.cons (o := ⟨_, _, _, _, _, _⟩) rfl (fun K hK => ?_) AllReadyH.nil))
        · go_simp
          have hcl := HM.out V2 (HKW.out.trans (K1.trans J))
          refine hcl.mono ?_
          clear hcl
          rintro e V3 ⟨v7, rfl, hO⟩
          have K9 := hO.2
          have hm7 := hO.row0
          obtain ⟨a7, c7, rfl, _⟩ := hO.rd
          clear hO
          replace hR1 := hR1.keep K9
          replace hR2 := hR2.keep K9
          replace J := J.trans K9
          clear K9
          refine hK.out _ _ ?_ (fun hHeld => ?_)
          · exact HP.out _ J
          clear hK K
          (try simp only [Act.put]); (try simp only [List.setIfInBounds_toArray]); (try simp only [List.set_cons_succ]); (try simp only [List.set_cons_zero])
          refine wpAnyH_ready (rs := [9, 10]) (by kernel_rfl) (by simp) ?_
          refine AllReadyH.cons (o := ⟨_, _, _, _, _, _⟩) rfl (fun K hK => ?_) (AllReadyH.cons (o := ⟨_, _, _, _, _, _⟩) rfl (fun K hK => ?_) AllReadyH.nil)
          · go_simp
            have hn5 := Blk.new V3 36 zG
            have KA := (Keeps.refl V3).alloc (.cells zG 36)
            have hg5 : W2.heap.size ≤ V3.heap.size := J.size
            replace hR1 := hR1.keep KA
            replace hR2 := hR2.keep KA
            replace hm7 := hm7.keep KA
            replace J := J.trans KA
            clear KA
            generalize V3.alloc (.cells zG 36) = V4 at *
            generalize V3.heap.size = B5 at *
            refine hK.out _ _ ?_ (fun hHeld => ?_)
            · exact HP.out _ J
            clear hK K
            (try simp only [Act.put]); (try simp only [List.setIfInBounds_toArray]); (try simp only [List.set_cons_succ]); (try simp only [List.set_cons_zero])
            refine wpAnyH_ready (rs := [10]) (by kernel_rfl) (by simp) ?_
            refine AllReadyH.cons (o := ⟨_, _, _, _, _, _⟩) rfl (fun K hK => ?_) AllReadyH.nil
            · go_simp
              have hn6 := Blk.new V4 36 zG
              have KA := (Keeps.refl V4).alloc (.cells zG 36)
              have hg6 : W2.heap.size ≤ V4.heap.size := J.size
              have hne : V4.heap.size ≠ B5 := by have := hn5.lt; omega
              replace hR1 := hR1.keep KA
              replace hR2 := hR2.keep KA
              replace hm7 := hm7.keep KA
              replace hn5 := hn5.keep KA
              replace J := J.trans KA
              clear KA
              generalize V4.alloc (.cells zG 36) = V5 at *
              generalize V4.heap.size = B6 at *
              have HNE56 := Lib.hid hne.symm
              clear hne
              refine hK.out _ _ ?_ (fun hHeld => ?_)
              · exact HP.out _ J
              clear hK K
              (try simp only [Act.put]); (try simp only [List.setIfInBounds_toArray]); (try simp only [List.set_cons_succ]); (try simp only [List.set_cons_zero])
              refine wpAnyH_ready (rs := [11]) (by kernel_rfl) (by simp) ?_
              refine AllReadyH.cons (o := ⟨_, _, _, _, _, _⟩) rfl (fun K hK => ?_) AllReadyH.nil
              obtain ⟨c0, c1, c2, c3, c4, c5⟩ := hn5.c6
              obtain ⟨g0, g1, g2, g3, g4, g5⟩ := hn5.f6
              go_simp
              clear c0 c1 c2 c3 c4 c5 g0 g1 g2 g3 g4 g5
              replace hn6 := hn6.other6 HNE56.out.symm (.string z1.c.nm) (.int .i64 z1.c.kd) (.int .u16 (sv z1.c.M)) (.slice z1.ar z1.c.R.length z1.cr) (.slice z1.aw z1.c.Q.length z1.cw) (.slice z1.af z1.c.F.length z1.cf)
              replace hR1 := hR1.set6 hn5 (.string z1.c.nm) (.int .i64 z1.c.kd) (.int .u16 (sv z1.c.M)) (.slice z1.ar z1.c.R.length z1.cr) (.slice z1.aw z1.c.Q.length z1.cw) (.slice z1.af z1.c.F.length z1.cf)
              replace hR2 := hR2.set6 hn5 (.string z1.c.nm) (.int .i64 z1.c.kd) (.int .u16 (sv z1.c.M)) (.slice z1.ar z1.c.R.length z1.cr) (.slice z1.aw z1.c.Q.length z1.cw) (.slice z1.af z1.c.F.length z1.cf)
              replace hm7 := hm7.set6 hn5 (by decide) (.string z1.c.nm) (.int .i64 z1.c.kd) (.int .u16 (sv z1.c.M)) (.slice z1.ar z1.c.R.length z1.cr) (.slice z1.aw z1.c.Q.length z1.cw) (.slice z1.af z1.c.F.length z1.cf)
              replace hn5 := hn5.set6 (.string z1.c.nm) (.int .i64 z1.c.kd) (.int .u16 (sv z1.c.M)) (.slice z1.ar z1.c.R.length z1.cr) (.slice z1.aw z1.c.Q.length z1.cw) (.slice z1.af z1.c.F.length z1.cf)
              replace J := keeps_set6 J hg5 (.string z1.c.nm) (.int .i64 z1.c.kd) (.int .u16 (sv z1.c.M)) (.slice z1.ar z1.c.R.length z1.cr) (.slice z1.aw z1.c.Q.length z1.cw) (.slice z1.af z1.c.F.length z1.cf)
              generalize ((((((V5.setCell ⟨B5, 0, none⟩ (.string z1.c.nm)).setCell ⟨B5, 1, none⟩ (.int .i64 z1.c.kd)).setCell ⟨B5, 2, none⟩ (.int .u16 (sv z1.c.M))).setCell ⟨B5, 3, none⟩ (.slice z1.ar z1.c.R.length z1.cr)).setCell ⟨B5, 4, none⟩ (.slice z1.aw z1.c.Q.length z1.cw)).setCell ⟨B5, 5, none⟩ (.slice z1.af z1.c.F.length z1.cf)) = VA at *
              refine hK.out _ _ ?_ (fun hHeld => ?_)
              · exact HP.out _ J
              clear hK K
              (try simp only [Act.put]); (try simp only [List.setIfInBounds_toArray]); (try simp only [List.set_cons_succ]); (try simp only [List.set_cons_zero])
              refine wpAnyH_ready (rs := [12]) (by kernel_rfl) (by simp) ?_
              refine AllReadyH.cons (o := ⟨_, _, _, _, _, _⟩) rfl (fun K hK => ?_) AllReadyH.nil
              obtain ⟨c0, c1, c2, c3, c4, c5⟩ := hn6.c6
              obtain ⟨g0, g1, g2, g3, g4, g5⟩ := hn6.f6
              go_simp
              clear c0 c1 c2 c3 c4 c5 g0 g1 g2 g3 g4 g5
              replace hn5 := hn5.other6 HNE56.out (.string z2.c.nm) (.int .i64 z2.c.kd) (.int .u16 (sv z2.c.M)) (.slice z2.ar z2.c.R.length z2.cr) (.slice z2.aw z2.c.Q.length z2.cw) (.slice z2.af z2.c.F.length z2.cf)
              replace hR1 := hR1.set6 hn6 (.string z2.c.nm) (.int .i64 z2.c.kd) (.int .u16 (sv z2.c.M)) (.slice z2.ar z2.c.R.length z2.cr) (.slice z2.aw z2.c.Q.length z2.cw) (.slice z2.af z2.c.F.length z2.cf)
              replace hR2 := hR2.set6 hn6 (.string z2.c.nm) (.int .i64 z2.c.kd) (.int .u16 (sv z2.c.M)) (.slice z2.ar z2.c.R.length z2.cr) (.slice z2.aw z2.c.Q.length z2.cw) (.slice z2.af z2.c.F.length z2.cf)
              replace hm7 := hm7.set6 hn6 (by decide) (.string z2.c.nm) (.int .i64 z2.c.kd) (.int .u16 (sv z2.c.M)) (.slice z2.ar z2.c.R.length z2.cr) (.slice z2.aw z2.c.Q.length z2.cw) (.slice z2.af z2.c.F.length z2.cf)
              replace hn6 := hn6.set6 (.string z2.c.nm) (.int .i64 z2.c.kd) (.int .u16 (sv z2.c.M)) (.slice z2.ar z2.c.R.length z2.cr) (.slice z2.aw z2.c.Q.length z2.cw) (.slice z2.af z2.c.F.length z2.cf)
              replace J := keeps_set6 J hg6 (.string z2.c.nm) (.int .i64 z2.c.kd) (.int .u16 (sv z2.c.M)) (.slice z2.ar z2.c.R.length z2.cr) (.slice z2.aw z2.c.Q.length z2.cw) (.slice z2.af z2.c.F.length z2.cf)
              generalize ((((((VA.setCell ⟨B6, 0, none⟩ (.string z2.c.nm)).setCell ⟨B6, 1, none⟩ (.int .i64 z2.c.kd)).setCell ⟨B6, 2, none⟩ (.int .u16 (sv z2.c.M))).setCell ⟨B6, 3, none⟩ (.slice z2.ar z2.c.R.length z2.cr)).setCell ⟨B6, 4, none⟩ (.slice z2.aw z2.c.Q.length z2.cw)).setCell ⟨B6, 5, none⟩ (.slice z2.af z2.c.F.length z2.cf)) = VB at *
              refine hK.out _ _ ?_ (fun hHeld => ?_)
              · exact HP.out _ J
              clear hK K
              (try simp only [Act.put]); (try simp only [List.setIfInBounds_toArray]); (try simp only [List.set_cons_succ]); (try simp only [List.set_cons_zero])
              refine wpAnyH_take (i := 13) (oi := ⟨_, _, _, _, _, _⟩) (v := ?_) rfl (by kernel_rfl) (by kernel_rfl) (by kernel_rfl) (fun _ _ _ h => h) (Or.inl ⟨by rfl, ?_⟩) (by assumption) ?_
              rotate_left 1
              · intro w hSw; (try dsimp only at hSw); go_simp <;> with_reducible rfl
              (try simp only [Act.put]); (try simp only [List.setIfInBounds_toArray]); (try simp only [List.set_cons_succ]); (try simp only [List.set_cons_zero])
              refine wpAnyH_done (by kernel_rfl) ?_ _
              go_wp2_with fail
              go_meet
              case rel => exact ⟨B5, B6, z1, z2, a7, c7, rfl, rfl, rfl, HZ1, HZ2, Lib.hid hn5, Lib.hid hn6, Lib.hid hR1, Lib.hid hR2, Lib.hid hm7.rd, J⟩
          · go_simp
            have hn6 := Blk.new V3 36 zG
            have KA := (Keeps.refl V3).alloc (.cells zG 36)
            have hg6 : W2.heap.size ≤ V3.heap.size := J.size
            replace hR1 := hR1.keep KA
            replace hR2 := hR2.keep KA
            replace hm7 := hm7.keep KA
            replace J := J.trans KA
            clear KA
            generalize V3.alloc (.cells zG 36) = V6 at *
            generalize V3.heap.size = B6 at *
            refine hK.out _ _ ?_ (fun hHeld => ?_)
            · exact HP.out _ J
            clear hK K
            (try simp only [Act.put]); (try simp only [List.setIfInBounds_toArray]); (try simp only [List.set_cons_succ]); (try simp only [List.set_cons_zero])
            refine wpAnyH_ready (rs := [9]) (by kernel_rfl) (by simp) ?_
            refine AllReadyH.cons (o := ⟨_, _, _, _, _, _⟩) rfl (fun K hK => ?_) AllReadyH.nil
            · go_simp
              have hn5 := Blk.new V6 36 zG
              have KA := (Keeps.refl V6).alloc (.cells zG 36)
              have hg5 : W2.heap.size ≤ V6.heap.size := J.size
              have hne : V6.heap.size ≠ B6 := by have := hn6.lt; omega
              replace hR1 := hR1.keep KA
              replace hR2 := hR2.keep KA
              replace hm7 := hm7.keep KA
              replace hn6 := hn6.keep KA
              replace J := J.trans KA
              clear KA
              generalize V6.alloc (.cells zG 36) = V7 at *
              generalize V6.heap.size = B5 at *
              have HNE56 := Lib.hid hne
              clear hne
              refine hK.out _ _ ?_ (fun hHeld => ?_)
              · exact HP.out _ J
              clear hK K
              (try simp only [Act.put]); (try simp only [List.setIfInBounds_toArray]); (try simp only [List.set_cons_succ]); (try simp only [List.set_cons_zero])
              refine wpAnyH_ready (rs := [11]) (by kernel_rfl) (by simp) ?_
              refine AllReadyH.cons (o := ⟨_, _, _, _, _, _⟩) rfl (fun K hK => ?_) AllReadyH.nil
              obtain ⟨c0, c1, c2, c3, c4, c5⟩ := hn5.c6
              obtain ⟨g0, g1, g2, g3, g4, g5⟩ := hn5.f6
              go_simp
              clear c0 c1 c2 c3 c4 c5 g0 g1 g2 g3 g4 g5
              replace hn6 := hn6.other6 HNE56.out.symm (.string z1.c.nm) (.int .i64 z1.c.kd) (.int .u16 (sv z1.c.M)) (.slice z1.ar z1.c.R.length z1.cr) (.slice z1.aw z1.c.Q.length z1.cw) (.slice z1.af z1.c.F.length z1.cf)
              replace hR1 := hR1.set6 hn5 (.string z1.c.nm) (.int .i64 z1.c.kd) (.int .u16 (sv z1.c.M)) (.slice z1.ar z1.c.R.length z1.cr) (.slice z1.aw z1.c.Q.length z1.cw) (.slice z1.af z1.c.F.length z1.cf)
              replace hR2 := hR2.set6 hn5 (.string z1.c.nm) (.int .i64 z1.c.kd) (.int .u16 (sv z1.c.M)) (.slice z1.ar z1.c.R.length z1.cr) (.slice z1.aw z1.c.Q.length z1.cw) (.slice z1.af z1.c.F.length z1.cf)
              replace hm7 := hm7.set6 hn5 (by decide) (.string z1.c.nm) (.int .i64 z1.c.kd) (.int .u16 (sv z1.c.M)) (.slice z1.ar z1.c.R.length z1.cr) (.slice z1.aw z1.c.Q.length z1.cw) (.slice z1.af z1.c.F.length z1.cf)
              replace hn5 := hn5.set6 (.string z1.c.nm) (.int .i64 z1.c.kd) (.int .u16 (sv z1.c.M)) (.slice z1.ar z1.c.R.length z1.cr) (.slice z1.aw z1.c.Q.length z1.cw) (.slice z1.af z1.c.F.length z1.cf)
              replace J := keeps_set6 J hg5 (.string z1.c.nm) (.int .i64 z1.c.kd) (.int .u16 (sv z1.c.M)) (.slice z1.ar z1.c.R.length z1.cr) (.slice z1.aw z1.c.Q.length z1.cw) (.slice z1.af z1.c.F.length z1.cf)
              generalize ((((((V7.setCell ⟨B5, 0, none⟩ (.string z1.c.nm)).setCell ⟨B5, 1, none⟩ (.int .i64 z1.c.kd)).setCell ⟨B5, 2, none⟩ (.int .u16 (sv z1.c.M))).setCell ⟨B5, 3, none⟩ (.slice z1.ar z1.c.R.length z1.cr)).setCell ⟨B5, 4, none⟩ (.slice z1.aw z1.c.Q.length z1.cw)).setCell ⟨B5, 5, none⟩ (.slice z1.af z1.c.F.length z1.cf)) = VA at *
              refine hK.out _ _ ?_ (fun hHeld => ?_)
              · exact HP.out _ J
              clear hK K
              (try simp only [Act.put]); (try simp only [List.setIfInBounds_toArray]); (try simp only [List.set_cons_succ]); (try simp only [List.set_cons_zero])
              refine wpAnyH_ready (rs := [12]) (by kernel_rfl) (by simp) ?_
              refine AllReadyH.cons (o := ⟨_, _, _, _, _, _⟩) rfl (fun K hK => ?_) AllReadyH.nil
              obtain ⟨c0, c1, c2, c3, c4, c5⟩ := hn6.c6
              obtain ⟨g0, g1, g2, g3, g4, g5⟩ := hn6.f6
              go_simp
              clear c0 c1 c2 c3 c4 c5 g0 g1 g2 g3 g4 g5
              replace hn5 := hn5.other6 HNE56.out (.string z2.c.nm) (.int .i64 z2.c.kd) (.int .u16 (sv z2.c.M)) (.slice z2.ar z2.c.R.length z2.cr) (.slice z2.aw z2.c.Q.length z2.cw) (.slice z2.af z2.c.F.length z2.cf)
              replace hR1 := hR1.set6 hn6 (.string z2.c.nm) (.int .i64 z2.c.kd) (.int .u16 (sv z2.c.M)) (.slice z2.ar z2.c.R.length z2.cr) (.slice z2.aw z2.c.Q.length z2.cw) (.slice z2.af z2.c.F.length z2.cf)
              replace hR2 := hR2.set6 hn6 (.string z2.c.nm) (.int .i64 z2.c.kd) (.int .u16 (sv z2.c.M)) (.slice z2.ar z2.c.R.length z2.cr) (.slice z2.aw z2.c.Q.length z2.cw) (.slice z2.af z2.c.F.length z2.cf)
              replace hm7 := hm7.set6 hn6 (by decide) (.string z2.c.nm) (.int .i64 z2.c.kd) (.int .u16 (sv z2.c.M)) (.slice z2.ar z2.c.R.length z2.cr) (.slice z2.aw z2.c.Q.length z2.cw) (.slice z2.af z2.c.F.length z2.cf)
              replace hn6 := hn6.set6 (.string z2.c.nm) (.int .i64 z2.c.kd) (.int .u16 (sv z2.c.M)) (.slice z2.ar z2.c.R.length z2.cr) (.slice z2.aw z2.c.Q.length z2.cw) (.slice z2.af z2.c.F.length z2.cf)
              replace J := keeps_set6 J hg6 (.string z2.c.nm) (.int .i64 z2.c.kd) (.int .u16 (sv z2.c.M)) (.slice z2.ar z2.c.R.length z2.cr) (.slice z2.aw z2.c.Q.length z2.cw) (.slice z2.af z2.c.F.length z2.cf)
              generalize ((((((VA.setCell ⟨B6, 0, none⟩ (.string z2.c.nm)).setCell ⟨B6, 1, none⟩ (.int .i64 z2.c.kd)).setCell ⟨B6, 2, none⟩ (.int .u16 (sv z2.c.M))).setCell ⟨B6, 3, none⟩ (.slice z2.ar z2.c.R.length z2.cr)).setCell ⟨B6, 4, none⟩ (.slice z2.aw z2.c.Q.length z2.cw)).setCell ⟨B6, 5, none⟩ (.slice z2.af z2.c.F.length z2.cf)) = VB at *
              refine hK.out _ _ ?_ (fun hHeld => ?_)
              · exact HP.out _ J
              clear hK K
              (try simp only [Act.put]); (try simp only [List.setIfInBounds_toArray]); (try simp only [List.set_cons_succ]); (try simp only [List.set_cons_zero])
              refine wpAnyH_take (i := 13) (oi := ⟨_, _, _, _, _, _⟩) (v := ?_) rfl (by kernel_rfl) (by kernel_rfl) (by kernel_rfl) (fun _ _ _ h => h) (Or.inl ⟨by rfl, ?_⟩) (by assumption) ?_
              rotate_left 1
              · intro w hSw; (try dsimp only at hSw); go_simp <;> with_reducible rfl
              (try simp only [Act.put]); (try simp only [List.setIfInBounds_toArray]); (try simp only [List.set_cons_succ]); (try simp only [List.set_cons_zero])
              refine wpAnyH_done (by kernel_rfl) ?_ _
              go_wp2_with fail
              go_meet
              case rel => exact ⟨B5, B6, z1, z2, a7, c7, rfl, rfl, rfl, HZ1, HZ2, Lib.hid hn5, Lib.hid hn6, Lib.hid hR1, Lib.hid hR2, Lib.hid hm7.rd, J⟩
        · go_simp
          have hn5 := Blk.new V2 36 zG
          have KA := (Keeps.refl V2).alloc (.cells zG 36)
          have hg5 : W2.heap.size ≤ V2.heap.size := J.size
          replace hR1 := hR1.keep KA
          replace hR2 := hR2.keep KA
          replace J := J.trans KA
          clear KA
          generalize V2.alloc (.cells zG 36) = V8 at *
          generalize V2.heap.size = B5 at *
          refine hK.out _ _ ?_ (fun hHeld => ?_)
          · exact HP.out _ J
          clear hK K
          (try simp only [Act.put]); (try simp only [List.setIfInBounds_toArray]); (try simp only [List.set_cons_succ]); (try simp only [List.set_cons_zero])
          refine wpAnyH_ready (rs := [8, 10]) (by kernel_rfl) (by simp) ?_
          refine AllReadyH.cons (o := ⟨_, _, _, _, _, _⟩) rfl (fun K hK => ?_) (AllReadyH.cons (o := ⟨_, _, _, _, _, _⟩) rfl (fun K hK => ?_) AllReadyH.nil)
          · go_simp
            have hcl := HM.out V8 (HKW.out.trans (K1.trans J))
            refine hcl.mono ?_
            clear hcl
            rintro e V9 ⟨v7, rfl, hO⟩
            have K9 := hO.2
            have hm7 := hO.row0
            obtain ⟨a7, c7, rfl, _⟩ := hO.rd
            clear hO
            replace hR1 := hR1.keep K9
            replace hR2 := hR2.keep K9
            replace hn5 := hn5.keep K9
            replace J := J.trans K9
            clear K9
            refine hK.out _ _ ?_ (fun hHeld => ?_)
            · exact HP.out _ J
            clear hK K
            (try simp only [Act.put]); (try simp only [List.setIfInBounds_toArray]); (try simp only [List.set_cons_succ]); (try simp only [List.set_cons_zero])
            refine wpAnyH_ready (rs := [10]) (by kernel_rfl) (by simp) ?_
            refine AllReadyH.cons (o := ⟨_, _, _, _, _, _⟩) rfl (fun K hK => ?_) AllReadyH.nil
            · go_simp
              have hn6 := Blk.new V9 36 zG
              have KA := (Keeps.refl V9).alloc (.cells zG 36)
              have hg6 : W2.heap.size ≤ V9.heap.size := J.size
              have hne : V9.heap.size ≠ B5 := by have := hn5.lt; omega
              replace hR1 := hR1.keep KA
              replace hR2 := hR2.keep KA
              replace hm7 := hm7.keep KA
              replace hn5 := hn5.keep KA
              replace J := J.trans KA
              clear KA
              generalize V9.alloc (.cells zG 36) = V10 at *
              generalize V9.heap.size = B6 at *
              have HNE56 := Lib.hid hne.symm
              clear hne
              refine hK.out _ _ ?_ (fun hHeld => ?_)
              · exact HP.out _ J
              clear hK K
              (try simp only [Act.put]); (try simp only [List.setIfInBounds_toArray]); (try simp only [List.set_cons_succ]); (try simp only [List.set_cons_zero])
              refine wpAnyH_ready (rs := [11]) (by kernel_rfl) (by simp) ?_
              refine AllReadyH.cons (o := ⟨_, _, _, _, _, _⟩) rfl (fun K hK => ?_) AllReadyH.nil
              obtain ⟨c0, c1, c2, c3, c4, c5⟩ := hn5.c6
              obtain ⟨g0, g1, g2, g3, g4, g5⟩ := hn5.f6
              go_simp
              clear c0 c1 c2 c3 c4 c5 g0 g1 g2 g3 g4 g5
              replace hn6 := hn6.other6 HNE56.out.symm (.string z1.c.nm) (.int .i64 z1.c.kd) (.int .u16 (sv z1.c.M)) (.slice z1.ar z1.c.R.length z1.cr) (.slice z1.aw z1.c.Q.length z1.cw) (.slice z1.af z1.c.F.length z1.cf)
              replace hR1 := hR1.set6 hn5 (.string z1.c.nm) (.int .i64 z1.c.kd) (.int .u16 (sv z1.c.M)) (.slice z1.ar z1.c.R.length z1.cr) (.slice z1.aw z1.c.Q.length z1.cw) (.slice z1.af z1.c.F.length z1.cf)
              replace hR2 := hR2.set6 hn5 (.string z1.c.nm) (.int .i64 z1.c.kd) (.int .u16 (sv z1.c.M)) (.slice z1.ar z1.c.R.length z1.cr) (.slice z1.aw z1.c.Q.length z1.cw) (.slice z1.af z1.c.F.length z1.cf)
              replace hm7 := hm7.set6 hn5 (by decide) (.string z1.c.nm) (.int .i64 z1.c.kd) (.int .u16 (sv z1.c.M)) (.slice z1.ar z1.c.R.length z1.cr) (.slice z1.aw z1.c.Q.length z1.cw) (.slice z1.af z1.c.F.length z1.cf)
              replace hn5 := hn5.set6 (.string z1.c.nm) (.int .i64 z1.c.kd) (.int .u16 (sv z1.c.M)) (.slice z1.ar z1.c.R.length z1.cr) (.slice z1.aw z1.c.Q.length z1.cw) (.slice z1.af z1.c.F.length z1.cf)
              replace J := keeps_set6 J hg5 (.string z1.c.nm) (.int .i64 z1.c.kd) (.int .u16 (sv z1.c.M)) (.slice z1.ar z1.c.R.length z1.cr) (.slice z1.aw z1.c.Q.length z1.cw) (.slice z1.af z1.c.F.length z1.cf)
              generalize ((((((V10.setCell ⟨B5, 0, none⟩ (.string z1.c.nm)).setCell ⟨B5, 1, none⟩ (.int .i64 z1.c.kd)).setCell ⟨B5, 2, none⟩ (.int .u16 (sv z1.c.M))).setCell ⟨B5, 3, none⟩ (.slice z1.ar z1.c.R.length z1.cr)).setCell ⟨B5, 4, none⟩ (.slice z1.aw z1.c.Q.length z1.cw)).setCell ⟨B5, 5, none⟩ (.slice z1.af z1.c.F.length z1.cf)) = VA at *
              refine hK.out _ _ ?_ (fun hHeld => ?_)
              · exact HP.out _ J
              clear hK K
              (try simp only [Act.put]); (try simp only [List.setIfInBounds_toArray]); (try simp only [List.set_cons_succ]); (try simp only [List.set_cons_zero])
              refine wpAnyH_ready (rs := [12]) (by kernel_rfl) (by simp) ?_
              refine AllReadyH.cons (o := ⟨_, _, _, _, _, _⟩) rfl (fun K hK => ?_) AllReadyH.nil
              obtain ⟨c0, c1, c2, c3, c4, c5⟩ := hn6.c6
              obtain ⟨g0, g1, g2, g3, g4, g5⟩ := hn6.f6
              go_simp
              clear c0 c1 c2 c3 c4 c5 g0 g1 g2 g3 g4 g5
              replace hn5 := hn5.other6 HNE56.out (.string z2.c.nm) (.int .i64 z2.c.kd) (.int .u16 (sv z2.c.M)) (.slice z2.ar z2.c.R.length z2.cr) (.slice z2.aw z2.c.Q.length z2.cw) (.slice z2.af z2.c.F.length z2.cf)
              replace hR1 := hR1.set6 hn6 (.string z2.c.nm) (.int .i64 z2.c.kd) (.int .u16 (sv z2.c.M)) (.slice z2.ar z2.c.R.length z2.cr) (.slice z2.aw z2.c.Q.length z2.cw) (.slice z2.af z2.c.F.length z2.cf)
              replace hR2 := hR2.set6 hn6 (.string z2.c.nm) (.int .i64 z2.c.kd) (.int .u16 (sv z2.c.M)) (.slice z2.ar z2.c.R.length z2.cr) (.slice z2.aw z2.c.Q.length z2.cw) (.slice z2.af z2.c.F.length z2.cf)
              replace hm7 := hm7.set6 hn6 (by decide) (.string z2.c.nm) (.int .i64 z2.c.kd) (.int .u16 (sv z2.c.M)) (.slice z2.ar z2.c.R.length z2.cr) (.slice z2.aw z2.c.Q.length z2.cw) (.slice z2.af z2.c.F.length z2.cf)
              replace hn6 := hn6.set6 (.string z2.c.nm) (.int .i64 z2.c.kd) (.int .u16 (sv z2.c.M)) (.slice z2.ar z2.c.R.length z2.cr) (.slice z2.aw z2.c.Q.length z2.cw) (.slice z2.af z2.c.F.length z2.cf)
              replace J := keeps_set6 J hg6 (.string z2.c.nm) (.int .i64 z2.c.kd) (.int .u16 (sv z2.c.M)) (.slice z2.ar z2.c.R.length z2.cr) (.slice z2.aw z2.c.Q.length z2.cw) (.slice z2.af z2.c.F.length z2.cf)
              generalize ((((((VA.setCell ⟨B6, 0, none⟩ (.string z2.c.nm)).setCell ⟨B6, 1, none⟩ (.int .i64 z2.c.kd)).setCell ⟨B6, 2, none⟩ (.int .u16 (sv z2.c.M))).setCell ⟨B6, 3, none⟩ (.slice z2.ar z2.c.R.length z2.cr)).setCell ⟨B6, 4, none⟩ (.slice z2.aw z2.c.Q.length z2.cw)).setCell ⟨B6, 5, none⟩ (.slice z2.af z2.c.F.length z2.cf)) = VB at *
              refine hK.out _ _ ?_ (fun hHeld => ?_)
              · exact HP.out _ J
              clear hK K
              (try simp only [Act.put]); (try simp only [List.setIfInBounds_toArray]); (try simp only [List.set_cons_succ]); (try simp only [List.set_cons_zero])
              refine wpAnyH_take (i := 13) (oi := ⟨_, _, _, _, _, _⟩) (v := ?_) rfl (by kernel_rfl) (by kernel_rfl) (by kernel_rfl) (fun _ _ _ h => h) (Or.inl ⟨by rfl, ?_⟩) (by assumption) ?_
              rotate_left 1
              · intro w hSw; (try dsimp only at hSw); go_simp <;> with_reducible rfl
              (try simp only [Act.put]); (try simp only [List.setIfInBounds_toArray]); (try simp only [List.set_cons_succ]); (try simp only [List.set_cons_zero])
              refine wpAnyH_done (by kernel_rfl) ?_ _
              go_wp2_with fail
              go_meet
              case rel => exact ⟨B5, B6, z1, z2, a7, c7, rfl, rfl, rfl, HZ1, HZ2, Lib.hid hn5, Lib.hid hn6, Lib.hid hR1, Lib.hid hR2, Lib.hid hm7.rd, J⟩
          · go_simp
            have hn6 := Blk.new V8 36 zG
            have KA := (Keeps.refl V8).alloc (.cells zG 36)
            have hg6 : W2.heap.size ≤ V8.heap.size := J.size
            have hne : V8.heap.size ≠ B5 := by have := hn5.lt; omega
            replace hR1 := hR1.keep KA
            replace hR2 := hR2.keep KA
            replace hn5 := hn5.keep KA
            replace J := J.trans KA
            clear KA
            generalize V8.alloc (.cells zG 36) = V11 at *
            generalize V8.heap.size = B6 at *
            have HNE56 := Lib.hid hne.symm
            clear hne
            refine hK.out _ _ ?_ (fun hHeld => ?_)
            · exact HP.out _ J
            clear hK K
            (try simp only [Act.put]); (try simp only [List.setIfInBounds_toArray]); (try simp only [List.set_cons_succ]); (try simp only [List.set_cons_zero])
            refine wpAnyH_ready (rs := [8]) (by kernel_rfl) (by simp) ?_
            refine AllReadyH.cons (o := ⟨_, _, _, _, _, _⟩) rfl (fun K hK => ?_) AllReadyH.nil
            · go_simp
              have hcl := HM.out V11 (HKW.out.trans (K1.trans J))
              refine hcl.mono ?_
              clear hcl
              rintro e V12 ⟨v7, rfl, hO⟩
              have K9 := hO.2
              have hm7 := hO.row0
              obtain ⟨a7, c7, rfl, _⟩ := hO.rd
              clear hO
              replace hR1 := hR1.keep K9
              replace hR2 := hR2.keep K9
              replace hn5 := hn5.keep K9
              replace hn6 := hn6.keep K9
              replace J := J.trans K9
              clear K9
              refine hK.out _ _ ?_ (fun hHeld => ?_)
              · exact HP.out _ J
              clear hK K
              (try simp only [Act.put]); (try simp only [List.setIfInBounds_toArray]); (try simp only [List.set_cons_succ]); (try simp only [List.set_cons_zero])
              refine wpAnyH_ready (rs := [11]) (by kernel_rfl) (by simp) ?_
              refine AllReadyH.cons (o := ⟨_, _, _, _, _, _⟩) rfl (fun K hK => ?_) AllReadyH.nil
              obtain ⟨c0, c1, c2, c3, c4, c5⟩ := hn5.c6
              obtain ⟨g0, g1, g2, g3, g4, g5⟩ := hn5.f6
              go_simp
              clear c0 c1 c2 c3 c4 c5 g0 g1 g2 g3 g4 g5
              replace hn6 := hn6.other6 HNE56.out.symm (.string z1.c.nm) (.int .i64 z1.c.kd) (.int .u16 (sv z1.c.M)) (.slice z1.ar z1.c.R.length z1.cr) (.slice z1.aw z1.c.Q.length z1.cw) (.slice z1.af z1.c.F.length z1.cf)
              replace hR1 := hR1.set6 hn5 (.string z1.c.nm) (.int .i64 z1.c.kd) (.int .u16 (sv z1.c.M)) (.slice z1.ar z1.c.R.length z1.cr) (.slice z1.aw z1.c.Q.length z1.cw) (.slice z1.af z1.c.F.length z1.cf)
              replace hR2 := hR2.set6 hn5 (.string z1.c.nm) (.int .i64 z1.c.kd) (.int .u16 (sv z1.c.M)) (.slice z1.ar z1.c.R.length z1.cr) (.slice z1.aw z1.c.Q.length z1.cw) (.slice z1.af z1.c.F.length z1.cf)
              replace hm7 := hm7.set6 hn5 (by decide) (.string z1.c.nm) (.int .i64 z1.c.kd) (.int .u16 (sv z1.c.M)) (.slice z1.ar z1.c.R.length z1.cr) (.slice z1.aw z1.c.Q.length z1.cw) (.slice z1.af z1.c.F.length z1.cf)
              replace hn5 := hn5.set6 (.string z1.c.nm) (.int .i64 z1.c.kd) (.int .u16 (sv z1.c.M)) (.slice z1.ar z1.c.R.length z1.cr) (.slice z1.aw z1.c.Q.length z1.cw) (.slice z1.af z1.c.F.length z1.cf)
              replace J := keeps_set6 J hg5 (.string z1.c.nm) (.int .i64 z1.c.kd) (.int .u16 (sv z1.c.M)) (.slice z1.ar z1.c.R.length z1.cr) (.slice z1.aw z1.c.Q.length z1.cw) (.slice z1.af z1.c.F.length z1.cf)
              generalize ((((((V12.setCell ⟨B5, 0, none⟩ (.string z1.c.nm)).setCell ⟨B5, 1, none⟩ (.int .i64 z1.c.kd)).setCell ⟨B5, 2, none⟩ (.int .u16 (sv z1.c.M))).setCell ⟨B5, 3, none⟩ (.slice z1.ar z1.c.R.length z1.cr)).setCell ⟨B5, 4, none⟩ (.slice z1.aw z1.c.Q.length z1.cw)).setCell ⟨B5, 5, none⟩ (.slice z1.af z1.c.F.length z1.cf)) = VA at *
              refine hK.out _ _ ?_ (fun hHeld => ?_)
              · exact HP.out _ J
              clear hK K
              (try simp only [Act.put]); (try simp only [List.setIfInBounds_toArray]); (try simp only [List.set_cons_succ]); (try simp only [List.set_cons_zero])
              refine wpAnyH_ready (rs := [12]) (by kernel_rfl) (by simp) ?_
              refine AllReadyH.cons (o := ⟨_, _, _, _, _, _⟩) rfl (fun K hK => ?_) AllReadyH.nil
              obtain ⟨c0, c1, c2, c3, c4, c5⟩ := hn6.c6
              obtain ⟨g0, g1, g2, g3, g4, g5⟩ := hn6.f6
              go_simp
              clear c0 c1 c2 c3 c4 c5 g0 g1 g2 g3 g4 g5
              replace hn5 := hn5.other6 HNE56.out (.string z2.c.nm) (.int .i64 z2.c.kd) (.int .u16 (sv z2.c.M)) (.slice z2.ar z2.c.R.length z2.cr) (.slice z2.aw z2.c.Q.length z2.cw) (.slice z2.af z2.c.F.length z2.cf)
              replace hR1 := hR1.set6 hn6 (.string z2.c.nm) (.int .i64 z2.c.kd) (.int .u16 (sv z2.c.M)) (.slice z2.ar z2.c.R.length z2.cr) (.slice z2.aw z2.c.Q.length z2.cw) (.slice z2.af z2.c.F.length z2.cf)
              replace hR2 := hR2.set6 hn6 (.string z2.c.nm) (.int .i64 z2.c.kd) (.int .u16 (sv z2.c.M)) (.slice z2.ar z2.c.R.length z2.cr) (.slice z2.aw z2.c.Q.length z2.cw) (.slice z2.af z2.c.F.length z2.cf)
              replace hm7 := hm7.set6 hn6 (by decide) (.string z2.c.nm) (.int .i64 z2.c.kd) (.int .u16 (sv z2.c.M)) (.slice z2.ar z2.c.R.length z2.cr) (.slice z2.aw z2.c.Q.length z2.cw) (.slice z2.af z2.c.F.length z2.cf)
              replace hn6 := hn6.set6 (.string z2.c.nm) (.int .i64 z2.c.kd) (.int .u16 (sv z2.c.M)) (.slice z2.ar z2.c.R.length z2.cr) (.slice z2.aw z2.c.Q.length z2.cw) (.slice z2.af z2.c.F.length z2.cf)
              replace J := keeps_set6 J hg6 (.string z2.c.nm) (.int .i64 z2.c.kd) (.int .u16 (sv z2.c.M)) (.slice z2.ar z2.c.R.length z2.cr) (.slice z2.aw z2.c.Q.length z2.cw) (.slice z2.af z2.c.F.length z2.cf)
              generalize ((((((VA.setCell ⟨B6, 0, none⟩ (.string z2.c.nm)).setCell ⟨B6, 1, none⟩ (.int .i64 z2.c.kd)).setCell ⟨B6, 2, none⟩ (.int .u16 (sv z2.c.M))).setCell ⟨B6, 3, none⟩ (.slice z2.ar z2.c.R.length z2.cr)).setCell ⟨B6, 4, none⟩ (.slice z2.aw z2.c.Q.length z2.cw)).setCell ⟨B6, 5, none⟩ (.slice z2.af z2.c.F.length z2.cf)) = VB at *
              refine hK.out _ _ ?_ (fun hHeld => ?_)
              · exact HP.out _ J
              clear hK K
              (try simp only [Act.put]); (try simp only [List.setIfInBounds_toArray]); (try simp only [List.set_cons_succ]); (try simp only [List.set_cons_zero])
              refine wpAnyH_take (i := 13) (oi := ⟨_, _, _, _, _, _⟩) (v := ?_) rfl (by kernel_rfl) (by kernel_rfl) (by kernel_rfl) (fun _ _ _ h => h) (Or.inl ⟨by rfl, ?_⟩) (by assumption) ?_
              rotate_left 1
              · intro w hSw; (try dsimp only at hSw); go_simp <;> with_reducible rfl
              (try simp only [Act.put]); (try simp only [List.setIfInBounds_toArray]); (try simp only [List.set_cons_succ]); (try simp only [List.set_cons_zero])
              refine wpAnyH_done (by kernel_rfl) ?_ _
              go_wp2_with fail
              go_meet
              case rel => exact ⟨B5, B6, z1, z2, a7, c7, rfl, rfl, rfl, HZ1, HZ2, Lib.hid hn5, Lib.hid hn6, Lib.hid hR1, Lib.hid hR2, Lib.hid hm7.rd, J⟩
        · go_simp
          have hn6 := Blk.new V2 36 zG
          have KA := (Keeps.refl V2).alloc (.cells zG 36)
          have hg6 : W2.heap.size ≤ V2.heap.size := J.size
          replace hR1 := hR1.keep KA
          replace hR2 := hR2.keep KA
          replace J := J.trans KA
          clear KA
          generalize V2.alloc (.cells zG 36) = V13 at *
          generalize V2.heap.size = B6 at *
          refine hK.out _ _ ?_ (fun hHeld => ?_)
          · exact HP.out _ J
          clear hK K
          (try simp only [Act.put]); (try simp only [List.setIfInBounds_toArray]); (try simp only [List.set_cons_succ]); (try simp only [List.set_cons_zero])
          refine wpAnyH_ready (rs := [8, 9]) (by kernel_rfl) (by simp) ?_
          refine AllReadyH.cons (o := ⟨_, _, _, _, _, _⟩) rfl (fun K hK => ?_) (AllReadyH.cons (o := ⟨_, _, _, _, _, _⟩) rfl (fun K hK => ?_) AllReadyH.nil)
          · go_simp
            have hcl := HM.out V13 (HKW.out.trans (K1.trans J))
            refine hcl.mono ?_
            clear hcl
            rintro e V14 ⟨v7, rfl, hO⟩
            have K9 := hO.2
            have hm7 := hO.row0
            obtain ⟨a7, c7, rfl, _⟩ := hO.rd
            clear hO
            replace hR1 := hR1.keep K9
            replace hR2 := hR2.keep K9
            replace hn6 := hn6.keep K9
            replace J := J.trans K9
            clear K9
            refine hK.out _ _ ?_ (fun hHeld => ?_)
            · exact HP.out _ J
            clear hK K
            (try simp only [Act.put]); (try simp only [List.setIfInBounds_toArray]); (try simp only [List.set_cons_succ]); (try simp only [List.set_cons_zero])
            refine wpAnyH_ready (rs := [9]) (by kernel_rfl) (by simp) ?_
            refine AllReadyH.cons (o := ⟨_, _, _, _, _, _⟩) rfl (fun K hK => ?_) AllReadyH.nil
            · go_simp
              have hn5 := Blk.new V14 36 zG
              have KA := (Keeps.refl V14).alloc (.cells zG 36)
              have hg5 : W2.heap.size ≤ V14.heap.size := J.size
              have hne : V14.heap.size ≠ B6 := by have := hn6.lt; omega
              replace hR1 := hR1.keep KA
              replace hR2 := hR2.keep KA
              replace hm7 := hm7.keep KA
              replace hn6 := hn6.keep KA
              replace J := J.trans KA
              clear KA
              generalize V14.alloc (.cells zG 36) = V15 at *
              generalize V14.heap.size = B5 at *
              have HNE56 := Lib.hid hne
              clear hne
              refine hK.out _ _ ?_ (fun hHeld => ?_)
              · exact HP.out _ J
              clear hK K
              (try simp only [Act.put]); (try simp only [List.setIfInBounds_toArray]); (try simp only [List.set_cons_succ]); (try simp only [List.set_cons_zero])
              refine wpAnyH_ready (rs := [11]) (by kernel_rfl) (by simp) ?_
              refine AllReadyH.cons (o := ⟨_, _, _, _, _, _⟩) rfl (fun K hK => ?_) AllReadyH.nil
              obtain ⟨c0, c1, c2, c3, c4, c5⟩ := hn5.c6
              obtain ⟨g0, g1, g2, g3, g4, g5⟩ := hn5.f6
              go_simp
              clear c0 c1 c2 c3 c4 c5 g0 g1 g2 g3 g4 g5
              replace hn6 := hn6.other6 HNE56.out.symm (.string z1.c.nm) (.int .i64 z1.c.kd) (.int .u16 (sv z1.c.M)) (.slice z1.ar z1.c.R.length z1.cr) (.slice z1.aw z1.c.Q.length z1.cw) (.slice z1.af z1.c.F.length z1.cf)
              replace hR1 := hR1.set6 hn5 (.string z1.c.nm) (.int .i64 z1.c.kd) (.int .u16 (sv z1.c.M)) (.slice z1.ar z1.c.R.length z1.cr) (.slice z1.aw z1.c.Q.length z1.cw) (.slice z1.af z1.c.F.length z1.cf)
              replace hR2 := hR2.set6 hn5 (.string z1.c.nm) (.int .i64 z1.c.kd) (.int .u16 (sv z1.c.M)) (.slice z1.ar z1.c.R.length z1.cr) (.slice z1.aw z1.c.Q.length z1.cw) (.slice z1.af z1.c.F.length z1.cf)
              replace hm7 := hm7.set6 hn5 (by decide) (.string z1.c.nm) (.int .i64 z1.c.kd) (.int .u16 (sv z1.c.M)) (.slice z1.ar z1.c.R.length z1.cr) (.slice z1.aw z1.c.Q.length z1.cw) (.slice z1.af z1.c.F.length z1.cf)
              replace hn5 := hn5.set6 (.string z1.c.nm) (.int .i64 z1.c.kd) (.int .u16 (sv z1.c.M)) (.slice z1.ar z1.c.R.length z1.cr) (.slice z1.aw z1.c.Q.length z1.cw) (.slice z1.af z1.c.F.length z1.cf)
              replace J := keeps_set6 J hg5 (.string z1.c.nm) (.int .i64 z1.c.kd) (.int .u16 (sv z1.c.M)) (.slice z1.ar z1.c.R.length z1.cr) (.slice z1.aw z1.c.Q.length z1.cw) (.slice z1.af z1.c.F.length z1.cf)
              generalize ((((((V15.setCell ⟨B5, 0, none⟩ (.string z1.c.nm)).setCell ⟨B5, 1, none⟩ (.int .i64 z1.c.kd)).setCell ⟨B5, 2, none⟩ (.int .u16 (sv z1.c.M))).setCell ⟨B5, 3, none⟩ (.slice z1.ar z1.c.R.length z1.cr)).setCell ⟨B5, 4, none⟩ (.slice z1.aw z1.c.Q.length z1.cw)).setCell ⟨B5, 5, none⟩ (.slice z1.af z1.c.F.length z1.cf)) = VA at *
              refine hK.out _ _ ?_ (fun hHeld => ?_)
              · exact HP.out _ J
              clear hK K
              (try simp only [Act.put]); (try simp only [List.setIfInBounds_toArray]); (try simp only [List.set_cons_succ]); (try simp only [List.set_cons_zero])
              refine wpAnyH_ready (rs := [12]) (by kernel_rfl) (by simp) ?_
              refine AllReadyH.cons (o := ⟨_, _, _, _, _, _⟩) rfl (fun K hK => ?_) AllReadyH.nil
              obtain ⟨c0, c1, c2, c3, c4, c5⟩ := hn6.c6
              obtain ⟨g0, g1, g2, g3, g4, g5⟩ := hn6.f6
              go_simp
              clear c0 c1 c2 c3 c4 c5 g0 g1 g2 g3 g4 g5
              replace hn5 := hn5.other6 HNE56.out (.string z2.c.nm) (.int .i64 z2.c.kd) (.int .u16 (sv z2.c.M)) (.slice z2.ar z2.c.R.length z2.cr) (.slice z2.aw z2.c.Q.length z2.cw) (.slice z2.af z2.c.F.length z2.cf)
              replace hR1 := hR1.set6 hn6 (.string z2.c.nm) (.int .i64 z2.c.kd) (.int .u16 (sv z2.c.M)) (.slice z2.ar z2.c.R.length z2.cr) (.slice z2.aw z2.c.Q.length z2.cw) (.slice z2.af z2.c.F.length z2.cf)
              replace hR2 := hR2.set6 hn6 (.string z2.c.nm) (.int .i64 z2.c.kd) (.int .u16 (sv z2.c.M)) (.slice z2.ar z2.c.R.length z2.cr) (.slice z2.aw z2.c.Q.length z2.cw) (.slice z2.af z2.c.F.length z2.cf)
              replace hm7 := hm7.set6 hn6 (by decide) (.string z2.c.nm) (.int .i64 z2.c.kd) (.int .u16 (sv z2.c.M)) (.slice z2.ar z2.c.R.length z2.cr) (.slice z2.aw z2.c.Q.length z2.cw) (.slice z2.af z2.c.F.length z2.cf)
              replace hn6 := hn6.set6 (.string z2.c.nm) (.int .i64 z2.c.kd) (.int .u16 (sv z2.c.M)) (.slice z2.ar z2.c.R.length z2.cr) (.slice z2.aw z2.c.Q.length z2.cw) (.slice z2.af z2.c.F.length z2.cf)
              replace J := keeps_set6 J hg6 (.string z2.c.nm) (.int .i64 z2.c.kd) (.int .u16 (sv z2.c.M)) (.slice z2.ar z2.c.R.length z2.cr) (.slice z2.aw z2.c.Q.length z2.cw) (.slice z2.af z2.c.F.length z2.cf)
              generalize ((((((VA.setCell ⟨B6, 0, none⟩ (.string z2.c.nm)).setCell ⟨B6, 1, none⟩ (.int .i64 z2.c.kd)).setCell ⟨B6, 2, none⟩ (.int .u16 (sv z2.c.M))).setCell ⟨B6, 3, none⟩ (.slice z2.ar z2.c.R.length z2.cr)).setCell ⟨B6, 4, none⟩ (.slice z2.aw z2.c.Q.length z2.cw)).setCell ⟨B6, 5, none⟩ (.slice z2.af z2.c.F.length z2.cf)) = VB at *
              refine hK.out _ _ ?_ (fun hHeld => ?_)
              · exact HP.out _ J
              clear hK K
              (try simp only [Act.put]); (try simp only [List.setIfInBounds_toArray]); (try simp only [List.set_cons_succ]); (try simp only [List.set_cons_zero])
              refine wpAnyH_take (i := 13) (oi := ⟨_, _, _, _, _, _⟩) (v := ?_) rfl (by kernel_rfl) (by kernel_rfl) (by kernel_rfl) (fun _ _ _ h => h) (Or.inl ⟨by rfl, ?_⟩) (by assumption) ?_
              rotate_left 1
              · intro w hSw; (try dsimp only at hSw); go_simp <;> with_reducible rfl
              (try simp only [Act.put]); (try simp only [List.setIfInBounds_toArray]); (try simp only [List.set_cons_succ]); (try simp only [List.set_cons_zero])
              refine wpAnyH_done (by kernel_rfl) ?_ _
              go_wp2_with fail
              go_meet
              case rel => exact ⟨B5, B6, z1, z2, a7, c7, rfl, rfl, rfl, HZ1, HZ2, Lib.hid hn5, Lib.hid hn6, Lib.hid hR1, Lib.hid hR2, Lib.hid hm7.rd, J⟩
          · go_simp
            have hn5 := Blk.new V13 36 zG
            have KA := (Keeps.refl V13).alloc (.cells zG 36)
            have hg5 : W2.heap.size ≤ V13.heap.size := J.size
            have hne : V13.heap.size ≠ B6 := by have := hn6.lt; omega
            replace hR1 := hR1.keep KA
            replace hR2 := hR2.keep KA
            replace hn6 := hn6.keep KA
            replace J := J.trans KA
            clear KA
            generalize V13.alloc (.cells zG 36) = V16 at *
            generalize V13.heap.size = B5 at *
            have HNE56 := Lib.hid hne
            clear hne
            refine hK.out _ _ ?_ (fun hHeld => ?_)
            · exact HP.out _ J
            clear hK K
            (try simp only [Act.put]); (try simp only [List.setIfInBounds_toArray]); (try simp only [List.set_cons_succ]); (try simp only [List.set_cons_zero])
            refine wpAnyH_ready (rs := [8]) (by kernel_rfl) (by simp) ?_
            refine AllReadyH.cons (o := ⟨_, _, _, _, _, _⟩) rfl (fun K hK => ?_) AllReadyH.nil
            · go_simp
              have hcl := HM.out V16 (HKW.out.trans (K1.trans J))
              refine hcl.mono ?_
              clear hcl
              rintro e V17 ⟨v7, rfl, hO⟩
              have K9 := hO.2
              have hm7 := hO.row0
              obtain ⟨a7, c7, rfl, _⟩ := hO.rd
              clear hO
              replace hR1 := hR1.keep K9
              replace hR2 := hR2.keep K9
              replace hn5 := hn5.keep K9
              replace hn6 := hn6.keep K9
              replace J := J.trans K9
              clear K9
              refine hK.out _ _ ?_ (fun hHeld => ?_)
              · exact HP.out _ J
              clear hK K
              (try simp only [Act.put]); (try simp only [List.setIfInBounds_toArray]); (try simp only [List.set_cons_succ]); (try simp only [List.set_cons_zero])
              refine wpAnyH_ready (rs := [11]) (by kernel_rfl) (by simp) ?_
              refine AllReadyH.cons (o := ⟨_, _, _, _, _, _⟩) rfl (fun K hK => ?_) AllReadyH.nil
              obtain ⟨c0, c1, c2, c3, c4, c5⟩ := hn5.c6
              obtain ⟨g0, g1, g2, g3, g4, g5⟩ := hn5.f6
              go_simp
              clear c0 c1 c2 c3 c4 c5 g0 g1 g2 g3 g4 g5
              replace hn6 := hn6.other6 HNE56.out.symm (.string z1.c.nm) (.int .i64 z1.c.kd) (.int .u16 (sv z1.c.M)) (.slice z1.ar z1.c.R.length z1.cr) (.slice z1.aw z1.c.Q.length z1.cw) (.slice z1.af z1.c.F.length z1.cf)
              replace hR1 := hR1.set6 hn5 (.string z1.c.nm) (.int .i64 z1.c.kd) (.int .u16 (sv z1.c.M)) (.slice z1.ar z1.c.R.length z1.cr) (.slice z1.aw z1.c.Q.length z1.cw) (.slice z1.af z1.c.F.length z1.cf)
              replace hR2 := hR2.set6 hn5 (.string z1.c.nm) (.int .i64 z1.c.kd) (.int .u16 (sv z1.c.M)) (.slice z1.ar z1.c.R.length z1.cr) (.slice z1.aw z1.c.Q.length z1.cw) (.slice z1.af z1.c.F.length z1.cf)
              replace hm7 := hm7.set6 hn5 (by decide) (.string z1.c.nm) (.int .i64 z1.c.kd) (.int .u16 (sv z1.c.M)) (.slice z1.ar z1.c.R.length z1.cr) (.slice z1.aw z1.c.Q.length z1.cw) (.slice z1.af z1.c.F.length z1.cf)
              replace hn5 := hn5.set6 (.string z1.c.nm) (.int .i64 z1.c.kd) (.int .u16 (sv z1.c.M)) (.slice z1.ar z1.c.R.length z1.cr) (.slice z1.aw z1.c.Q.length z1.cw) (.slice z1.af z1.c.F.length z1.cf)
              replace J := keeps_set6 J hg5 (.string z1.c.nm) (.int .i64 z1.c.kd) (.int .u16 (sv z1.c.M)) (.slice z1.ar z1.c.R.length z1.cr) (.slice z1.aw z1.c.Q.length z1.cw) (.slice z1.af z1.c.F.length z1.cf)
              generalize ((((((V17.setCell ⟨B5, 0, none⟩ (.string z1.c.nm)).setCell ⟨B5, 1, none⟩ (.int .i64 z1.c.kd)).setCell ⟨B5, 2, none⟩ (.int .u16 (sv z1.c.M))).setCell ⟨B5, 3, none⟩ (.slice z1.ar z1.c.R.length z1.cr)).setCell ⟨B5, 4, none⟩ (.slice z1.aw z1.c.Q.length z1.cw)).setCell ⟨B5, 5, none⟩ (.slice z1.af z1.c.F.length z1.cf)) = VA at *
              refine hK.out _ _ ?_ (fun hHeld => ?_)
              · exact HP.out _ J
              clear hK K
              (try simp only [Act.put]); (try simp only [List.setIfInBounds_toArray]); (try simp only [List.set_cons_succ]); (try simp only [List.set_cons_zero])
              refine wpAnyH_ready (rs := [12]) (by kernel_rfl) (by simp) ?_
              refine AllReadyH.cons (o := ⟨_, _, _, _, _, _⟩) rfl (fun K hK => ?_) AllReadyH.nil
              obtain ⟨c0, c1, c2, c3, c4, c5⟩ := hn6.c6
              obtain ⟨g0, g1, g2, g3, g4, g5⟩ := hn6.f6
              go_simp
              clear c0 c1 c2 c3 c4 c5 g0 g1 g2 g3 g4 g5
              replace hn5 := hn5.other6 HNE56.out (.string z2.c.nm) (.int .i64 z2.c.kd) (.int .u16 (sv z2.c.M)) (.slice z2.ar z2.c.R.length z2.cr) (.slice z2.aw z2.c.Q.length z2.cw) (.slice z2.af z2.c.F.length z2.cf)
              replace hR1 := hR1.set6 hn6 (.string z2.c.nm) (.int .i64 z2.c.kd) (.int .u16 (sv z2.c.M)) (.slice z2.ar z2.c.R.length z2.cr) (.slice z2.aw z2.c.Q.length z2.cw) (.slice z2.af z2.c.F.length z2.cf)
              replace hR2 := hR2.set6 hn6 (.string z2.c.nm) (.int .i64 z2.c.kd) (.int .u16 (sv z2.c.M)) (.slice z2.ar z2.c.R.length z2.cr) (.slice z2.aw z2.c.Q.length z2.cw) (.slice z2.af z2.c.F.length z2.cf)
              replace hm7 := hm7.set6 hn6 (by decide) (.string z2.c.nm) (.int .i64 z2.c.kd) (.int .u16 (sv z2.c.M)) (.slice z2.ar z2.c.R.length z2.cr) (.slice z2.aw z2.c.Q.length z2.cw) (.slice z2.af z2.c.F.length z2.cf)
              replace hn6 := hn6.set6 (.string z2.c.nm) (.int .i64 z2.c.kd) (.int .u16 (sv z2.c.M)) (.slice z2.ar z2.c.R.length z2.cr) (.slice z2.aw z2.c.Q.length z2.cw) (.slice z2.af z2.c.F.length z2.cf)
              replace J := keeps_set6 J hg6 (.string z2.c.nm) (.int .i64 z2.c.kd) (.int .u16 (sv z2.c.M)) (.slice z2.ar z2.c.R.length z2.cr) (.slice z2.aw z2.c.Q.length z2.cw) (.slice z2.af z2.c.F.length z2.cf)
              generalize ((((((VA.setCell ⟨B6, 0, none⟩ (.string z2.c.nm)).setCell ⟨B6, 1, none⟩ (.int .i64 z2.c.kd)).setCell ⟨B6, 2, none⟩ (.int .u16 (sv z2.c.M))).setCell ⟨B6, 3, none⟩ (.slice z2.ar z2.c.R.length z2.cr)).setCell ⟨B6, 4, none⟩ (.slice z2.aw z2.c.Q.length z2.cw)).setCell ⟨B6, 5, none⟩ (.slice z2.af z2.c.F.length z2.cf)) = VB at *
              refine hK.out _ _ ?_ (fun hHeld => ?_)
              · exact HP.out _ J
              clear hK K
              (try simp only [Act.put]); (try simp only [List.setIfInBounds_toArray]); (try simp only [List.set_cons_succ]); (try simp only [List.set_cons_zero])
              refine wpAnyH_take (i := 13) (oi := ⟨_, _, _, _, _, _⟩) (v := ?_) rfl (by kernel_rfl) (by kernel_rfl) (by kernel_rfl) (fun _ _ _ h => h) (Or.inl ⟨by rfl, ?_⟩) (by assumption) ?_
              rotate_left 1
              · intro w hSw; (try dsimp only at hSw); go_simp <;> with_reducible rfl
              (try simp only [Act.put]); (try simp only [List.setIfInBounds_toArray]); (try simp only [List.set_cons_succ]); (try simp only [List.set_cons_zero])
              refine wpAnyH_done (by kernel_rfl) ?_ _
              go_wp2_with fail
              go_meet
              case rel => exact ⟨B5, B6, z1, z2, a7, c7, rfl, rfl, rfl, HZ1, HZ2, Lib.hid hn5, Lib.hid hn6, Lib.hid hR1, Lib.hid hR2, Lib.hid hm7.rd, J⟩
      · go_simp
        have hn5 := Blk.new V1 36 zG
        have KA := (Keeps.refl V1).alloc (.cells zG 36)
        have hg5 : W2.heap.size ≤ V1.heap.size := J.size
        replace hR1 := hR1.keep KA
        replace J := J.trans KA
        clear KA
        generalize V1.alloc (.cells zG 36) = V18 at *
        generalize V1.heap.size = B5 at *
        refine hK.out _ _ ?_ (fun hHeld => ?_)
        · exact HP.out _ J
        clear hK K
        (try simp only [Act.put]); (try simp only [List.setIfInBounds_toArray]); (try simp only [List.set_cons_succ]); (try simp only [List.set_cons_zero])
        refine wpAnyH_ready (rs := [5, 10]) (by kernel_rfl) (by simp) ?_
        refine AllReadyH.cons (o := ⟨_, _, _, _, _, _⟩) rfl (fun K hK => ?_) (AllReadyH.cons (o := ⟨_, _, _, _, _, _⟩) rfl (fun K hK => ?_) AllReadyH.nil)
        · go_simp
          have hcl := HB.out V18 (HKW.out.trans (K1.trans J))
          refine hcl.mono ?_
          clear hcl
          rintro e V19 ⟨z2, rfl, hz, hR2, K9⟩
          have HZ2 := Lib.hid hz
          clear hz
          unfold vg
          dsimp only
          replace hR1 := hR1.keep K9
          replace hn5 := hn5.keep K9
          replace J := J.trans K9
          clear K9
          refine hK.out _ _ ?_ (fun hHeld => ?_)
          · exact HP.out _ J
          clear hK K
          (try simp only [Act.put]); (try simp only [List.setIfInBounds_toArray]); (try simp only [List.set_cons_succ]); (try simp only [List.set_cons_zero])
          refine wpAnyH_ready (rs := [8, 10]) (by kernel_rfl) (by simp) ?_
          refine AllReadyH.cons (o := ⟨_, _, _, _, _, _⟩) rfl (fun K hK => ?_) (AllReadyH.cons (o := ⟨_, _, _, _, _, _⟩) rfl (fun K hK => ?_) AllReadyH.nil)
          · go_simp
            have hcl := HM.out V19 (HKW.out.trans (K1.trans J))
            refine hcl.mono ?_
            clear hcl
            rintro e V20 ⟨v7, rfl, hO⟩
            have K9 := hO.2
            have hm7 := hO.row0
            obtain ⟨a7, c7, rfl, _⟩ := hO.rd
            clear hO
            replace hR1 := hR1.keep K9
            replace hR2 := hR2.keep K9
            replace hn5 := hn5.keep K9
            replace J := J.trans K9
            clear K9
            refine hK.out _ _ ?_ (fun hHeld => ?_)
            · exact HP.out _ J
            clear hK K
            (try simp only [Act.put]); (try simp only [List.setIfInBounds_toArray]); (try simp only [List.set_cons_succ]); (try simp only [List.set_cons_zero])
            refine wpAnyH_ready (rs := [10]) (by kernel_rfl) (by simp) ?_
            refine AllReadyH.cons (o := ⟨_, _, _, _, _, _⟩) rfl (fun K hK => ?_) AllReadyH.nil
            · go_simp
              have hn6 := Blk.new V20 36 zG
              have KA := (Keeps.refl V20).alloc (.cells zG 36)
              have hg6 : W2.heap.size ≤ V20.heap.size := J.size
              have hne : V20.heap.size ≠ B5 := by have := hn5.lt; omega
              replace hR1 := hR1.keep KA
              replace hR2 := hR2.keep KA
              replace hm7 := hm7.keep KA
              replace hn5 := hn5.keep KA
              replace J := J.trans KA
              clear KA
              generalize V20.alloc (.cells zG 36) = V21 at *
              generalize V20.heap.size = B6 at *
              have HNE56 := Lib.hid hne.symm
              clear hne
              refine hK.out _ _ ?_ (fun hHeld => ?_)
              · exact HP.out _ J
              clear hK K
              (try simp only [Act.put]); (try simp only [List.setIfInBounds_toArray]); (try simp only [List.set_cons_succ]); (try simp only [List.set_cons_zero])
              refine wpAnyH_ready (rs := [11]) (by kernel_rfl) (by simp) ?_
              refine AllReadyH.cons (o := ⟨_, _, _, _, _, _⟩) rfl (fun K hK => ?_) AllReadyH.nil
              obtain ⟨c0, c1, c2, c3, c4, c5⟩ := hn5.c6
              obtain ⟨g0, g1, g2, g3, g4, g5⟩ := hn5.f6
              go_simp
              clear c0 c1 c2 c3 c4 c5 g0 g1 g2 g3 g4 g5
              replace hn6 := hn6.other6 HNE56.out.symm (.string z1.c.nm) (.int .i64 z1.c.kd) (.int .u16 (sv z1.c.M)) (.slice z1.ar z1.c.R.length z1.cr) (.slice z1.aw z1.c.Q.length z1.cw) (.slice z1.af z1.c.F.length z1.cf)
              replace hR1 := hR1.set6 hn5 (.string z1.c.nm) (.int .i64 z1.c.kd) (.int .u16 (sv z1.c.M)) (.slice z1.ar z1.c.R.length z1.cr) (.slice z1.aw z1.c.Q.length z1.cw) (.slice z1.af z1.c.F.length z1.cf)
              replace hR2 := hR2.set6 hn5 (.string z1.c.nm) (.int .i64 z1.c.kd) (.int .u16 (sv z1.c.M)) (.slice z1.ar z1.c.R.length z1.cr) (.slice z1.aw z1.c.Q.length z1.cw) (.slice z1.af z1.c.F.length z1.cf)
              replace hm7 := hm7.set6 hn5 (by decide) (.string z1.c.nm) (.int .i64 z1.c.kd) (.int .u16 (sv z1.c.M)) (.slice z1.ar z1.c.R.length z1.cr) (.slice z1.aw z1.c.Q.length z1.cw) (.slice z1.af z1.c.F.length z1.cf)
              replace hn5 := hn5.set6 (.string z1.c.nm) (.int .i64 z1.c.kd) (.int .u16 (sv z1.c.M)) (.slice z1.ar z1.c.R.length z1.cr) (.slice z1.aw z1.c.Q.length z1.cw) (.slice z1.af z1.c.F.length z1.cf)
              replace J := keeps_set6 J hg5 (.string z1.c.nm) (.int .i64 z1.c.kd) (.int .u16 (sv z1.c.M)) (.slice z1.ar z1.c.R.length z1.cr) (.slice z1.aw z1.c.Q.length z1.cw) (.slice z1.af z1.c.F.length z1.cf)
              generalize ((((((V21.setCell ⟨B5, 0, none⟩ (.string z1.c.nm)).setCell ⟨B5, 1, none⟩ (.int .i64 z1.c.kd)).setCell ⟨B5, 2, none⟩ (.int .u16 (sv z1.c.M))).setCell ⟨B5, 3, none⟩ (.slice z1.ar z1.c.R.length z1.cr)).setCell ⟨B5, 4, none⟩ (.slice z1.aw z1.c.Q.length z1.cw)).setCell ⟨B5, 5, none⟩ (.slice z1.af z1.c.F.length z1.cf)) = VA at *
              refine hK.out _ _ ?_ (fun hHeld => ?_)
              · exact HP.out _ J
              clear hK K
              (try simp only [Act.put]); (try simp only [List.setIfInBounds_toArray]); (try simp only [List.set_cons_succ]); (try simp only [List.set_cons_zero])
              refine wpAnyH_ready (rs := [12]) (by kernel_rfl) (by simp) ?_
              refine AllReadyH.cons (o := ⟨_, _, _, _, _, _⟩) rfl (fun K hK => ?_) AllReadyH.nil
              obtain ⟨c0, c1, c2, c3, c4, c5⟩ := hn6.c6
              obtain ⟨g0, g1, g2, g3, g4, g5⟩ := hn6.f6
              go_simp
              clear c0 c1 c2 c3 c4 c5 g0 g1 g2 g3 g4 g5
              replace hn5 := hn5.other6 HNE56.out (.string z2.c.nm) (.int .i64 z2.c.kd) (.int .u16 (sv z2.c.M)) (.slice z2.ar z2.c.R.length z2.cr) (.slice z2.aw z2.c.Q.length z2.cw) (.slice z2.af z2.c.F.length z2.cf)
              replace hR1 := hR1.set6 hn6 (.string z2.c.nm) (.int .i64 z2.c.kd) (.int .u16 (sv z2.c.M)) (.slice z2.ar z2.c.R.length z2.cr) (.slice z2.aw z2.c.Q.length z2.cw) (.slice z2.af z2.c.F.length z2.cf)
              replace hR2 := hR2.set6 hn6 (.string z2.c.nm) (.int .i64 z2.c.kd) (.int .u16 (sv z2.c.M)) (.slice z2.ar z2.c.R.length z2.cr) (.slice z2.aw z2.c.Q.length z2.cw) (.slice z2.af z2.c.F.length z2.cf)
              replace hm7 := hm7.set6 hn6 (by decide) (.string z2.c.nm) (.int .i64 z2.c.kd) (.int .u16 (sv z2.c.M)) (.slice z2.ar z2.c.R.length z2.cr) (.slice z2.aw z2.c.Q.length z2.cw) (.slice z2.af z2.c.F.length z2.cf)
              replace hn6 := hn6.set6 (.string z2.c.nm) (.int .i64 z2.c.kd) (.int .u16 (sv z2.c.M)) (.slice z2.ar z2.c.R.length z2.cr) (.slice z2.aw z2.c.Q.length z2.cw) (.slice z2.af z2.c.F.length z2.cf)
              replace J := keeps_set6 J hg6 (.string z2.c.nm) (.int .i64 z2.c.kd) (.int .u16 (sv z2.c.M)) (.slice z2.ar z2.c.R.length z2.cr) (.slice z2.aw z2.c.Q.length z2.cw) (.slice z2.af z2.c.F.length z2.cf)
              generalize ((((((VA.setCell ⟨B6, 0, none⟩ (.string z2.c.nm)).setCell ⟨B6, 1, none⟩ (.int .i64 z2.c.kd)).setCell ⟨B6, 2, none⟩ (.int .u16 (sv z2.c.M))).setCell ⟨B6, 3, none⟩ (.slice z2.ar z2.c.R.length z2.cr)).setCell ⟨B6, 4, none⟩ (.slice z2.aw z2.c.Q.length z2.cw)).setCell ⟨B6, 5, none⟩ (.slice z2.af z2.c.F.length z2.cf)) = VB at *
              refine hK.out _ _ ?_ (fun hHeld => ?_)
              · exact HP.out _ J
              clear hK K
              (try simp only [Act.put]); (try simp only [List.setIfInBounds_toArray]); (try simp only [List.set_cons_succ]); (try simp only [List.set_cons_zero])
              refine wpAnyH_take (i := 13) (oi := ⟨_, _, _, _, _, _⟩) (v := ?_) rfl (by kernel_rfl) (by kernel_rfl) (by kernel_rfl) (fun _ _ _ h => h) (Or.inl ⟨by rfl, ?_⟩) (by assumption) ?_
              rotate_left 1
              · intro w hSw; (try dsimp only at hSw); go_simp <;> with_reducible rfl
              (try simp only [Act.put]); (try simp only [List.setIfInBounds_toArray]); (try simp only [List.set_cons_succ]); (try simp only [List.set_cons_zero])
              refine wpAnyH_done (by kernel_rfl) ?_ _
              go_wp2_with fail
              go_meet
              case rel => exact ⟨B5, B6, z1, z2, a7, c7, rfl, rfl, rfl, HZ1, HZ2, Lib.hid hn5, Lib.hid hn6, Lib.hid hR1, Lib.hid hR2, Lib.hid hm7.rd, J⟩
          · go_simp
            have hn6 := Blk.new V19 36 zG
            have KA := (Keeps.refl V19).alloc (.cells zG 36)
            have hg6 : W2.heap.size ≤ V19.heap.size := J.size
            have hne : V19.heap.size ≠ B5 := by have := hn5.lt; omega
            replace hR1 := hR1.keep KA
            replace hR2 := hR2.keep KA
            replace hn5 := hn5.keep KA
            replace J := J.trans KA
            clear KA
            generalize V19.alloc (.cells zG 36) = V22 at *
            generalize V19.heap.size = B6 at *
            have HNE56 := Lib.hid hne.symm
            clear hne
            refine hK.out _ _ ?_ (fun hHeld => ?_)
            · exact HP.out _ J
            clear hK K
            (try simp only [Act.put]); (try simp only [List.setIfInBounds_toArray]); (try simp only [List.set_cons_succ]); (try simp only [List.set_cons_zero])
            refine wpAnyH_ready (rs := [8]) (by kernel_rfl) (by simp) ?_
            refine AllReadyH.cons (o := ⟨_, _, _, _, _, _⟩) rfl (fun K hK => ?_) AllReadyH.nil
            · go_simp
              have hcl := HM.out V22 (HKW.out.trans (K1.trans J))
              refine hcl.mono ?_
              clear hcl
              rintro e V23 ⟨v7, rfl, hO⟩
              have K9 := hO.2
              have hm7 := hO.row0
              obtain ⟨a7, c7, rfl, _⟩ := hO.rd
              clear hO
              replace hR1 := hR1.keep K9
              replace hR2 := hR2.keep K9
              replace hn5 := hn5.keep K9
              replace hn6 := hn6.keep K9
              replace J := J.trans K9
              clear K9
              refine hK.out _ _ ?_ (fun hHeld => ?_)
              · exact HP.out _ J
              clear hK K
              (try simp only [Act.put]); (try simp only [List.setIfInBounds_toArray]); (try simp only [List.set_cons_succ]); (try simp only [List.set_cons_zero])
              refine wpAnyH_ready (rs := [11]) (by kernel_rfl) (by simp) ?_
              refine AllReadyH.cons (o := ⟨_, _, _, _, _, _⟩) rfl (fun K hK => ?_) AllReadyH.nil
              obtain ⟨c0, c1, c2, c3, c4, c5⟩ := hn5.c6
              obtain ⟨g0, g1, g2, g3, g4, g5⟩ := hn5.f6
              go_simp
              clear c0 c1 c2 c3 c4 c5 g0 g1 g2 g3 g4 g5
              replace hn6 := hn6.other6 HNE56.out.symm (.string z1.c.nm) (.int .i64 z1.c.kd) (.int .u16 (sv z1.c.M)) (.slice z1.ar z1.c.R.length z1.cr) (.slice z1.aw z1.c.Q.length z1.cw) (.slice z1.af z1.c.F.length z1.cf)
              replace hR1 := hR1.set6 hn5 (.string z1.c.nm) (.int .i64 z1.c.kd) (.int .u16 (sv z1.c.M)) (.slice z1.ar z1.c.R.length z1.cr) (.slice z1.aw z1.c.Q.length z1.cw) (.slice z1.af z1.c.F.length z1.cf)
              replace hR2 := hR2.set6 hn5 (.string z1.c.nm) (.int .i64 z1.c.kd) (.int .u16 (sv z1.c.M)) (.slice z1.ar z1.c.R.length z1.cr) (.slice z1.aw z1.c.Q.length z1.cw) (.slice z1.af z1.c.F.length z1.cf)
              replace hm7 := hm7.set6 hn5 (by decide) (.string z1.c.nm) (.int .i64 z1.c.kd) (.int .u16 (sv z1.c.M)) (.slice z1.ar z1.c.R.length z1.cr) (.slice z1.aw z1.c.Q.length z1.cw) (.slice z1.af z1.c.F.length z1.cf)
              replace hn5 := hn5.set6 (.string z1.c.nm) (.int .i64 z1.c.kd) (.int .u16 (sv z1.c.M)) (.slice z1.ar z1.c.R.length z1.cr) (.slice z1.aw z1.c.Q.length z1.cw) (.slice z1.af z1.c.F.length z1.cf)
              replace J := keeps_set6 J hg5 (.string z1.c.nm) (.int .i64 z1.c.kd) (.int .u16 (sv z1.c.M)) (.slice z1.ar z1.c.R.length z1.cr) (.slice z1.aw z1.c.Q.length z1.cw) (.slice z1.af z1.c.F.length z1.cf)
              generalize ((((((V23.setCell ⟨B5, 0, none⟩ (.string z1.c.nm)).setCell ⟨B5, 1, none⟩ (.int .i64 z1.c.kd)).setCell ⟨B5, 2, none⟩ (.int .u16 (sv z1.c.M))).setCell ⟨B5, 3, none⟩ (.slice z1.ar z1.c.R.length z1.cr)).setCell ⟨B5, 4, none⟩ (.slice z1.aw z1.c.Q.length z1.cw)).setCell ⟨B5, 5, none⟩ (.slice z1.af z1.c.F.length z1.cf)) = VA at *
              refine hK.out _ _ ?_ (fun hHeld => ?_)
              · exact HP.out _ J
              clear hK K
              (try simp only [Act.put]); (try simp only [List.setIfInBounds_toArray]); (try simp only [List.set_cons_succ]); (try simp only [List.set_cons_zero])
              refine wpAnyH_ready (rs := [12]) (by kernel_rfl) (by simp) ?_
              refine AllReadyH.cons (o := ⟨_, _, _, _, _, _⟩) rfl (fun K hK => ?_) AllReadyH.nil
              obtain ⟨c0, c1, c2, c3, c4, c5⟩ := hn6.c6
              obtain ⟨g0, g1, g2, g3, g4, g5⟩ := hn6.f6
              go_simp
              clear c0 c1 c2 c3 c4 c5 g0 g1 g2 g3 g4 g5
              replace hn5 := hn5.other6 HNE56.out (.string z2.c.nm) (.int .i64 z2.c.kd) (.int .u16 (sv z2.c.M)) (.slice z2.ar z2.c.R.length z2.cr) (.slice z2.aw z2.c.Q.length z2.cw) (.slice z2.af z2.c.F.length z2.cf)
              replace hR1 := hR1.set6 hn6 (.string z2.c.nm) (.int .i64 z2.c.kd) (.int .u16 (sv z2.c.M)) (.slice z2.ar z2.c.R.length z2.cr) (.slice z2.aw z2.c.Q.length z2.cw) (.slice z2.af z2.c.F.length z2.cf)
              replace hR2 := hR2.set6 hn6 (.string z2.c.nm) (.int .i64 z2.c.kd) (.int .u16 (sv z2.c.M)) (.slice z2.ar z2.c.R.length z2.cr) (.slice z2.aw z2.c.Q.length z2.cw) (.slice z2.af z2.c.F.length z2.cf)
              replace hm7 := hm7.set6 hn6 (by decide) (.string z2.c.nm) (.int .i64 z2.c.kd) (.int .u16 (sv z2.c.M)) (.slice z2.ar z2.c.R.length z2.cr) (.slice z2.aw z2.c.Q.length z2.cw) (.slice z2.af z2.c.F.length z2.cf)
              replace hn6 := hn6.set6 (.string z2.c.nm) (.int .i64 z2.c.kd) (.int .u16 (sv z2.c.M)) (.slice z2.ar z2.c.R.length z2.cr) (.slice z2.aw z2.c.Q.length z2.cw) (.slice z2.af z2.c.F.length z2.cf)
              replace J := keeps_set6 J hg6 (.string z2.c.nm) (.int .i64 z2.c.kd) (.int .u16 (sv z2.c.M)) (.slice z2.ar z2.c.R.length z2.cr) (.slice z2.aw z2.c.Q.length z2.cw) (.slice z2.af z2.c.F.length z2.cf)
              generalize ((((((VA.setCell ⟨B6, 0, none⟩ (.string z2.c.nm)).setCell ⟨B6, 1, none⟩ (.int .i64 z2.c.kd)).setCell ⟨B6, 2, none⟩ (.int .u16 (sv z2.c.M))).setCell ⟨B6, 3, none⟩ (.slice z2.ar z2.c.R.length z2.cr)).setCell ⟨B6, 4, none⟩ (.slice z2.aw z2.c.Q.length z2.cw)).setCell ⟨B6, 5, none⟩ (.slice z2.af z2.c.F.length z2.cf)) = VB at *
              refine hK.out _ _ ?_ (fun hHeld => ?_)
              · exact HP.out _ J
              clear hK K
              (try simp only [Act.put]); (try simp only [List.setIfInBounds_toArray]); (try simp only [List.set_cons_succ]); (try simp only [List.set_cons_zero])
              refine wpAnyH_take (i := 13) (oi := ⟨_, _, _, _, _, _⟩) (v := ?_) rfl (by kernel_rfl) (by kernel_rfl) (by kernel_rfl) (fun _ _ _ h => h) (Or.inl ⟨by rfl, ?_⟩) (by assumption) ?_
              rotate_left 1
              · intro w hSw; (try dsimp only at hSw); go_simp <;> with_reducible rfl
              (try simp only [Act.put]); (try simp only [List.setIfInBounds_toArray]); (try simp only [List.set_cons_succ]); (try simp only [List.set_cons_zero])
              refine wpAnyH_done (by kernel_rfl) ?_ _
              go_wp2_with fail
              go_meet
              case rel => exact ⟨B5, B6, z1, z2, a7, c7, rfl, rfl, rfl, HZ1, HZ2, Lib.hid hn5, Lib.hid hn6, Lib.hid hR1, Lib.hid hR2, Lib.hid hm7.rd, J⟩
        · go_simp
          have hn6 := Blk.new V18 36 zG
          have KA := (Keeps.refl V18).alloc (.cells zG 36)
          have hg6 : W2.heap.size ≤ V18.heap.size := J.size
          have hne : V18.heap.size ≠ B5 := by have := hn5.lt; omega
          replace hR1 := hR1.keep KA
          replace hn5 := hn5.keep KA
          replace J := J.trans KA
          clear KA
          generalize V18.alloc (.cells zG 36) = V24 at *
          generalize V18.heap.size = B6 at *
          have HNE56 := Lib.hid hne.symm
          clear hne
          refine hK.out _ _ ?_ (fun hHeld => ?_)
          · exact HP.out _ J
          clear hK K
          (try simp only [Act.put]); (try simp only [List.setIfInBounds_toArray]); (try simp only [List.set_cons_succ]); (try simp only [List.set_cons_zero])
          refine wpAnyH_ready (rs := [5]) (by kernel_rfl) (by simp) ?_
          refine AllReadyH.cons (o := ⟨_, _, _, _, _, _⟩) rfl (fun K hK => ?_) AllReadyH.nil
          · go_simp
            have hcl := HB.out V24 (HKW.out.trans (K1.trans J))
            refine hcl.mono ?_
            clear hcl
            rintro e V25 ⟨z2, rfl, hz, hR2, K9⟩
            have HZ2 := Lib.hid hz
            clear hz
            unfold vg
            dsimp only
            replace hR1 := hR1.keep K9
            replace hn5 := hn5.keep K9
            replace hn6 := hn6.keep K9
            replace J := J.trans K9
            clear K9
            refine hK.out _ _ ?_ (fun hHeld => ?_)
            · exact HP.out _ J
            clear hK K
            (try simp only [Act.put]); (try simp only [List.setIfInBounds_toArray]); (try simp only [List.set_cons_succ]); (try simp only [List.set_cons_zero])
            refine wpAnyH_ready (rs := [8]) (by kernel_rfl) (by simp) ?_
            refine AllReadyH.cons (o := ⟨_, _, _, _, _, _⟩) rfl (fun K hK => ?_) AllReadyH.nil
            · go_simp
              have hcl := HM.out V25 (HKW.out.trans (K1.trans J))
              refine hcl.mono ?_
              clear hcl
              rintro e V26 ⟨v7, rfl, hO⟩
              have K9 := hO.2
              have hm7 := hO.row0
              obtain ⟨a7, c7, rfl, _⟩ := hO.rd
              clear hO
              replace hR1 := hR1.keep K9
              replace hR2 := hR2.keep K9
              replace hn5 := hn5.keep K9
              replace hn6 := hn6.keep K9
              replace J := J.trans K9
              clear K9
              refine hK.out _ _ ?_ (fun hHeld => ?_)
              · exact HP.out _ J
              clear hK K
              (try simp only [Act.put]); (try simp only [List.setIfInBounds_toArray]); (try simp only [List.set_cons_succ]); (try simp only [List.set_cons_zero])
              refine wpAnyH_ready (rs := [11]) (by kernel_rfl) (by simp) ?_
              refine AllReadyH.cons (o := ⟨_, _, _, _, _, _⟩) rfl (fun K hK => ?_) AllReadyH.nil
              obtain ⟨c0, c1, c2, c3, c4, c5⟩ := hn5.c6
              obtain ⟨g0, g1, g2, g3, g4, g5⟩ := hn5.f6
              go_simp
              clear c0 c1 c2 c3 c4 c5 g0 g1 g2 g3 g4 g5
              replace hn6 := hn6.other6 HNE56.out.symm (.string z1.c.nm) (.int .i64 z1.c.kd) (.int .u16 (sv z1.c.M)) (.slice z1.ar z1.c.R.length z1.cr) (.slice z1.aw z1.c.Q.length z1.cw) (.slice z1.af z1.c.F.length z1.cf)
              replace hR1 := hR1.set6 hn5 (.string z1.c.nm) (.int .i64 z1.c.kd) (.int .u16 (sv z1.c.M)) (.slice z1.ar z1.c.R.length z1.cr) (.slice z1.aw z1.c.Q.length z1.cw) (.slice z1.af z1.c.F.length z1.cf)
              replace hR2 := hR2.set6 hn5 (.string z1.c.nm) (.int .i64 z1.c.kd) (.int .u16 (sv z1.c.M)) (.slice z1.ar z1.c.R.length z1.cr) (.slice z1.aw z1.c.Q.length z1.cw) (.slice z1.af z1.c.F.length z1.cf)
              replace hm7 := hm7.set6 hn5 (by decide) (.string z1.c.nm) (.int .i64 z1.c.kd) (.int .u16 (sv z1.c.M)) (.slice z1.ar z1.c.R.length z1.cr) (.slice z1.aw z1.c.Q.length z1.cw) (.slice z1.af z1.c.F.length z1.cf)
              replace hn5 := hn5.set6 (.string z1.c.nm) (.int .i64 z1.c.kd) (.int .u16 (sv z1.c.M)) (.slice z1.ar z1.c.R.length z1.cr) (.slice z1.aw z1.c.Q.length z1.cw) (.slice z1.af z1.c.F.length z1.cf)
              replace J := keeps_set6 J hg5 (.string z1.c.nm) (.int .i64 z1.c.kd) (.int .u16 (sv z1.c.M)) (.slice z1.ar z1.c.R.length z1.cr) (.slice z1.aw z1.c.Q.length z1.cw) (.slice z1.af z1.c.F.length z1.cf)
              generalize ((((((V26.setCell ⟨B5, 0, none⟩ (.string z1.c.nm)).setCell ⟨B5, 1, none⟩ (.int .i64 z1.c.kd)).setCell ⟨B5, 2, none⟩ (.int .u16 (sv z1.c.M))).setCell ⟨B5, 3, none⟩ (.slice z1.ar z1.c.R.length z1.cr)).setCell ⟨B5, 4, none⟩ (.slice z1.aw z1.c.Q.length z1.cw)).setCell ⟨B5, 5, none⟩ (.slice z1.af z1.c.F.length z1.cf)) = VA at *
              refine hK.out _ _ ?_ (fun hHeld => ?_)
              · exact HP.out _ J
              clear hK K
              (try simp only [Act.put]); (try simp only [List.setIfInBounds_toArray]); (try simp only [List.set_cons_succ]); (try simp only [List.set_cons_zero])
              refine wpAnyH_ready (rs := [12]) (by kernel_rfl) (by simp) ?_
              refine AllReadyH.cons (o := ⟨_, _, _, _, _, _⟩) rfl (fun K hK => ?_) AllReadyH.nil
              obtain ⟨c0, c1, c2, c3, c4, c5⟩ := hn6.c6
              obtain ⟨g0, g1, g2, g3, g4, g5⟩ := hn6.f6
              go_simp
              clear c0 c1 c2 c3 c4 c5 g0 g1 g2 g3 g4 g5
              replace hn5 := hn5.other6 HNE56.out (.string z2.c.nm) (.int .i64 z2.c.kd) (.int .u16 (sv z2.c.M)) (.slice z2.ar z2.c.R.length z2.cr) (.slice z2.aw z2.c.Q.length z2.cw) (.slice z2.af z2.c.F.length z2.cf)
              replace hR1 := hR1.set6 hn6 (.string z2.c.nm) (.int .i64 z2.c.kd) (.int .u16 (sv z2.c.M)) (.slice z2.ar z2.c.R.length z2.cr) (.slice z2.aw z2.c.Q.length z2.cw) (.slice z2.af z2.c.F.length z2.cf)
              replace hR2 := hR2.set6 hn6 (.string z2.c.nm) (.int .i64 z2.c.kd) (.int .u16 (sv z2.c.M)) (.slice z2.ar z2.c.R.length z2.cr) (.slice z2.aw z2.c.Q.length z2.cw) (.slice z2.af z2.c.F.length z2.cf)
              replace hm7 := hm7.set6 hn6 (by decide) (.string z2.c.nm) (.int .i64 z2.c.kd) (.int .u16 (sv z2.c.M)) (.slice z2.ar z2.c.R.length z2.cr) (.slice z2.aw z2.c.Q.length z2.cw) (.slice z2.af z2.c.F.length z2.cf)
              replace hn6 := hn6.set6 (.string z2.c.nm) (.int .i64 z2.c.kd) (.int .u16 (sv z2.c.M)) (.slice z2.ar z2.c.R.length z2.cr) (.slice z2.aw z2.c.Q.length z2.cw) (.slice z2.af z2.c.F.length z2.cf)
              replace J := keeps_set6 J hg6 (.string z2.c.nm) (.int .i64 z2.c.kd) (.int .u16 (sv z2.c.M)) (.slice z2.ar z2.c.R.length z2.cr) (.slice z2.aw z2.c.Q.length z2.cw) (.slice z2.af z2.c.F.length z2.cf)
              generalize ((((((VA.setCell ⟨B6, 0, none⟩ (.string z2.c.nm)).setCell ⟨B6, 1, none⟩ (.int .i64 z2.c.kd)).setCell ⟨B6, 2, none⟩ (.int .u16 (sv z2.c.M))).setCell ⟨B6, 3, none⟩ (.slice z2.ar z2.c.R.length z2.cr)).setCell ⟨B6, 4, none⟩ (.slice z2.aw z2.c.Q.length z2.cw)).setCell ⟨B6, 5, none⟩ (.slice z2.af z2.c.F.length z2.cf)) = VB at *
              refine hK.out _ _ ?_ (fun hHeld => ?_)
              · exact HP.out _ J
              clear hK K
              (try simp only [Act.put]); (try simp only [List.setIfInBounds_toArray]); (try simp only [List.set_cons_succ]); (try simp only [List.set_cons_zero])
              refine wpAnyH_take (i := 13) (oi := ⟨_, _, _, _, _, _⟩) (v := ?_) rfl (by kernel_rfl) (by kernel_rfl) (by kernel_rfl) (fun _ _ _ h => h) (Or.inl ⟨by rfl, ?_⟩) (by assumption) ?_
              rotate_left 1
              · intro w hSw; (try dsimp only at hSw); go_simp <;> with_reducible rfl
              (try simp only [Act.put]); (try simp only [List.setIfInBounds_toArray]); (try simp only [List.set_cons_succ]); (try simp only [List.set_cons_zero])
              refine wpAnyH_done (by kernel_rfl) ?_ _
              go_wp2_with fail
              go_meet
              case rel => exact ⟨B5, B6, z1, z2, a7, c7, rfl, rfl, rfl, HZ1, HZ2, Lib.hid hn5, Lib.hid hn6, Lib.hid hR1, Lib.hid hR2, Lib.hid hm7.rd, J⟩
      · go_simp
        have hn6 := Blk.new V1 36 zG
        have KA := (Keeps.refl V1).alloc (.cells zG 36)
        have hg6 : W2.heap.size ≤ V1.heap.size := J.size
        replace hR1 := hR1.keep KA
        replace J := J.trans KA
        clear KA
        generalize V1.alloc (.cells zG 36) = V27 at *
        generalize V1.heap.size = B6 at *
        refine hK.out _ _ ?_ (fun hHeld => ?_)
        · exact HP.out _ J
        clear hK K
        (try simp only [Act.put]); (try simp only [List.setIfInBounds_toArray]); (try simp only [List.set_cons_succ]); (try simp only [List.set_cons_zero])
        refine wpAnyH_ready (rs := [5, 9]) (by kernel_rfl) (by simp) ?_
        refine AllReadyH.cons (o := ⟨_, _, _, _, _, _⟩) rfl (fun K hK => ?_) (AllReadyH.cons (o := ⟨_, _, _, _, _, _⟩) rfl (fun K hK => ?_) AllReadyH.nil)
        · go_simp
          have hcl := HB.out V27 (HKW.out.trans (K1.trans J))
          refine hcl.mono ?_
          clear hcl
          rintro e V28 ⟨z2, rfl, hz, hR2, K9⟩
          have HZ2 := Lib.hid hz
          clear hz
          unfold vg
          dsimp only
          replace hR1 := hR1.keep K9
          replace hn6 := hn6.keep K9
          replace J := J.trans K9
          clear K9
          refine hK.out _ _ ?_ (fun hHeld => ?_)
          · exact HP.out _ J
          clear hK K
          (try simp only [Act.put]); (try simp only [List.setIfInBounds_toArray]); (try simp only [List.set_cons_succ]); (try simp only [List.set_cons_zero])
          refine wpAnyH_ready (rs := [8, 9]) (by kernel_rfl) (by simp) ?_
          refine AllReadyH.cons (o := ⟨_, _, _, _, _, _⟩) rfl (fun K hK => ?_) (AllReadyH.cons (o := ⟨_, _, _, _, _, _⟩) rfl (fun K hK => ?_) AllReadyH.nil)
          · go_simp
            have hcl := HM.out V28 (HKW.out.trans (K1.trans J))
            refine hcl.mono ?_
            clear hcl
            rintro e V29 ⟨v7, rfl, hO⟩
            have K9 := hO.2
            have hm7 := hO.row0
            obtain ⟨a7, c7, rfl, _⟩ := hO.rd
            clear hO
            replace hR1 := hR1.keep K9
            replace hR2 := hR2.keep K9
            replace hn6 := hn6.keep K9
            replace J := J.trans K9
            clear K9
            refine hK.out _ _ ?_ (fun hHeld => ?_)
            · exact HP.out _ J
            clear hK K
            (try simp only [Act.put]); (try simp only [List.setIfInBounds_toArray]); (try simp only [List.set_cons_succ]); (try simp only [List.set_cons_zero])
            refine wpAnyH_ready (rs := [9]) (by kernel_rfl) (by simp) ?_
            refine AllReadyH.cons (o := ⟨_, _, _, _, _, _⟩) rfl (fun K hK => ?_) AllReadyH.nil
            · go_simp
              have hn5 := Blk.new V29 36 zG
              have KA := (Keeps.refl V29).alloc (.cells zG 36)
              have hg5 : W2.heap.size ≤ V29.heap.size := J.size
              have hne : V29.heap.size ≠ B6 := by have := hn6.lt; omega
              replace hR1 := hR1.keep KA
              replace hR2 := hR2.keep KA
              replace hm7 := hm7.keep KA
              replace hn6 := hn6.keep KA
              replace J := J.trans KA
              clear KA
              generalize V29.alloc (.cells zG 36) = V30 at *
              generalize V29.heap.size = B5 at *
              have HNE56 := Lib.hid hne
              clear hne
              refine hK.out _ _ ?_ (fun hHeld => ?_)
              · exact HP.out _ J
              clear hK K
              (try simp only [Act.put]); (try simp only [List.setIfInBounds_toArray]); (try simp only [List.set_cons_succ]); (try simp only [List.set_cons_zero])
              refine wpAnyH_ready (rs := [11]) (by kernel_rfl) (by simp) ?_
              refine AllReadyH.cons (o := ⟨_, _, _, _, _, _⟩) rfl (fun K hK => ?_) AllReadyH.nil
              obtain ⟨c0, c1, c2, c3, c4, c5⟩ := hn5.c6
              obtain ⟨g0, g1, g2, g3, g4, g5⟩ := hn5.f6
              go_simp
              clear c0 c1 c2 c3 c4 c5 g0 g1 g2 g3 g4 g5
              replace hn6 := hn6.other6 HNE56.out.symm (.string z1.c.nm) (.int .i64 z1.c.kd) (.int .u16 (sv z1.c.M)) (.slice z1.ar z1.c.R.length z1.cr) (.slice z1.aw z1.c.Q.length z1.cw) (.slice z1.af z1.c.F.length z1.cf)
              replace hR1 := hR1.set6 hn5 (.string z1.c.nm) (.int .i64 z1.c.kd) (.int .u16 (sv z1.c.M)) (.slice z1.ar z1.c.R.length z1.cr) (.slice z1.aw z1.c.Q.length z1.cw) (.slice z1.af z1.c.F.length z1.cf)
              replace hR2 := hR2.set6 hn5 (.string z1.c.nm) (.int .i64 z1.c.kd) (.int .u16 (sv z1.c.M)) (.slice z1.ar z1.c.R.length z1.cr) (.slice z1.aw z1.c.Q.length z1.cw) (.slice z1.af z1.c.F.length z1.cf)
              replace hm7 := hm7.set6 hn5 (by decide) (.string z1.c.nm) (.int .i64 z1.c.kd) (.int .u16 (sv z1.c.M)) (.slice z1.ar z1.c.R.length z1.cr) (.slice z1.aw z1.c.Q.length z1.cw) (.slice z1.af z1.c.F.length z1.cf)
              replace hn5 := hn5.set6 (.string z1.c.nm) (.int .i64 z1.c.kd) (.int .u16 (sv z1.c.M)) (.slice z1.ar z1.c.R.length z1.cr) (.slice z1.aw z1.c.Q.length z1.cw) (.slice z1.af z1.c.F.length z1.cf)
              replace J := keeps_set6 J hg5 (.string z1.c.nm) (.int .i64 z1.c.kd) (.int .u16 (sv z1.c.M)) (.slice z1.ar z1.c.R.length z1.cr) (.slice z1.aw z1.c.Q.length z1.cw) (.slice z1.af z1.c.F.length z1.cf)
              generalize ((((((V30.setCell ⟨B5, 0, none⟩ (.string z1.c.nm)).setCell ⟨B5, 1, none⟩ (.int .i64 z1.c.kd)).setCell ⟨B5, 2, none⟩ (.int .u16 (sv z1.c.M))).setCell ⟨B5, 3, none⟩ (.slice z1.ar z1.c.R.length z1.cr)).setCell ⟨B5, 4, none⟩ (.slice z1.aw z1.c.Q.length z1.cw)).setCell ⟨B5, 5, none⟩ (.slice z1.af z1.c.F.length z1.cf)) = VA at *
              refine hK.out _ _ ?_ (fun hHeld => ?_)
              · exact HP.out _ J
              clear hK K
              (try simp only [Act.put]); (try simp only [List.setIfInBounds_toArray]); (try simp only [List.set_cons_succ]); (try simp only [List.set_cons_zero])
              refine wpAnyH_ready (rs := [12]) (by kernel_rfl) (by simp) ?_
              refine AllReadyH.cons (o := ⟨_, _, _, _, _, _⟩) rfl (fun K hK => ?_) AllReadyH.nil
              obtain ⟨c0, c1, c2, c3, c4, c5⟩ := hn6.c6
              obtain ⟨g0, g1, g2, g3, g4, g5⟩ := hn6.f6
              go_simp
              clear c0 c1 c2 c3 c4 c5 g0 g1 g2 g3 g4 g5
              replace hn5 := hn5.other6 HNE56.out (.string z2.c.nm) (.int .i64 z2.c.kd) (.int .u16 (sv z2.c.M)) (.slice z2.ar z2.c.R.length z2.cr) (.slice z2.aw z2.c.Q.length z2.cw) (.slice z2.af z2.c.F.length z2.cf)
              replace hR1 := hR1.set6 hn6 (.string z2.c.nm) (.int .i64 z2.c.kd) (.int .u16 (sv z2.c.M)) (.slice z2.ar z2.c.R.length z2.cr) (.slice z2.aw z2.c.Q.length z2.cw) (.slice z2.af z2.c.F.length z2.cf)
              replace hR2 := hR2.set6 hn6 (.string z2.c.nm) (.int .i64 z2.c.kd) (.int .u16 (sv z2.c.M)) (.slice z2.ar z2.c.R.length z2.cr) (.slice z2.aw z2.c.Q.length z2.cw) (.slice z2.af z2.c.F.length z2.cf)
              replace hm7 := hm7.set6 hn6 (by decide) (.string z2.c.nm) (.int .i64 z2.c.kd) (.int .u16 (sv z2.c.M)) (.slice z2.ar z2.c.R.length z2.cr) (.slice z2.aw z2.c.Q.length z2.cw) (.slice z2.af z2.c.F.length z2.cf)
              replace hn6 := hn6.set6 (.string z2.c.nm) (.int .i64 z2.c.kd) (.int .u16 (sv z2.c.M)) (.slice z2.ar z2.c.R.length z2.cr) (.slice z2.aw z2.c.Q.length z2.cw) (.slice z2.af z2.c.F.length z2.cf)
              replace J := keeps_set6 J hg6 (.string z2.c.nm) (.int .i64 z2.c.kd) (.int .u16 (sv z2.c.M)) (.slice z2.ar z2.c.R.length z2.cr) (.slice z2.aw z2.c.Q.length z2.cw) (.slice z2.af z2.c.F.length z2.cf)
              generalize ((((((VA.setCell ⟨B6, 0, none⟩ (.string z2.c.nm)).setCell ⟨B6, 1, none⟩ (.int .i64 z2.c.kd)).setCell ⟨B6, 2, none⟩ (.int .u16 (sv z2.c.M))).setCell ⟨B6, 3, none⟩ (.slice z2.ar z2.c.R.length z2.cr)).setCell ⟨B6, 4, none⟩ (.slice z2.aw z2.c.Q.length z2.cw)).setCell ⟨B6, 5, none⟩ (.slice z2.af z2.c.F.length z2.cf)) = VB at *
              refine hK.out _ _ ?_ (fun hHeld => ?_)
              · exact HP.out _ J
              clear hK K
              (try simp only [Act.put]); (try simp only [List.setIfInBounds_toArray]); (try simp only [List.set_cons_succ]); (try simp only [List.set_cons_zero])
              refine wpAnyH_take (i := 13) (oi := ⟨_, _, _, _, _, _⟩) (v := ?_) rfl (by kernel_rfl) (by kernel_rfl) (by kernel_rfl) (fun _ _ _ h => h) (Or.inl ⟨by rfl, ?_⟩) (by assumption) ?_
              rotate_left 1
              · intro w hSw; (try dsimp only at hSw); go_simp <;> with_reducible rfl
              (try simp only [Act.put]); (try simp only [List.setIfInBounds_toArray]); (try simp only [List.set_cons_succ]); (try simp only [List.set_cons_zero])
              refine wpAnyH_done (by kernel_rfl) ?_ _
              go_wp2_with fail
              go_meet
              case rel => exact ⟨B5, B6, z1, z2, a7, c7, rfl, rfl, rfl, HZ1, HZ2, Lib.hid hn5, Lib.hid hn6, Lib.hid hR1, Lib.hid hR2, Lib.hid hm7.rd, J⟩
          · go_simp
            have hn5 := Blk.new V28 36 zG
            have KA := (Keeps.refl V28).alloc (.cells zG 36)
            have hg5 : W2.heap.size ≤ V28.heap.size := J.size
            have hne : V28.heap.size ≠ B6 := by have := hn6.lt; omega
            replace hR1 := hR1.keep KA
            replace hR2 := hR2.keep KA
            replace hn6 := hn6.keep KA
            replace J := J.trans KA
            clear KA
            generalize V28.alloc (.cells zG 36) = V31 at *
            generalize V28.heap.size = B5 at *
            have HNE56 := Lib.hid hne
            clear hne
            refine hK.out _ _ ?_ (fun hHeld => ?_)
            · exact HP.out _ J
            clear hK K
            (try simp only [Act.put]); (try simp only [List.setIfInBounds_toArray]); (try simp only [List.set_cons_succ]); (try simp only [List.set_cons_zero])
            refine wpAnyH_ready (rs := [8]) (by kernel_rfl) (by simp) ?_
            refine AllReadyH.cons (o := ⟨_, _, _, _, _, _⟩) rfl (fun K hK => ?_) AllReadyH.nil
            · go_simp
              have hcl := HM.out V31 (HKW.out.trans (K1.trans J))
              refine hcl.mono ?_
              clear hcl
              rintro e V32 ⟨v7, rfl, hO⟩
              have K9 := hO.2
              have hm7 := hO.row0
              obtain ⟨a7, c7, rfl, _⟩ := hO.rd
              clear hO
              replace hR1 := hR1.keep K9
              replace hR2 := hR2.keep K9
              replace hn5 := hn5.keep K9
              replace hn6 := hn6.keep K9
              replace J := J.trans K9
              clear K9
              refine hK.out _ _ ?_ (fun hHeld => ?_)
              · exact HP.out _ J
              clear hK K
              (try simp only [Act.put]); (try simp only [List.setIfInBounds_toArray]); (try simp only [List.set_cons_succ]); (try simp only [List.set_cons_zero])
              refine wpAnyH_ready (rs := [11]) (by kernel_rfl) (by simp) ?_
              refine AllReadyH.cons (o := ⟨_, _, _, _, _, _⟩) rfl (fun K hK => ?_) AllReadyH.nil
              obtain ⟨c0, c1, c2, c3, c4, c5⟩ := hn5.c6
              obtain ⟨g0, g1, g2, g3, g4, g5⟩ := hn5.f6
              go_simp
              clear c0 c1 c2 c3 c4 c5 g0 g1 g2 g3 g4 g5
              replace hn6 := hn6.other6 HNE56.out.symm (.string z1.c.nm) (.int .i64 z1.c.kd) (.int .u16 (sv z1.c.M)) (.slice z1.ar z1.c.R.length z1.cr) (.slice z1.aw z1.c.Q.length z1.cw) (.slice z1.af z1.c.F.length z1.cf)
              replace hR1 := hR1.set6 hn5 (.string z1.c.nm) (.int .i64 z1.c.kd) (.int .u16 (sv z1.c.M)) (.slice z1.ar z1.c.R.length z1.cr) (.slice z1.aw z1.c.Q.length z1.cw) (.slice z1.af z1.c.F.length z1.cf)
              replace hR2 := hR2.set6 hn5 (.string z1.c.nm) (.int .i64 z1.c.kd) (.int .u16 (sv z1.c.M)) (.slice z1.ar z1.c.R.length z1.cr) (.slice z1.aw z1.c.Q.length z1.cw) (.slice z1.af z1.c.F.length z1.cf)
              replace hm7 := hm7.set6 hn5 (by decide) (.string z1.c.nm) (.int .i64 z1.c.kd) (.int .u16 (sv z1.c.M)) (.slice z1.ar z1.c.R.length z1.cr) (.slice z1.aw z1.c.Q.length z1.cw) (.slice z1.af z1.c.F.length z1.cf)
              replace hn5 := hn5.set6 (.string z1.c.nm) (.int .i64 z1.c.kd) (.int .u16 (sv z1.c.M)) (.slice z1.ar z1.c.R.length z1.cr) (.slice z1.aw z1.c.Q.length z1.cw) (.slice z1.af z1.c.F.length z1.cf)
              replace J := keeps_set6 J hg5 (.string z1.c.nm) (.int .i64 z1.c.kd) (.int .u16 (sv z1.c.M)) (.slice z1.ar z1.c.R.length z1.cr) (.slice z1.aw z1.c.Q.length z1.cw) (.slice z1.af z1.c.F.length z1.cf)
              generalize ((((((V32.setCell ⟨B5, 0, none⟩ (.string z1.c.nm)).setCell ⟨B5, 1, none⟩ (.int .i64 z1.c.kd)).setCell ⟨B5, 2, none⟩ (.int .u16 (sv z1.c.M))).setCell ⟨B5, 3, none⟩ (.slice z1.ar z1.c.R.length z1.cr)).setCell ⟨B5, 4, none⟩ (.slice z1.aw z1.c.Q.length z1.cw)).setCell ⟨B5, 5, none⟩ (.slice z1.af z1.c.F.length z1.cf)) = VA at *
              refine hK.out _ _ ?_ (fun hHeld => ?_)
              · exact HP.out _ J
              clear hK K
              (try simp only [Act.put]); (try simp only [List.setIfInBounds_toArray]); (try simp only [List.set_cons_succ]); (try simp only [List.set_cons_zero])
              refine wpAnyH_ready (rs := [12]) (by kernel_rfl) (by simp) ?_
              refine AllReadyH.cons (o := ⟨_, _, _, _, _, _⟩) rfl (fun K hK => ?_) AllReadyH.nil
              obtain ⟨c0, c1, c2, c3, c4, c5⟩ := hn6.c6
              obtain ⟨g0, g1, g2, g3, g4, g5⟩ := hn6.f6
              go_simp
              clear c0 c1 c2 c3 c4 c5 g0 g1 g2 g3 g4 g5
              replace hn5 := hn5.other6 HNE56.out (.string z2.c.nm) (.int .i64 z2.c.kd) (.int .u16 (sv z2.c.M)) (.slice z2.ar z2.c.R.length z2.cr) (.slice z2.aw z2.c.Q.length z2.cw) (.slice z2.af z2.c.F.length z2.cf)
              replace hR1 := hR1.set6 hn6 (.string z2.c.nm) (.int .i64 z2.c.kd) (.int .u16 (sv z2.c.M)) (.slice z2.ar z2.c.R.length z2.cr) (.slice z2.aw z2.c.Q.length z2.cw) (.slice z2.af z2.c.F.length z2.cf)
              replace hR2 := hR2.set6 hn6 (.string z2.c.nm) (.int .i64 z2.c.kd) (.int .u16 (sv z2.c.M)) (.slice z2.ar z2.c.R.length z2.cr) (.slice z2.aw z2.c.Q.length z2.cw) (.slice z2.af z2.c.F.length z2.cf)
              replace hm7 := hm7.set6 hn6 (by decide) (.string z2.c.nm) (.int .i64 z2.c.kd) (.int .u16 (sv z2.c.M)) (.slice z2.ar z2.c.R.length z2.cr) (.slice z2.aw z2.c.Q.length z2.cw) (.slice z2.af z2.c.F.length z2.cf)
              replace hn6 := hn6.set6 (.string z2.c.nm) (.int .i64 z2.c.kd) (.int .u16 (sv z2.c.M)) (.slice z2.ar z2.c.R.length z2.cr) (.slice z2.aw z2.c.Q.length z2.cw) (.slice z2.af z2.c.F.length z2.cf)
              replace J := keeps_set6 J hg6 (.string z2.c.nm) (.int .i64 z2.c.kd) (.int .u16 (sv z2.c.M)) (.slice z2.ar z2.c.R.length z2.cr) (.slice z2.aw z2.c.Q.length z2.cw) (.slice z2.af z2.c.F.length z2.cf)
              generalize ((((((VA.setCell ⟨B6, 0, none⟩ (.string z2.c.nm)).setCell ⟨B6, 1, none⟩ (.int .i64 z2.c.kd)).setCell ⟨B6, 2, none⟩ (.int .u16 (sv z2.c.M))).setCell ⟨B6, 3, none⟩ (.slice z2.ar z2.c.R.length z2.cr)).setCell ⟨B6, 4, none⟩ (.slice z2.aw z2.c.Q.length z2.cw)).setCell ⟨B6, 5, none⟩ (.slice z2.af z2.c.F.length z2.cf)) = VB at *
              refine hK.out _ _ ?_ (fun hHeld => ?_)
              · exact HP.out _ J
              clear hK K
              (try simp only [Act.put]); (try simp only [List.setIfInBounds_toArray]); (try simp only [List.set_cons_succ]); (try simp only [List.set_cons_zero])
              refine wpAnyH_take (i := 13) (oi := ⟨_, _, _, _, _, _⟩) (v := ?_) rfl (by kernel_rfl) (by kernel_rfl) (by kernel_rfl) (fun _ _ _ h => h) (Or.inl ⟨by rfl, ?_⟩) (by assumption) ?_
              rotate_left 1
              · intro w hSw; (try dsimp only at hSw); go_simp <;> with_reducible rfl
              (try simp only [Act.put]); (try simp only [List.setIfInBounds_toArray]); (try simp only [List.set_cons_succ]); (try simp only [List.set_cons_zero])
              refine wpAnyH_done (by kernel_rfl) ?_ _
              go_wp2_with fail
              go_meet
              case rel => exact ⟨B5, B6, z1, z2, a7, c7, rfl, rfl, rfl, HZ1, HZ2, Lib.hid hn5, Lib.hid hn6, Lib.hid hR1, Lib.hid hR2, Lib.hid hm7.rd, J⟩
        · go_simp
          have hn5 := Blk.new V27 36 zG
          have KA := (Keeps.refl V27).alloc (.cells zG 36)
          have hg5 : W2.heap.size ≤ V27.heap.size := J.size
          have hne : V27.heap.size ≠ B6 := by have := hn6.lt; omega
          replace hR1 := hR1.keep KA
          replace hn6 := hn6.keep KA
          replace J := J.trans KA
          clear KA
          generalize V27.alloc (.cells zG 36) = V33 at *
          generalize V27.heap.size = B5 at *
          have HNE56 := Lib.hid hne
          clear hne
          refine hK.out _ _ ?_ (fun hHeld => ?_)
          · exact HP.out _ J
          clear hK K
          (try simp only [Act.put]); (try simp only [List.setIfInBounds_toArray]); (try simp only [List.set_cons_succ]); (try simp only [List.set_cons_zero])
          refine wpAnyH_ready (rs := [5]) (by kernel_rfl) (by simp) ?_
          refine AllReadyH.cons (o := ⟨_, _, _, _, _, _⟩) rfl (fun K hK => ?_) AllReadyH.nil
          · go_simp
            have hcl := HB.out V33 (HKW.out.trans (K1.trans J))
            refine hcl.mono ?_
            clear hcl
            rintro e V34 ⟨z2, rfl, hz, hR2, K9⟩
            have HZ2 := Lib.hid hz
            clear hz
            unfold vg
            dsimp only
            replace hR1 := hR1.keep K9
            replace hn5 := hn5.keep K9
            replace hn6 := hn6.keep K9
            replace J := J.trans K9
            clear K9
            refine hK.out _ _ ?_ (fun hHeld => ?_)
            · exact HP.out _ J
            clear hK K
            (try simp only [Act.put]); (try simp only [List.setIfInBounds_toArray]); (try simp only [List.set_cons_succ]); (try simp only [List.set_cons_zero])
            refine wpAnyH_ready (rs := [8]) (by kernel_rfl) (by simp) ?_
            refine AllReadyH.cons (o := ⟨_, _, _, _, _, _⟩) rfl (fun K hK => ?_) AllReadyH.nil
            · go_simp
              have hcl := HM.out V34 (HKW.out.trans (K1.trans J))
              refine hcl.mono ?_
              clear hcl
              rintro e V35 ⟨v7, rfl, hO⟩
              have K9 := hO.2
              have hm7 := hO.row0
              obtain ⟨a7, c7, rfl, _⟩ := hO.rd
              clear hO
              replace hR1 := hR1.keep K9
              replace hR2 := hR2.keep K9
              replace hn5 := hn5.keep K9
              replace hn6 := hn6.keep K9
              replace J := J.trans K9
              clear K9
              refine hK.out _ _ ?_ (fun hHeld => ?_)
              · exact HP.out _ J
              clear hK K
              (try simp only [Act.put]); (try simp only [List.setIfInBounds_toArray]); (try simp only [List.set_cons_succ]); (try simp only [List.set_cons_zero])
              refine wpAnyH_ready (rs := [11]) (by kernel_rfl) (by simp) ?_
              refine AllReadyH.cons (o := ⟨_, _, _, _, _, _⟩) rfl (fun K hK => ?_) AllReadyH.nil
              obtain ⟨c0, c1, c2, c3, c4, c5⟩ := hn5.c6
              obtain ⟨g0, g1, g2, g3, g4, g5⟩ := hn5.f6
              go_simp
              clear c0 c1 c2 c3 c4 c5 g0 g1 g2 g3 g4 g5
              replace hn6 := hn6.other6 HNE56.out.symm (.string z1.c.nm) (.int .i64 z1.c.kd) (.int .u16 (sv z1.c.M)) (.slice z1.ar z1.c.R.length z1.cr) (.slice z1.aw z1.c.Q.length z1.cw) (.slice z1.af z1.c.F.length z1.cf)
              replace hR1 := hR1.set6 hn5 (.string z1.c.nm) (.int .i64 z1.c.kd) (.int .u16 (sv z1.c.M)) (.slice z1.ar z1.c.R.length z1.cr) (.slice z1.aw z1.c.Q.length z1.cw) (.slice z1.af z1.c.F.length z1.cf)
              replace hR2 := hR2.set6 hn5 (.string z1.c.nm) (.int .i64 z1.c.kd) (.int .u16 (sv z1.c.M)) (.slice z1.ar z1.c.R.length z1.cr) (.slice z1.aw z1.c.Q.length z1.cw) (.slice z1.af z1.c.F.length z1.cf)
              replace hm7 := hm7.set6 hn5 (by decide) (.string z1.c.nm) (.int .i64 z1.c.kd) (.int .u16 (sv z1.c.M)) (.slice z1.ar z1.c.R.length z1.cr) (.slice z1.aw z1.c.Q.length z1.cw) (.slice z1.af z1.c.F.length z1.cf)
              replace hn5 := hn5.set6 (.string z1.c.nm) (.int .i64 z1.c.kd) (.int .u16 (sv z1.c.M)) (.slice z1.ar z1.c.R.length z1.cr) (.slice z1.aw z1.c.Q.length z1.cw) (.slice z1.af z1.c.F.length z1.cf)
              replace J := keeps_set6 J hg5 (.string z1.c.nm) (.int .i64 z1.c.kd) (.int .u16 (sv z1.c.M)) (.slice z1.ar z1.c.R.length z1.cr) (.slice z1.aw z1.c.Q.length z1.cw) (.slice z1.af z1.c.F.length z1.cf)
              generalize ((((((V35.setCell ⟨B5, 0, none⟩ (.string z1.c.nm)).setCell ⟨B5, 1, none⟩ (.int .i64 z1.c.kd)).setCell ⟨B5, 2, none⟩ (.int .u16 (sv z1.c.M))).setCell ⟨B5, 3, none⟩ (.slice z1.ar z1.c.R.length z1.cr)).setCell ⟨B5, 4, none⟩ (.slice z1.aw z1.c.Q.length z1.cw)).setCell ⟨B5, 5, none⟩ (.slice z1.af z1.c.F.length z1.cf)) = VA at *
              refine hK.out _ _ ?_ (fun hHeld => ?_)
              · exact HP.out _ J
              clear hK K
              (try simp only [Act.put]); (try simp only [List.setIfInBounds_toArray]); (try simp only [List.set_cons_succ]); (try simp only [List.set_cons_zero])
              refine wpAnyH_ready (rs := [12]) (by kernel_rfl) (by simp) ?_
              refine AllReadyH.cons (o := ⟨_, _, _, _, _, _⟩) rfl (fun K hK => ?_) AllReadyH.nil
              obtain ⟨c0, c1, c2, c3, c4, c5⟩ := hn6.c6
              obtain ⟨g0, g1, g2, g3, g4, g5⟩ := hn6.f6
              go_simp
              clear c0 c1 c2 c3 c4 c5 g0 g1 g2 g3 g4 g5
              replace hn5 := hn5.other6 HNE56.out (.string z2.c.nm) (.int .i64 z2.c.kd) (.int .u16 (sv z2.c.M)) (.slice z2.ar z2.c.R.length z2.cr) (.slice z2.aw z2.c.Q.length z2.cw) (.slice z2.af z2.c.F.length z2.cf)
              replace hR1 := hR1.set6 hn6 (.string z2.c.nm) (.int .i64 z2.c.kd) (.int .u16 (sv z2.c.M)) (.slice z2.ar z2.c.R.length z2.cr) (.slice z2.aw z2.c.Q.length z2.cw) (.slice z2.af z2.c.F.length z2.cf)
              replace hR2 := hR2.set6 hn6 (.string z2.c.nm) (.int .i64 z2.c.kd) (.int .u16 (sv z2.c.M)) (.slice z2.ar z2.c.R.length z2.cr) (.slice z2.aw z2.c.Q.length z2.cw) (.slice z2.af z2.c.F.length z2.cf)
              replace hm7 := hm7.set6 hn6 (by decide) (.string z2.c.nm) (.int .i64 z2.c.kd) (.int .u16 (sv z2.c.M)) (.slice z2.ar z2.c.R.length z2.cr) (.slice z2.aw z2.c.Q.length z2.cw) (.slice z2.af z2.c.F.length z2.cf)
              replace hn6 := hn6.set6 (.string z2.c.nm) (.int .i64 z2.c.kd) (.int .u16 (sv z2.c.M)) (.slice z2.ar z2.c.R.length z2.cr) (.slice z2.aw z2.c.Q.length z2.cw) (.slice z2.af z2.c.F.length z2.cf)
              replace J := keeps_set6 J hg6 (.string z2.c.nm) (.int .i64 z2.c.kd) (.int .u16 (sv z2.c.M)) (.slice z2.ar z2.c.R.length z2.cr) (.slice z2.aw z2.c.Q.length z2.cw) (.slice z2.af z2.c.F.length z2.cf)
              generalize ((((((VA.setCell ⟨B6, 0, none⟩ (.string z2.c.nm)).setCell ⟨B6, 1, none⟩ (.int .i64 z2.c.kd)).setCell ⟨B6, 2, none⟩ (.int .u16 (sv z2.c.M))).setCell ⟨B6, 3, none⟩ (.slice z2.ar z2.c.R.length z2.cr)).setCell ⟨B6, 4, none⟩ (.slice z2.aw z2.c.Q.length z2.cw)).setCell ⟨B6, 5, none⟩ (.slice z2.af z2.c.F.length z2.cf)) = VB at *
              refine hK.out _ _ ?_ (fun hHeld => ?_)
              · exact HP.out _ J
              clear hK K
              (try simp only [Act.put]); (try simp only [List.setIfInBounds_toArray]); (try simp only [List.set_cons_succ]); (try simp only [List.set_cons_zero])
              refine wpAnyH_take (i := 13) (oi := ⟨_, _, _, _, _, _⟩) (v := ?_) rfl (by kernel_rfl) (by kernel_rfl) (by kernel_rfl) (fun _ _ _ h => h) (Or.inl ⟨by rfl, ?_⟩) (by assumption) ?_
              rotate_left 1
              · intro w hSw; (try dsimp only at hSw); go_simp <;> with_reducible rfl
              (try simp only [Act.put]); (try simp only [List.setIfInBounds_toArray]); (try simp only [List.set_cons_succ]); (try simp only [List.set_cons_zero])
              refine wpAnyH_done (by kernel_rfl) ?_ _
              go_wp2_with fail
              go_meet
              case rel => exact ⟨B5, B6, z1, z2, a7, c7, rfl, rfl, rfl, HZ1, HZ2, Lib.hid hn5, Lib.hid hn6, Lib.hid hR1, Lib.hid hR2, Lib.hid hm7.rd, J⟩
    · go_simp
      have hn5 := Blk.new V0 36 zG
      have KA := (Keeps.refl V0).alloc (.cells zG 36)
      have hg5 : W2.heap.size ≤ V0.heap.size := J.size
      replace J := J.trans KA
      clear KA
      generalize V0.alloc (.cells zG 36) = V36 at *
      generalize V0.heap.size = B5 at *
      refine hK.out _ _ ?_ (fun hHeld => ?_)
      · exact HP.out _ J
      clear hK K
      (try simp only [Act.put]); (try simp only [List.setIfInBounds_toArray]); (try simp only [List.set_cons_succ]); (try simp only [List.set_cons_zero])
      refine wpAnyH_ready (rs := [2, 10]) (by kernel_rfl) (by simp) ?_
      refine AllReadyH.cons (o := ⟨_, _, _, _, _, _⟩) rfl (fun K hK => ?_) (AllReadyH.cons (o := ⟨_, _, _, _, _, _⟩) rfl (fun K hK => ?_) AllReadyH.nil)
      · go_simp
        have hcl := HA.out V36 (HKW.out.trans (K1.trans J))
        refine hcl.mono ?_
        clear hcl
        rintro e V37 ⟨z1, rfl, hz, hR1, K9⟩
        have HZ1 := Lib.hid hz
        clear hz
        unfold vg
        dsimp only
        replace hn5 := hn5.keep K9
        replace J := J.trans K9
        clear K9
        refine hK.out _ _ ?_ (fun hHeld => ?_)
        · exact HP.out _ J
        clear hK K
        (try simp only [Act.put]); (try simp only [List.setIfInBounds_toArray]); (try simp only [List.set_cons_succ]); (try simp only [List.set_cons_zero])
        refine wpAnyH_ready (rs := [5, 10]) (by kernel_rfl) (by simp) ?_
        refine AllReadyH.cons (o := ⟨_, _, _, _, _, _⟩) rfl (fun K hK => ?_) (AllReadyH.cons (o := ⟨_, _, _, _, _, _⟩) rfl (fun K hK => ?_) AllReadyH.nil)
        · go_simp
          have hcl := HB.out V37 (HKW.out.trans (K1.trans J))
          refine hcl.mono ?_
          clear hcl
          rintro e V38 ⟨z2, rfl, hz, hR2, K9⟩
          have HZ2 := Lib.hid hz
          clear hz
          unfold vg
          dsimp only
          replace hR1 := hR1.keep K9
          replace hn5 := hn5.keep K9
          replace J := J.trans K9
          clear K9
          refine hK.out _ _ ?_ (fun hHeld => ?_)
          · exact HP.out _ J
          clear hK K
          (try simp only [Act.put]); (try simp only [List.setIfInBounds_toArray]); (try simp only [List.set_cons_succ]); (try simp only [List.set_cons_zero])
          refine wpAnyH_ready (rs := [8, 10]) (by kernel_rfl) (by simp) ?_
          refine AllReadyH.cons (o := ⟨_, _, _, _, _, _⟩) rfl (fun K hK => ?_) (AllReadyH.cons (o := ⟨_, _, _, _, _, _⟩) rfl (fun K hK => ?_) AllReadyH.nil)
          · go_simp
            have hcl := HM.out V38 (HKW.out.trans (K1.trans J))
            refine hcl.mono ?_
            clear hcl
            rintro e V39 ⟨v7, rfl, hO⟩
            have K9 := hO.2
            have hm7 := hO.row0
            obtain ⟨a7, c7, rfl, _⟩ := hO.rd
            clear hO
            replace hR1 := hR1.keep K9
            replace hR2 := hR2.keep K9
            replace hn5 := hn5.keep K9
            replace J := J.trans K9
            clear K9
            refine hK.out _ _ ?_ (fun hHeld => ?_)
            · exact HP.out _ J
            clear hK K
            (try simp only [Act.put]); (try simp only [List.setIfInBounds_toArray]); (try simp only [List.set_cons_succ]); (try simp only [List.set_cons_zero])
            refine wpAnyH_ready (rs := [10]) (by kernel_rfl) (by simp) ?_
            refine AllReadyH.cons (o := ⟨_, _, _, _, _, _⟩) rfl (fun K hK => ?_) AllReadyH.nil
            · go_simp
              have hn6 := Blk.new V39 36 zG
              have KA := (Keeps.refl V39).alloc (.cells zG 36)
              have hg6 : W2.heap.size ≤ V39.heap.size := J.size
              have hne : V39.heap.size ≠ B5 := by have := hn5.lt; omega
              replace hR1 := hR1.keep KA
              replace hR2 := hR2.keep KA
              replace hm7 := hm7.keep KA
              replace hn5 := hn5.keep KA
              replace J := J.trans KA
              clear KA
              generalize V39.alloc (.cells zG 36) = V40 at *
              generalize V39.heap.size = B6 at *
              have HNE56 := Lib.hid hne.symm
              clear hne
              refine hK.out _ _ ?_ (fun hHeld => ?_)
              · exact HP.out _ J
              clear hK K
              (try simp only [Act.put]); (try simp only [List.setIfInBounds_toArray]); (try simp only [List.set_cons_succ]); (try simp only [List.set_cons_zero])
              refine wpAnyH_ready (rs := [11]) (by kernel_rfl) (by simp) ?_
              refine AllReadyH.cons (o := ⟨_, _, _, _, _, _⟩) rfl (fun K hK => ?_) AllReadyH.nil
              obtain ⟨c0, c1, c2, c3, c4, c5⟩ := hn5.c6
              obtain ⟨g0, g1, g2, g3, g4, g5⟩ := hn5.f6
              go_simp
              clear c0 c1 c2 c3 c4 c5 g0 g1 g2 g3 g4 g5
              replace hn6 := hn6.other6 HNE56.out.symm (.string z1.c.nm) (.int .i64 z1.c.kd) (.int .u16 (sv z1.c.M)) (.slice z1.ar z1.c.R.length z1.cr) (.slice z1.aw z1.c.Q.length z1.cw) (.slice z1.af z1.c.F.length z1.cf)
              replace hR1 := hR1.set6 hn5 (.string z1.c.nm) (.int .i64 z1.c.kd) (.int .u16 (sv z1.c.M)) (.slice z1.ar z1.c.R.length z1.cr) (.slice z1.aw z1.c.Q.length z1.cw) (.slice z1.af z1.c.F.length z1.cf)
              replace hR2 := hR2.set6 hn5 (.string z1.c.nm) (.int .i64 z1.c.kd) (.int .u16 (sv z1.c.M)) (.slice z1.ar z1.c.R.length z1.cr) (.slice z1.aw z1.c.Q.length z1.cw) (.slice z1.af z1.c.F.length z1.cf)
              replace hm7 := hm7.set6 hn5 (by decide) (.string z1.c.nm) (.int .i64 z1.c.kd) (.int .u16 (sv z1.c.M)) (.slice z1.ar z1.c.R.length z1.cr) (.slice z1.aw z1.c.Q.length z1.cw) (.slice z1.af z1.c.F.length z1.cf)
              replace hn5 := hn5.set6 (.string z1.c.nm) (.int .i64 z1.c.kd) (.int .u16 (sv z1.c.M)) (.slice z1.ar z1.c.R.length z1.cr) (.slice z1.aw z1.c.Q.length z1.cw) (.slice z1.af z1.c.F.length z1.cf)
              replace J := keeps_set6 J hg5 (.string z1.c.nm) (.int .i64 z1.c.kd) (.int .u16 (sv z1.c.M)) (.slice z1.ar z1.c.R.length z1.cr) (.slice z1.aw z1.c.Q.length z1.cw) (.slice z1.af z1.c.F.length z1.cf)
              generalize ((((((V40.setCell ⟨B5, 0, none⟩ (.string z1.c.nm)).setCell ⟨B5, 1, none⟩ (.int .i64 z1.c.kd)).setCell ⟨B5, 2, none⟩ (.int .u16 (sv z1.c.M))).setCell ⟨B5, 3, none⟩ (.slice z1.ar z1.c.R.length z1.cr)).setCell ⟨B5, 4, none⟩ (.slice z1.aw z1.c.Q.length z1.cw)).setCell ⟨B5, 5, none⟩ (.slice z1.af z1.c.F.length z1.cf)) = VA at *
              refine hK.out _ _ ?_ (fun hHeld => ?_)
              · exact HP.out _ J
              clear hK K
              (try simp only [Act.put]); (try simp only [List.setIfInBounds_toArray]); (try simp only [List.set_cons_succ]); (try simp only [List.set_cons_zero])
              refine wpAnyH_ready (rs := [12]) (by kernel_rfl) (by simp) ?_
              refine AllReadyH.cons (o := ⟨_, _, _, _, _, _⟩) rfl (fun K hK => ?_) AllReadyH.nil
              obtain ⟨c0, c1, c2, c3, c4, c5⟩ := hn6.c6
              obtain ⟨g0, g1, g2, g3, g4, g5⟩ := hn6.f6
              go_simp
              clear c0 c1 c2 c3 c4 c5 g0 g1 g2 g3 g4 g5
              replace hn5 := hn5.other6 HNE56.out (.string z2.c.nm) (.int .i64 z2.c.kd) (.int .u16 (sv z2.c.M)) (.slice z2.ar z2.c.R.length z2.cr) (.slice z2.aw z2.c.Q.length z2.cw) (.slice z2.af z2.c.F.length z2.cf)
              replace hR1 := hR1.set6 hn6 (.string z2.c.nm) (.int .i64 z2.c.kd) (.int .u16 (sv z2.c.M)) (.slice z2.ar z2.c.R.length z2.cr) (.slice z2.aw z2.c.Q.length z2.cw) (.slice z2.af z2.c.F.length z2.cf)
              replace hR2 := hR2.set6 hn6 (.string z2.c.nm) (.int .i64 z2.c.kd) (.int .u16 (sv z2.c.M)) (.slice z2.ar z2.c.R.length z2.cr) (.slice z2.aw z2.c.Q.length z2.cw) (.slice z2.af z2.c.F.length z2.cf)
              replace hm7 := hm7.set6 hn6 (by decide) (.string z2.c.nm) (.int .i64 z2.c.kd) (.int .u16 (sv z2.c.M)) (.slice z2.ar z2.c.R.length z2.cr) (.slice z2.aw z2.c.Q.length z2.cw) (.slice z2.af z2.c.F.length z2.cf)
              replace hn6 := hn6.set6 (.string z2.c.nm) (.int .i64 z2.c.kd) (.int .u16 (sv z2.c.M)) (.slice z2.ar z2.c.R.length z2.cr) (.slice z2.aw z2.c.Q.length z2.cw) (.slice z2.af z2.c.F.length z2.cf)
              replace J := keeps_set6 J hg6 (.string z2.c.nm) (.int .i64 z2.c.kd) (.int .u16 (sv z2.c.M)) (.slice z2.ar z2.c.R.length z2.cr) (.slice z2.aw z2.c.Q.length z2.cw) (.slice z2.af z2.c.F.length z2.cf)
              generalize ((((((VA.setCell ⟨B6, 0, none⟩ (.string z2.c.nm)).setCell ⟨B6, 1, none⟩ (.int .i64 z2.c.kd)).setCell ⟨B6, 2, none⟩ (.int .u16 (sv z2.c.M))).setCell ⟨B6, 3, none⟩ (.slice z2.ar z2.c.R.length z2.cr)).setCell ⟨B6, 4, none⟩ (.slice z2.aw z2.c.Q.length z2.cw)).setCell ⟨B6, 5, none⟩ (.slice z2.af z2.c.F.length z2.cf)) = VB at *
              refine hK.out _ _ ?_ (fun hHeld => ?_)
              · exact HP.out _ J
              clear hK K
              (try simp only [Act.put]); (try simp only [List.setIfInBounds_toArray]); (try simp only [List.set_cons_succ]); (try simp only [List.set_cons_zero])
              refine wpAnyH_take (i := 13) (oi := ⟨_, _, _, _, _, _⟩) (v := ?_) rfl (by kernel_rfl) (by kernel_rfl) (by kernel_rfl) (fun _ _ _ h => h) (Or.inl ⟨by rfl, ?_⟩) (by assumption) ?_
              rotate_left 1
              · intro w hSw; (try dsimp only at hSw); go_simp <;> with_reducible rfl
              (try simp only [Act.put]); (try simp only [List.setIfInBounds_toArray]); (try simp only [List.set_cons_succ]); (try simp only [List.set_cons_zero])
              refine wpAnyH_done (by kernel_rfl) ?_ _
              go_wp2_with fail
              go_meet
              case rel => exact ⟨B5, B6, z1, z2, a7, c7, rfl, rfl, rfl, HZ1, HZ2, Lib.hid hn5, Lib.hid hn6, Lib.hid hR1, Lib.hid hR2, Lib.hid hm7.rd, J⟩
          · go_simp
            have hn6 := Blk.new V38 36 zG
            have KA := (Keeps.refl V38).alloc (.cells zG 36)
            have hg6 : W2.heap.size ≤ V38.heap.size := J.size
            have hne : V38.heap.size ≠ B5 := by have := hn5.lt; omega
            replace hR1 := hR1.keep KA
            replace hR2 := hR2.keep KA
            replace hn5 := hn5.keep KA
            replace J := J.trans KA
            clear KA
            generalize V38.alloc (.cells zG 36) = V41 at *
            generalize V38.heap.size = B6 at *
            have HNE56 := Lib.hid hne.symm
            clear hne
            refine hK.out _ _ ?_ (fun hHeld => ?_)
            · exact HP.out _ J
            clear hK K
            (try simp only [Act.put]); (try simp only [List.setIfInBounds_toArray]); (try simp only [List.set_cons_succ]); (try simp only [List.set_cons_zero])
            refine wpAnyH_ready (rs := [8]) (by kernel_rfl) (by simp) ?_
            refine AllReadyH.cons (o := ⟨_, _, _, _, _, _⟩) rfl (fun K hK => ?_) AllReadyH.nil
            · go_simp
              have hcl := HM.out V41 (HKW.out.trans (K1.trans J))
              refine hcl.mono ?_
              clear hcl
              rintro e V42 ⟨v7, rfl, hO⟩
              have K9 := hO.2
              have hm7 := hO.row0
              obtain ⟨a7, c7, rfl, _⟩ := hO.rd
              clear hO
              replace hR1 := hR1.keep K9
              replace hR2 := hR2.keep K9
              replace hn5 := hn5.keep K9
              replace hn6 := hn6.keep K9
              replace J := J.trans K9
              clear K9
              refine hK.out _ _ ?_ (fun hHeld => ?_)
              · exact HP.out _ J
              clear hK K
              (try simp only [Act.put]); (try simp only [List.setIfInBounds_toArray]); (try simp only [List.set_cons_succ]); (try simp only [List.set_cons_zero])
              refine wpAnyH_ready (rs := [11]) (by kernel_rfl) (by simp) ?_
              refine AllReadyH.cons (o := ⟨_, _, _, _, _, _⟩) rfl (fun K hK => ?_) AllReadyH.nil
              obtain ⟨c0, c1, c2, c3, c4, c5⟩ := hn5.c6
              obtain ⟨g0, g1, g2, g3, g4, g5⟩ := hn5.f6
              go_simp
              clear c0 c1 c2 c3 c4 c5 g0 g1 g2 g3 g4 g5
              replace hn6 := hn6.other6 HNE56.out.symm (.string z1.c.nm) (.int .i64 z1.c.kd) (.int .u16 (sv z1.c.M)) (.slice z1.ar z1.c.R.length z1.cr) (.slice z1.aw z1.c.Q.length z1.cw) (.slice z1.af z1.c.F.length z1.cf)
              replace hR1 := hR1.set6 hn5 (.string z1.c.nm) (.int .i64 z1.c.kd) (.int .u16 (sv z1.c.M)) (.slice z1.ar z1.c.R.length z1.cr) (.slice z1.aw z1.c.Q.length z1.cw) (.slice z1.af z1.c.F.length z1.cf)
              replace hR2 := hR2.set6 hn5 (.string z1.c.nm) (.int .i64 z1.c.kd) (.int .u16 (sv z1.c.M)) (.slice z1.ar z1.c.R.length z1.cr) (.slice z1.aw z1.c.Q.length z1.cw) (.slice z1.af z1.c.F.length z1.cf)
              replace hm7 := hm7.set6 hn5 (by decide) (.string z1.c.nm) (.int .i64 z1.c.kd) (.int .u16 (sv z1.c.M)) (.slice z1.ar z1.c.R.length z1.cr) (.slice z1.aw z1.c.Q.length z1.cw) (.slice z1.af z1.c.F.length z1.cf)
              replace hn5 := hn5.set6 (.string z1.c.nm) (.int .i64 z1.c.kd) (.int .u16 (sv z1.c.M)) (.slice z1.ar z1.c.R.length z1.cr) (.slice z1.aw z1.c.Q.length z1.cw) (.slice z1.af z1.c.F.length z1.cf)
              replace J := keeps_set6 J hg5 (.string z1.c.nm) (.int .i64 z1.c.kd) (.int .u16 (sv z1.c.M)) (.slice z1.ar z1.c.R.length z1.cr) (.slice z1.aw z1.c.Q.length z1.cw) (.slice z1.af z1.c.F.length z1.cf)
              generalize ((((((V42.setCell ⟨B5, 0, none⟩ (.string z1.c.nm)).setCell ⟨B5, 1, none⟩ (.int .i64 z1.c.kd)).setCell ⟨B5, 2, none⟩ (.int .u16 (sv z1.c.M))).setCell ⟨B5, 3, none⟩ (.slice z1.ar z1.c.R.length z1.cr)).setCell ⟨B5, 4, none⟩ (.slice z1.aw z1.c.Q.length z1.cw)).setCell ⟨B5, 5, none⟩ (.slice z1.af z1.c.F.length z1.cf)) = VA at *
              refine hK.out _ _ ?_ (fun hHeld => ?_)
              · exact HP.out _ J
              clear hK K
              (try simp only [Act.put]); (try simp only [List.setIfInBounds_toArray]); (try simp only [List.set_cons_succ]); (try simp only [List.set_cons_zero])
              refine wpAnyH_ready (rs := [12]) (by kernel_rfl) (by simp) ?_
              refine AllReadyH.cons (o := ⟨_, _, _, _, _, _⟩) rfl (fun K hK => ?_) AllReadyH.nil
              obtain ⟨c0, c1, c2, c3, c4, c5⟩ := hn6.c6
              obtain ⟨g0, g1, g2, g3, g4, g5⟩ := hn6.f6
              go_simp
              clear c0 c1 c2 c3 c4 c5 g0 g1 g2 g3 g4 g5
              replace hn5 := hn5.other6 HNE56.out (.string z2.c.nm) (.int .i64 z2.c.kd) (.int .u16 (sv z2.c.M)) (.slice z2.ar z2.c.R.length z2.cr) (.slice z2.aw z2.c.Q.length z2.cw) (.slice z2.af z2.c.F.length z2.cf)
              replace hR1 := hR1.set6 hn6 (.string z2.c.nm) (.int .i64 z2.c.kd) (.int .u16 (sv z2.c.M)) (.slice z2.ar z2.c.R.length z2.cr) (.slice z2.aw z2.c.Q.length z2.cw) (.slice z2.af z2.c.F.length z2.cf)
              replace hR2 := hR2.set6 hn6 (.string z2.c.nm) (.int .i64 z2.c.kd) (.int .u16 (sv z2.c.M)) (.slice z2.ar z2.c.R.length z2.cr) (.slice z2.aw z2.c.Q.length z2.cw) (.slice z2.af z2.c.F.length z2.cf)
              replace hm7 := hm7.set6 hn6 (by decide) (.string z2.c.nm) (.int .i64 z2.c.kd) (.int .u16 (sv z2.c.M)) (.slice z2.ar z2.c.R.length z2.cr) (.slice z2.aw z2.c.Q.length z2.cw) (.slice z2.af z2.c.F.length z2.cf)
              replace hn6 := hn6.set6 (.string z2.c.nm) (.int .i64 z2.c.kd) (.int .u16 (sv z2.c.M)) (.slice z2.ar z2.c.R.length z2.cr) (.slice z2.aw z2.c.Q.length z2.cw) (.slice z2.af z2.c.F.length z2.cf)
              replace J := keeps_set6 J hg6 (.string z2.c.nm) (.int .i64 z2.c.kd) (.int .u16 (sv z2.c.M)) (.slice z2.ar z2.c.R.length z2.cr) (.slice z2.aw z2.c.Q.length z2.cw) (.slice z2.af z2.c.F.length z2.cf)
              generalize ((((((VA.setCell ⟨B6, 0, none⟩ (.string z2.c.nm)).setCell ⟨B6, 1, none⟩ (.int .i64 z2.c.kd)).setCell ⟨B6, 2, none⟩ (.int .u16 (sv z2.c.M))).setCell ⟨B6, 3, none⟩ (.slice z2.ar z2.c.R.length z2.cr)).setCell ⟨B6, 4, none⟩ (.slice z2.aw z2.c.Q.length z2.cw)).setCell ⟨B6, 5, none⟩ (.slice z2.af z2.c.F.length z2.cf)) = VB at *
              refine hK.out _ _ ?_ (fun hHeld => ?_)
              · exact HP.out _ J
              clear hK K
              (try simp only [Act.put]); (try simp only [List.setIfInBounds_toArray]); (try simp only [List.set_cons_succ]); (try simp only [List.set_cons_zero])
              refine wpAnyH_take (i := 13) (oi := ⟨_, _, _, _, _, _⟩) (v := ?_) rfl (by kernel_rfl) (by kernel_rfl) (by kernel_rfl) (fun _ _ _ h => h) (Or.inl ⟨by rfl, ?_⟩) (by assumption) ?_
              rotate_left 1
              · intro w hSw; (try dsimp only at hSw); go_simp <;> with_reducible rfl
              (try simp only [Act.put]); (try simp only [List.setIfInBounds_toArray]); (try simp only [List.set_cons_succ]); (try simp only [List.set_cons_zero])
              refine wpAnyH_done (by kernel_rfl) ?_ _
              go_wp2_with fail
              go_meet
              case rel => exact ⟨B5, B6, z1, z2, a7, c7, rfl, rfl, rfl, HZ1, HZ2, Lib.hid hn5, Lib.hid hn6, Lib.hid hR1, Lib.hid hR2, Lib.hid hm7.rd, J⟩
        · go_simp
          have hn6 := Blk.new V37 36 zG
          have KA := (Keeps.refl V37).alloc (.cells zG 36)
          have hg6 : W2.heap.size ≤ V37.heap.size := J.size
          have hne : V37.heap.size ≠ B5 := by have := hn5.lt; omega
          replace hR1 := hR1.keep KA
          replace hn5 := hn5.keep KA
          replace J := J.trans KA
          clear KA
          generalize V37.alloc (.cells zG 36) = V43 at *
          generalize V37.heap.size = B6 at *
          have HNE56 := Lib.hid hne.symm
          clear hne
          refine hK.out _ _ ?_ (fun hHeld => ?_)
          · exact HP.out _ J
          clear hK K
          (try simp only [Act.put]); (try simp only [List.setIfInBounds_toArray]); (try simp only [List.set_cons_succ]); (try simp only [List.set_cons_zero])
          refine wpAnyH_ready (rs := [5]) (by kernel_rfl) (by simp) ?_
          refine AllReadyH.cons (o := ⟨_, _, _, _, _, _⟩) rfl (fun K hK => ?_) AllReadyH.nil
          · go_simp
            have hcl := HB.out V43 (HKW.out.trans (K1.trans J))
            refine hcl.mono ?_
            clear hcl
            rintro e V44 ⟨z2, rfl, hz, hR2, K9⟩
            have HZ2 := Lib.hid hz
            clear hz
            unfold vg
            dsimp only
            replace hR1 := hR1.keep K9
            replace hn5 := hn5.keep K9
            replace hn6 := hn6.keep K9
            replace J := J.trans K9
            clear K9
            refine hK.out _ _ ?_ (fun hHeld => ?_)
            · exact HP.out _ J
            clear hK K
            (try simp only [Act.put]); (try simp only [List.setIfInBounds_toArray]); (try simp only [List.set_cons_succ]); (try simp only [List.set_cons_zero])
            refine wpAnyH_ready (rs := [8]) (by kernel_rfl) (by simp) ?_
            refine AllReadyH.cons (o := ⟨_, _, _, _, _, _⟩) rfl (fun K hK => ?_) AllReadyH.nil
            · go_simp
              have hcl := HM.out V44 (HKW.out.trans (K1.trans J))
              refine hcl.mono ?_
              clear hcl
              rintro e V45 ⟨v7, rfl, hO⟩
              have K9 := hO.2
              have hm7 := hO.row0
              obtain ⟨a7, c7, rfl, _⟩ := hO.rd
              clear hO
              replace hR1 := hR1.keep K9
              replace hR2 := hR2.keep K9
              replace hn5 := hn5.keep K9
              replace hn6 := hn6.keep K9
              replace J := J.trans K9
              clear K9
              refine hK.out _ _ ?_ (fun hHeld => ?_)
              · exact HP.out _ J
              clear hK K
              (try simp only [Act.put]); (try simp only [List.setIfInBounds_toArray]); (try simp only [List.set_cons_succ]); (try simp only [List.set_cons_zero])
              refine wpAnyH_ready (rs := [11]) (by kernel_rfl) (by simp) ?_
              refine AllReadyH.cons (o := ⟨_, _, _, _, _, _⟩) rfl (fun K hK => ?_) AllReadyH.nil
              obtain ⟨c0, c1, c2, c3, c4, c5⟩ := hn5.c6
              obtain ⟨g0, g1, g2, g3, g4, g5⟩ := hn5.f6
              go_simp
              clear c0 c1 c2 c3 c4 c5 g0 g1 g2 g3 g4 g5
              replace hn6 := hn6.other6 HNE56.out.symm (.string z1.c.nm) (.int .i64 z1.c.kd) (.int .u16 (sv z1.c.M)) (.slice z1.ar z1.c.R.length z1.cr) (.slice z1.aw z1.c.Q.length z1.cw) (.slice z1.af z1.c.F.length z1.cf)
              replace hR1 := hR1.set6 hn5 (.string z1.c.nm) (.int .i64 z1.c.kd) (.int .u16 (sv z1.c.M)) (.slice z1.ar z1.c.R.length z1.cr) (.slice z1.aw z1.c.Q.length z1.cw) (.slice z1.af z1.c.F.length z1.cf)
              replace hR2 := hR2.set6 hn5 (.string z1.c.nm) (.int .i64 z1.c.kd) (.int .u16 (sv z1.c.M)) (.slice z1.ar z1.c.R.length z1.cr) (.slice z1.aw z1.c.Q.length z1.cw) (.slice z1.af z1.c.F.length z1.cf)
              replace hm7 := hm7.set6 hn5 (by decide) (.string z1.c.nm) (.int .i64 z1.c.kd) (.int .u16 (sv z1.c.M)) (.slice z1.ar z1.c.R.length z1.cr) (.slice z1.aw z1.c.Q.length z1.cw) (.slice z1.af z1.c.F.length z1.cf)
              replace hn5 := hn5.set6 (.string z1.c.nm) (.int .i64 z1.c.kd) (.int .u16 (sv z1.c.M)) (.slice z1.ar z1.c.R.length z1.cr) (.slice z1.aw z1.c.Q.length z1.cw) (.slice z1.af z1.c.F.length z1.cf)
              replace J := keeps_set6 J hg5 (.string z1.c.nm) (.int .i64 z1.c.kd) (.int .u16 (sv z1.c.M)) (.slice z1.ar z1.c.R.length z1.cr) (.slice z1.aw z1.c.Q.length z1.cw) (.slice z1.af z1.c.F.length z1.cf)
              generalize ((((((V45.setCell ⟨B5, 0, none⟩ (.string z1.c.nm)).setCell ⟨B5, 1, none⟩ (.int .i64 z1.c.kd)).setCell ⟨B5, 2, none⟩ (.int .u16 (sv z1.c.M))).setCell ⟨B5, 3, none⟩ (.slice z1.ar z1.c.R.length z1.cr)).setCell ⟨B5, 4, none⟩ (.slice z1.aw z1.c.Q.length z1.cw)).setCell ⟨B5, 5, none⟩ (.slice z1.af z1.c.F.length z1.cf)) = VA at *
              refine hK.out _ _ ?_ (fun hHeld => ?_)
              · exact HP.out _ J
              clear hK K
              (try simp only [Act.put]); (try simp only [List.setIfInBounds_toArray]); (try simp only [List.set_cons_succ]); (try simp only [List.set_cons_zero])
              refine wpAnyH_ready (rs := [12]) (by kernel_rfl) (by simp) ?_
              refine AllReadyH.cons (o := ⟨_, _, _, _, _, _⟩) rfl (fun K hK => ?_) AllReadyH.nil
              obtain ⟨c0, c1, c2, c3, c4, c5⟩ := hn6.c6
              obtain ⟨g0, g1, g2, g3, g4, g5⟩ := hn6.f6
              go_simp
              clear c0 c1 c2 c3 c4 c5 g0 g1 g2 g3 g4 g5
              replace hn5 := hn5.other6 HNE56.out (.string z2.c.nm) (.int .i64 z2.c.kd) (.int .u16 (sv z2.c.M)) (.slice z2.ar z2.c.R.length z2.cr) (.slice z2.aw z2.c.Q.length z2.cw) (.slice z2.af z2.c.F.length z2.cf)
              replace hR1 := hR1.set6 hn6 (.string z2.c.nm) (.int .i64 z2.c.kd) (.int .u16 (sv z2.c.M)) (.slice z2.ar z2.c.R.length z2.cr) (.slice z2.aw z2.c.Q.length z2.cw) (.slice z2.af z2.c.F.length z2.cf)
              replace hR2 := hR2.set6 hn6 (.string z2.c.nm) (.int .i64 z2.c.kd) (.int .u16 (sv z2.c.M)) (.slice z2.ar z2.c.R.length z2.cr) (.slice z2.aw z2.c.Q.length z2.cw) (.slice z2.af z2.c.F.length z2.cf)
              replace hm7 := hm7.set6 hn6 (by decide) (.string z2.c.nm) (.int .i64 z2.c.kd) (.int .u16 (sv z2.c.M)) (.slice z2.ar z2.c.R.length z2.cr) (.slice z2.aw z2.c.Q.length z2.cw) (.slice z2.af z2.c.F.length z2.cf)
              replace hn6 := hn6.set6 (.string z2.c.nm) (.int .i64 z2.c.kd) (.int .u16 (sv z2.c.M)) (.slice z2.ar z2.c.R.length z2.cr) (.slice z2.aw z2.c.Q.length z2.cw) (.slice z2.af z2.c.F.length z2.cf)
              replace J := keeps_set6 J hg6 (.string z2.c.nm) (.int .i64 z2.c.kd) (.int .u16 (sv z2.c.M)) (.slice z2.ar z2.c.R.length z2.cr) (.slice z2.aw z2.c.Q.length z2.cw) (.slice z2.af z2.c.F.length z2.cf)
              generalize ((((((VA.setCell ⟨B6, 0, none⟩ (.string z2.c.nm)).setCell ⟨B6, 1, none⟩ (.int .i64 z2.c.kd)).setCell ⟨B6, 2, none⟩ (.int .u16 (sv z2.c.M))).setCell ⟨B6, 3, none⟩ (.slice z2.ar z2.c.R.length z2.cr)).setCell ⟨B6, 4, none⟩ (.slice z2.aw z2.c.Q.length z2.cw)).setCell ⟨B6, 5, none⟩ (.slice z2.af z2.c.F.length z2.cf)) = VB at *
              refine hK.out _ _ ?_ (fun hHeld => ?_)
              · exact HP.out _ J
              clear hK K
              (try simp only [Act.put]); (try simp only [List.setIfInBounds_toArray]); (try simp only [List.set_cons_succ]); (try simp only [List.set_cons_zero])
              refine wpAnyH_take (i := 13) (oi := ⟨_, _, _, _, _, _⟩) (v := ?_) rfl (by kernel_rfl) (by kernel_rfl) (by kernel_rfl) (fun _ _ _ h => h) (Or.inl ⟨by rfl, ?_⟩) (by assumption) ?_
              rotate_left 1
              · intro w hSw; (try dsimp only at hSw); go_simp <;> with_reducible rfl
              (try simp only [Act.put]); (try simp only [List.setIfInBounds_toArray]); (try simp only [List.set_cons_succ]); (try simp only [List.set_cons_zero])
              refine wpAnyH_done (by kernel_rfl) ?_ _
              go_wp2_with fail
              go_meet
              case rel => exact ⟨B5, B6, z1, z2, a7, c7, rfl, rfl, rfl, HZ1, HZ2, Lib.hid hn5, Lib.hid hn6, Lib.hid hR1, Lib.hid hR2, Lib.hid hm7.rd, J⟩
      · go_simp
        have hn6 := Blk.new V36 36 zG
        have KA := (Keeps.refl V36).alloc (.cells zG 36)
        have hg6 : W2.heap.size ≤ V36.heap.size := J.size
        have hne : V36.heap.size ≠ B5 := by have := hn5.lt; omega
        replace hn5 := hn5.keep KA
        replace J := J.trans KA
        clear KA
        generalize V36.alloc (.cells zG 36) = V46 at *
        generalize V36.heap.size = B6 at *
        have HNE56 := Lib.hid hne.symm
        clear hne
        refine hK.out _ _ ?_ (fun hHeld => ?_)
        · exact HP.out _ J
        clear hK K
        (try simp only [Act.put]); (try simp only [List.setIfInBounds_toArray]); (try simp only [List.set_cons_succ]); (try simp only [List.set_cons_zero])
        refine wpAnyH_ready (rs := [2]) (by kernel_rfl) (by simp) ?_
        refine AllReadyH.cons (o := ⟨_, _, _, _, _, _⟩) rfl (fun K hK => ?_) AllReadyH.nil
        · go_simp
          have hcl := HA.out V46 (HKW.out.trans (K1.trans J))
          refine hcl.mono ?_
          clear hcl
          rintro e V47 ⟨z1, rfl, hz, hR1, K9⟩
          have HZ1 := Lib.hid hz
          clear hz
          unfold vg
          dsimp only
          replace hn5 := hn5.keep K9
          replace hn6 := hn6.keep K9
          replace J := J.trans K9
          clear K9
          refine hK.out _ _ ?_ (fun hHeld => ?_)
          · exact HP.out _ J
          clear hK K
          (try simp only [Act.put]); (try simp only [List.setIfInBounds_toArray]); (try simp only [List.set_cons_succ]); (try simp only [List.set_cons_zero])
          refine wpAnyH_ready (rs := [5]) (by kernel_rfl) (by simp) ?_
          refine AllReadyH.cons (o := ⟨_, _, _, _, _, _⟩) rfl (fun K hK => ?_) AllReadyH.nil
          · go_simp
            have hcl := HB.out V47 (HKW.out.trans (K1.trans J))
            refine hcl.mono ?_
            clear hcl
            rintro e V48 ⟨z2, rfl, hz, hR2, K9⟩
            have HZ2 := Lib.hid hz
            clear hz
            unfold vg
            dsimp only
            replace hR1 := hR1.keep K9
            replace hn5 := hn5.keep K9
            replace hn6 := hn6.keep K9
            replace J := J.trans K9
            clear K9
            refine hK.out _ _ ?_ (fun hHeld => ?_)
            · exact HP.out _ J
            clear hK K
            (try simp only [Act.put]); (try simp only [List.setIfInBounds_toArray]); (try simp only [List.set_cons_succ]); (try simp only [List.set_cons_zero])
            refine wpAnyH_ready (rs := [8]) (by kernel_rfl) (by simp) ?_
            refine AllReadyH.cons (o := ⟨_, _, _, _, _, _⟩) rfl (fun K hK => ?_) AllReadyH.nil
            · go_simp
              have hcl := HM.out V48 (HKW.out.trans (K1.trans J))
              refine hcl.mono ?_
              clear hcl
              rintro e V49 ⟨v7, rfl, hO⟩
              have K9 := hO.2
              have hm7 := hO.row0
              obtain ⟨a7, c7, rfl, _⟩ := hO.rd
              clear hO
              replace hR1 := hR1.keep K9
              replace hR2 := hR2.keep K9
              replace hn5 := hn5.keep K9
              replace hn6 := hn6.keep K9
              replace J := J.trans K9
              clear K9
              refine hK.out _ _ ?_ (fun hHeld => ?_)
              · exact HP.out _ J
              clear hK K
              (try simp only [Act.put]); (try simp only [List.setIfInBounds_toArray]); (try simp only [List.set_cons_succ]); (try simp only [List.set_cons_zero])
              refine wpAnyH_ready (rs := [11]) (by kernel_rfl) (by simp) ?_
              refine AllReadyH.cons (o := ⟨_, _, _, _, _, _⟩) rfl (fun K hK => ?_) AllReadyH.nil
              obtain ⟨c0, c1, c2, c3, c4, c5⟩ := hn5.c6
              obtain ⟨g0, g1, g2, g3, g4, g5⟩ := hn5.f6
              go_simp
              clear c0 c1 c2 c3 c4 c5 g0 g1 g2 g3 g4 g5
              replace hn6 := hn6.other6 HNE56.out.symm (.string z1.c.nm) (.int .i64 z1.c.kd) (.int .u16 (sv z1.c.M)) (.slice z1.ar z1.c.R.length z1.cr) (.slice z1.aw z1.c.Q.length z1.cw) (.slice z1.af z1.c.F.length z1.cf)
              replace hR1 := hR1.set6 hn5 (.string z1.c.nm) (.int .i64 z1.c.kd) (.int .u16 (sv z1.c.M)) (.slice z1.ar z1.c.R.length z1.cr) (.slice z1.aw z1.c.Q.length z1.cw) (.slice z1.af z1.c.F.length z1.cf)
              replace hR2 := hR2.set6 hn5 (.string z1.c.nm) (.int .i64 z1.c.kd) (.int .u16 (sv z1.c.M)) (.slice z1.ar z1.c.R.length z1.cr) (.slice z1.aw z1.c.Q.length z1.cw) (.slice z1.af z1.c.F.length z1.cf)
              replace hm7 := hm7.set6 hn5 (by decide) (.string z1.c.nm) (.int .i64 z1.c.kd) (.int .u16 (sv z1.c.M)) (.slice z1.ar z1.c.R.length z1.cr) (.slice z1.aw z1.c.Q.length z1.cw) (.slice z1.af z1.c.F.length z1.cf)
              replace hn5 := hn5.set6 (.string z1.c.nm) (.int .i64 z1.c.kd) (.int .u16 (sv z1.c.M)) (.slice z1.ar z1.c.R.length z1.cr) (.slice z1.aw z1.c.Q.length z1.cw) (.slice z1.af z1.c.F.length z1.cf)
              replace J := keeps_set6 J hg5 (.string z1.c.nm) (.int .i64 z1.c.kd) (.int .u16 (sv z1.c.M)) (.slice z1.ar z1.c.R.length z1.cr) (.slice z1.aw z1.c.Q.length z1.cw) (.slice z1.af z1.c.F.length z1.cf)
              generalize ((((((V49.setCell ⟨B5, 0, none⟩ (.string z1.c.nm)).setCell ⟨B5, 1, none⟩ (.int .i64 z1.c.kd)).setCell ⟨B5, 2, none⟩ (.int .u16 (sv z1.c.M))).setCell ⟨B5, 3, none⟩ (.slice z1.ar z1.c.R.length z1.cr)).setCell ⟨B5, 4, none⟩ (.slice z1.aw z1.c.Q.length z1.cw)).setCell ⟨B5, 5, none⟩ (.slice z1.af z1.c.F.length z1.cf)) = VA at *
              refine hK.out _ _ ?_ (fun hHeld => ?_)
              · exact HP.out _ J
              clear hK K
              (try simp only [Act.put]); (try simp only [List.setIfInBounds_toArray]); (try simp only [List.set_cons_succ]); (try simp only [List.set_cons_zero])
              refine wpAnyH_ready (rs := [12]) (by kernel_rfl) (by simp) ?_
              refine AllReadyH.cons (o := ⟨_, _, _, _, _, _⟩) rfl (fun K hK => ?_) AllReadyH.nil
              obtain ⟨c0, c1, c2, c3, c4, c5⟩ := hn6.c6
              obtain ⟨g0, g1, g2, g3, g4, g5⟩ := hn6.f6
              go_simp
              clear c0 c1 c2 c3 c4 c5 g0 g1 g2 g3 g4 g5
              replace hn5 := hn5.other6 HNE56.out (.string z2.c.nm) (.int .i64 z2.c.kd) (.int .u16 (sv z2.c.M)) (.slice z2.ar z2.c.R.length z2.cr) (.slice z2.aw z2.c.Q.length z2.cw) (.slice z2.af z2.c.F.length z2.cf)
              replace hR1 := hR1.set6 hn6 (.string z2.c.nm) (.int .i64 z2.c.kd) (.int .u16 (sv z2.c.M)) (.slice z2.ar z2.c.R.length z2.cr) (.slice z2.aw z2.c.Q.length z2.cw) (.slice z2.af z2.c.F.length z2.cf)
              replace hR2 := hR2.set6 hn6 (.string z2.c.nm) (.int .i64 z2.c.kd) (.int .u16 (sv z2.c.M)) (.slice z2.ar z2.c.R.length z2.cr) (.slice z2.aw z2.c.Q.length z2.cw) (.slice z2.af z2.c.F.length z2.cf)
              replace hm7 := hm7.set6 hn6 (by decide) (.string z2.c.nm) (.int .i64 z2.c.kd) (.int .u16 (sv z2.c.M)) (.slice z2.ar z2.c.R.length z2.cr) (.slice z2.aw z2.c.Q.length z2.cw) (.slice z2.af z2.c.F.length z2.cf)
              replace hn6 := hn6.set6 (.string z2.c.nm) (.int .i64 z2.c.kd) (.int .u16 (sv z2.c.M)) (.slice z2.ar z2.c.R.length z2.cr) (.slice z2.aw z2.c.Q.length z2.cw) (.slice z2.af z2.c.F.length z2.cf)
              replace J := keeps_set6 J hg6 (.string z2.c.nm) (.int .i64 z2.c.kd) (.int .u16 (sv z2.c.M)) (.slice z2.ar z2.c.R.length z2.cr) (.slice z2.aw z2.c.Q.length z2.cw) (.slice z2.af z2.c.F.length z2.cf)
              generalize ((((((VA.setCell ⟨B6, 0, none⟩ (.string z2.c.nm)).setCell ⟨B6, 1, none⟩ (.int .i64 z2.c.kd)).setCell ⟨B6, 2, none⟩ (.int .u16 (sv z2.c.M))).setCell ⟨B6, 3, none⟩ (.slice z2.ar z2.c.R.length z2.cr)).setCell ⟨B6, 4, none⟩ (.slice z2.aw z2.c.Q.length z2.cw)).setCell ⟨B6, 5, none⟩ (.slice z2.af z2.c.F.length z2.cf)) = VB at *
              refine hK.out _ _ ?_ (fun hHeld => ?_)
              · exact HP.out _ J
              clear hK K
              (try simp only [Act.put]); (try simp only [List.setIfInBounds_toArray]); (try simp only [List.set_cons_succ]); (try simp only [List.set_cons_zero])
              refine wpAnyH_take (i := 13) (oi := ⟨_, _, _, _, _, _⟩) (v := ?_) rfl (by kernel_rfl) (by kernel_rfl) (by kernel_rfl) (fun _ _ _ h => h) (Or.inl ⟨by rfl, ?_⟩) (by assumption) ?_
              rotate_left 1
              · intro w hSw; (try dsimp only at hSw); go_simp <;> with_reducible rfl
              (try simp only [Act.put]); (try simp only [List.setIfInBounds_toArray]); (try simp only [List.set_cons_succ]); (try simp only [List.set_cons_zero])
              refine wpAnyH_done (by kernel_rfl) ?_ _
              go_wp2_with fail
              go_meet
              case rel => exact ⟨B5, B6, z1, z2, a7, c7, rfl, rfl, rfl, HZ1, HZ2, Lib.hid hn5, Lib.hid hn6, Lib.hid hR1, Lib.hid hR2, Lib.hid hm7.rd, J⟩
    · go_simp
      have hn6 := Blk.new V0 36 zG
      have KA := (Keeps.refl V0).alloc (.cells zG 36)
      have hg6 : W2.heap.size ≤ V0.heap.size := J.size
      replace J := J.trans KA
      clear KA
      generalize V0.alloc (.cells zG 36) = V50 at *
      generalize V0.heap.size = B6 at *
      refine hK.out _ _ ?_ (fun hHeld => ?_)
      · exact HP.out _ J
      clear hK K
      (try simp only [Act.put]); (try simp only [List.setIfInBounds_toArray]); (try simp only [List.set_cons_succ]); (try simp only [List.set_cons_zero])
      refine wpAnyH_ready (rs := [2, 9]) (by kernel_rfl) (by simp) ?_
      refine AllReadyH.cons (o := ⟨_, _, _, _, _, _⟩) rfl (fun K hK => ?_) (AllReadyH.cons (o := ⟨_, _, _, _, _, _⟩) rfl (fun K hK => ?_) AllReadyH.nil)
      · go_simp
        have hcl := HA.out V50 (HKW.out.trans (K1.trans J))
        refine hcl.mono ?_
        clear hcl
        rintro e V51 ⟨z1, rfl, hz, hR1, K9⟩
        have HZ1 := Lib.hid hz
        clear hz
        unfold vg
        dsimp only
        replace hn6 := hn6.keep K9
        replace J := J.trans K9
        clear K9
        refine hK.out _ _ ?_ (fun hHeld => ?_)
        · exact HP.out _ J
        clear hK K
        (try simp only [Act.put]); (try simp only [List.setIfInBounds_toArray]); (try simp only [List.set_cons_succ]); (try simp only [List.set_cons_zero])
        refine wpAnyH_ready (rs := [5, 9]) (by kernel_rfl) (by simp) ?_
        refine AllReadyH.cons (o := ⟨_, _, _, _, _, _⟩) rfl (fun K hK => ?_) (AllReadyH.cons (o := ⟨_, _, _, _, _, _⟩) rfl (fun K hK => ?_) AllReadyH.nil)
        · go_simp
          have hcl := HB.out V51 (HKW.out.trans (K1.trans J))
          refine hcl.mono ?_
          clear hcl
          rintro e V52 ⟨z2, rfl, hz, hR2, K9⟩
          have HZ2 := Lib.hid hz
          clear hz
          unfold vg
          dsimp only
          replace hR1 := hR1.keep K9
          replace hn6 := hn6.keep K9
          replace J := J.trans K9
          clear K9
          refine hK.out _ _ ?_ (fun hHeld => ?_)
          · exact HP.out _ J
          clear hK K
          (try simp only [Act.put]); (try simp only [List.setIfInBounds_toArray]); (try simp only [List.set_cons_succ]); (try simp only [List.set_cons_zero])
          refine wpAnyH_ready (rs := [8, 9]) (by kernel_rfl) (by simp) ?_
          refine AllReadyH.cons (o := ⟨_, _, _, _, _, _⟩) rfl (fun K hK => ?_) (AllReadyH.cons (o := ⟨_, _, _, _, _, _⟩) rfl (fun K hK => ?_) AllReadyH.nil)
          · go_simp
            have hcl := HM.out V52 (HKW.out.trans (K1.trans J))
            refine hcl.mono ?_
            clear hcl
            rintro e V53 ⟨v7, rfl, hO⟩
            have K9 := hO.2
            have hm7 := hO.row0
            obtain ⟨a7, c7, rfl, _⟩ := hO.rd
            clear hO
            replace hR1 := hR1.keep K9
            replace hR2 := hR2.keep K9
            replace hn6 := hn6.keep K9
            replace J := J.trans K9
            clear K9
            refine hK.out _ _ ?_ (fun hHeld => ?_)
            · exact HP.out _ J
            clear hK K
            (try simp only [Act.put]); (try simp only [List.setIfInBounds_toArray]); (try simp only [List.set_cons_succ]); (try simp only [List.set_cons_zero])
            refine wpAnyH_ready (rs := [9]) (by kernel_rfl) (by simp) ?_
            refine AllReadyH.cons (o := ⟨_, _, _, _, _, _⟩) rfl (fun K hK => ?_) AllReadyH.nil
            · go_simp
              have hn5 := Blk.new V53 36 zG
              have KA := (Keeps.refl V53).alloc (.cells zG 36)
              have hg5 : W2.heap.size ≤ V53.heap.size := J.size
              have hne : V53.heap.size ≠ B6 := by have := hn6.lt; omega
              replace hR1 := hR1.keep KA
              replace hR2 := hR2.keep KA
              replace hm7 := hm7.keep KA
              replace hn6 := hn6.keep KA
              replace J := J.trans KA
              clear KA
              generalize V53.alloc (.cells zG 36) = V54 at *
              generalize V53.heap.size = B5 at *
              have HNE56 := Lib.hid hne
              clear hne
              refine hK.out _ _ ?_ (fun hHeld => ?_)
              · exact HP.out _ J
              clear hK K
              (try simp only [Act.put]); (try simp only [List.setIfInBounds_toArray]); (try simp only [List.set_cons_succ]); (try simp only [List.set_cons_zero])
              refine wpAnyH_ready (rs := [11]) (by kernel_rfl) (by simp) ?_
              refine AllReadyH.cons (o := ⟨_, _, _, _, _, _⟩) rfl (fun K hK => ?_) AllReadyH.nil
              obtain ⟨c0, c1, c2, c3, c4, c5⟩ := hn5.c6
              obtain ⟨g0, g1, g2, g3, g4, g5⟩ := hn5.f6
              go_simp
              clear c0 c1 c2 c3 c4 c5 g0 g1 g2 g3 g4 g5
              replace hn6 := hn6.other6 HNE56.out.symm (.string z1.c.nm) (.int .i64 z1.c.kd) (.int .u16 (sv z1.c.M)) (.slice z1.ar z1.c.R.length z1.cr) (.slice z1.aw z1.c.Q.length z1.cw) (.slice z1.af z1.c.F.length z1.cf)
              replace hR1 := hR1.set6 hn5 (.string z1.c.nm) (.int .i64 z1.c.kd) (.int .u16 (sv z1.c.M)) (.slice z1.ar z1.c.R.length z1.cr) (.slice z1.aw z1.c.Q.length z1.cw) (.slice z1.af z1.c.F.length z1.cf)
              replace hR2 := hR2.set6 hn5 (.string z1.c.nm) (.int .i64 z1.c.kd) (.int .u16 (sv z1.c.M)) (.slice z1.ar z1.c.R.length z1.cr) (.slice z1.aw z1.c.Q.length z1.cw) (.slice z1.af z1.c.F.length z1.cf)
              replace hm7 := hm7.set6 hn5 (by decide) (.string z1.c.nm) (.int .i64 z1.c.kd) (.int .u16 (sv z1.c.M)) (.slice z1.ar z1.c.R.length z1.cr) (.slice z1.aw z1.c.Q.length z1.cw) (.slice z1.af z1.c.F.length z1.cf)
              replace hn5 := hn5.set6 (.string z1.c.nm) (.int .i64 z1.c.kd) (.int .u16 (sv z1.c.M)) (.slice z1.ar z1.c.R.length z1.cr) (.slice z1.aw z1.c.Q.length z1.cw) (.slice z1.af z1.c.F.length z1.cf)
              replace J := keeps_set6 J hg5 (.string z1.c.nm) (.int .i64 z1.c.kd) (.int .u16 (sv z1.c.M)) (.slice z1.ar z1.c.R.length z1.cr) (.slice z1.aw z1.c.Q.length z1.cw) (.slice z1.af z1.c.F.length z1.cf)
              generalize ((((((V54.setCell ⟨B5, 0, none⟩ (.string z1.c.nm)).setCell ⟨B5, 1, none⟩ (.int .i64 z1.c.kd)).setCell ⟨B5, 2, none⟩ (.int .u16 (sv z1.c.M))).setCell ⟨B5, 3, none⟩ (.slice z1.ar z1.c.R.length z1.cr)).setCell ⟨B5, 4, none⟩ (.slice z1.aw z1.c.Q.length z1.cw)).setCell ⟨B5, 5, none⟩ (.slice z1.af z1.c.F.length z1.cf)) = VA at *
              refine hK.out _ _ ?_ (fun hHeld => ?_)
              · exact HP.out _ J
              clear hK K
              (try simp only [Act.put]); (try simp only [List.setIfInBounds_toArray]); (try simp only [List.set_cons_succ]); (try simp only [List.set_cons_zero])
              refine wpAnyH_ready (rs := [12]) (by kernel_rfl) (by simp) ?_
              refine AllReadyH.cons (o := ⟨_, _, _, _, _, _⟩) rfl (fun K hK => ?_) AllReadyH.nil
              obtain ⟨c0, c1, c2, c3, c4, c5⟩ := hn6.c6
              obtain ⟨g0, g1, g2, g3, g4, g5⟩ := hn6.f6
              go_simp
              clear c0 c1 c2 c3 c4 c5 g0 g1 g2 g3 g4 g5
              replace hn5 := hn5.other6 HNE56.out (.string z2.c.nm) (.int .i64 z2.c.kd) (.int .u16 (sv z2.c.M)) (.slice z2.ar z2.c.R.length z2.cr) (.slice z2.aw z2.c.Q.length z2.cw) (.slice z2.af z2.c.F.length z2.cf)
              replace hR1 := hR1.set6 hn6 (.string z2.c.nm) (.int .i64 z2.c.kd) (.int .u16 (sv z2.c.M)) (.slice z2.ar z2.c.R.length z2.cr) (.slice z2.aw z2.c.Q.length z2.cw) (.slice z2.af z2.c.F.length z2.cf)
              replace hR2 := hR2.set6 hn6 (.string z2.c.nm) (.int .i64 z2.c.kd) (.int .u16 (sv z2.c.M)) (.slice z2.ar z2.c.R.length z2.cr) (.slice z2.aw z2.c.Q.length z2.cw) (.slice z2.af z2.c.F.length z2.cf)
              replace hm7 := hm7.set6 hn6 (by decide) (.string z2.c.nm) (.int .i64 z2.c.kd) (.int .u16 (sv z2.c.M)) (.slice z2.ar z2.c.R.length z2.cr) (.slice z2.aw z2.c.Q.length z2.cw) (.slice z2.af z2.c.F.length z2.cf)
              replace hn6 := hn6.set6 (.string z2.c.nm) (.int .i64 z2.c.kd) (.int .u16 (sv z2.c.M)) (.slice z2.ar z2.c.R.length z2.cr) (.slice z2.aw z2.c.Q.length z2.cw) (.slice z2.af z2.c.F.length z2.cf)
              replace J := keeps_set6 J hg6 (.string z2.c.nm) (.int .i64 z2.c.kd) (.int .u16 (sv z2.c.M)) (.slice z2.ar z2.c.R.length z2.cr) (.slice z2.aw z2.c.Q.length z2.cw) (.slice z2.af z2.c.F.length z2.cf)
              generalize ((((((VA.setCell ⟨B6, 0, none⟩ (.string z2.c.nm)).setCell ⟨B6, 1, none⟩ (.int .i64 z2.c.kd)).setCell ⟨B6, 2, none⟩ (.int .u16 (sv z2.c.M))).setCell ⟨B6, 3, none⟩ (.slice z2.ar z2.c.R.length z2.cr)).setCell ⟨B6, 4, none⟩ (.slice z2.aw z2.c.Q.length z2.cw)).setCell ⟨B6, 5, none⟩ (.slice z2.af z2.c.F.length z2.cf)) = VB at *
              refine hK.out _ _ ?_ (fun hHeld => ?_)
              · exact HP.out _ J
              clear hK K
              (try simp only [Act.put]); (try simp only [List.setIfInBounds_toArray]); (try simp only [List.set_cons_succ]); (try simp only [List.set_cons_zero])
              refine wpAnyH_take (i := 13) (oi := ⟨_, _, _, _, _, _⟩) (v := ?_) rfl (by kernel_rfl) (by kernel_rfl) (by kernel_rfl) (fun _ _ _ h => h) (Or.inl ⟨by rfl, ?_⟩) (by assumption) ?_
              rotate_left 1
              · intro w hSw; (try dsimp only at hSw); go_simp <;> with_reducible rfl
              (try simp only [Act.put]); (try simp only [List.setIfInBounds_toArray]); (try simp only [List.set_cons_succ]); (try simp only [List.set_cons_zero])
              refine wpAnyH_done (by kernel_rfl) ?_ _
              go_wp2_with fail
              go_meet
              case rel => exact ⟨B5, B6, z1, z2, a7, c7, rfl, rfl, rfl, HZ1, HZ2, Lib.hid hn5, Lib.hid hn6, Lib.hid hR1, Lib.hid hR2, Lib.hid hm7.rd, J⟩
          · go_simp
            have hn5 := Blk.new V52 36 zG
            have KA := (Keeps.refl V52).alloc (.cells zG 36)
            have hg5 : W2.heap.size ≤ V52.heap.size := J.size
            have hne : V52.heap.size ≠ B6 := by have := hn6.lt; omega
            replace hR1 := hR1.keep KA
            replace hR2 := hR2.keep KA
            replace hn6 := hn6.keep KA
            replace J := J.trans KA
            clear KA
            generalize V52.alloc (.cells zG 36) = V55 at *
            generalize V52.heap.size = B5 at *
            have HNE56 := Lib.hid hne
            clear hne
            refine hK.out _ _ ?_ (fun hHeld => ?_)
            · exact HP.out _ J
            clear hK K
            (try simp only [Act.put]); (try simp only [List.setIfInBounds_toArray]); (try simp only [List.set_cons_succ]); (try simp only [List.set_cons_zero])
            refine wpAnyH_ready (rs := [8]) (by kernel_rfl) (by simp) ?_
            refine AllReadyH.cons (o := ⟨_, _, _, _, _, _⟩) rfl (fun K hK => ?_) AllReadyH.nil
            · go_simp
              have hcl := HM.out V55 (HKW.out.trans (K1.trans J))
              refine hcl.mono ?_
              clear hcl
              rintro e V56 ⟨v7, rfl, hO⟩
              have K9 := hO.2
              have hm7 := hO.row0
              obtain ⟨a7, c7, rfl, _⟩ := hO.rd
              clear hO
              replace hR1 := hR1.keep K9
              replace hR2 := hR2.keep K9
              replace hn5 := hn5.keep K9
              replace hn6 := hn6.keep K9
              replace J := J.trans K9
              clear K9
              refine hK.out _ _ ?_ (fun hHeld => ?_)
              · exact HP.out _ J
              clear hK K
              (try simp only [Act.put]); (try simp only [List.setIfInBounds_toArray]); (try simp only [List.set_cons_succ]); (try simp only [List.set_cons_zero])
              refine wpAnyH_ready (rs := [11]) (by kernel_rfl) (by simp) ?_
              refine AllReadyH.cons (o := ⟨_, _, _, _, _, _⟩) rfl (fun K hK => ?_) AllReadyH.nil
              obtain ⟨c0, c1, c2, c3, c4, c5⟩ := hn5.c6
              obtain ⟨g0, g1, g2, g3, g4, g5⟩ := hn5.f6
              go_simp
              clear c0 c1 c2 c3 c4 c5 g0 g1 g2 g3 g4 g5
              replace hn6 := hn6.other6 HNE56.out.symm (.string z1.c.nm) (.int .i64 z1.c.kd) (.int .u16 (sv z1.c.M)) (.slice z1.ar z1.c.R.length z1.cr) (.slice z1.aw z1.c.Q.length z1.cw) (.slice z1.af z1.c.F.length z1.cf)
              replace hR1 := hR1.set6 hn5 (.string z1.c.nm) (.int .i64 z1.c.kd) (.int .u16 (sv z1.c.M)) (.slice z1.ar z1.c.R.length z1.cr) (.slice z1.aw z1.c.Q.length z1.cw) (.slice z1.af z1.c.F.length z1.cf)
              replace hR2 := hR2.set6 hn5 (.string z1.c.nm) (.int .i64 z1.c.kd) (.int .u16 (sv z1.c.M)) (.slice z1.ar z1.c.R.length z1.cr) (.slice z1.aw z1.c.Q.length z1.cw) (.slice z1.af z1.c.F.length z1.cf)
              replace hm7 := hm7.set6 hn5 (by decide) (.string z1.c.nm) (.int .i64 z1.c.kd) (.int .u16 (sv z1.c.M)) (.slice z1.ar z1.c.R.length z1.cr) (.slice z1.aw z1.c.Q.length z1.cw) (.slice z1.af z1.c.F.length z1.cf)
              replace hn5 := hn5.set6 (.string z1.c.nm) (.int .i64 z1.c.kd) (.int .u16 (sv z1.c.M)) (.slice z1.ar z1.c.R.length z1.cr) (.slice z1.aw z1.c.Q.length z1.cw) (.slice z1.af z1.c.F.length z1.cf)
              replace J := keeps_set6 J hg5 (.string z1.c.nm) (.int .i64 z1.c.kd) (.int .u16 (sv z1.c.M)) (.slice z1.ar z1.c.R.length z1.cr) (.slice z1.aw z1.c.Q.length z1.cw) (.slice z1.af z1.c.F.length z1.cf)
              generalize ((((((V56.setCell ⟨B5, 0, none⟩ (.string z1.c.nm)).setCell ⟨B5, 1, none⟩ (.int .i64 z1.c.kd)).setCell ⟨B5, 2, none⟩ (.int .u16 (sv z1.c.M))).setCell ⟨B5, 3, none⟩ (.slice z1.ar z1.c.R.length z1.cr)).setCell ⟨B5, 4, none⟩ (.slice z1.aw z1.c.Q.length z1.cw)).setCell ⟨B5, 5, none⟩ (.slice z1.af z1.c.F.length z1.cf)) = VA at *
              refine hK.out _ _ ?_ (fun hHeld => ?_)
              · exact HP.out _ J
              clear hK K
              (try simp only [Act.put]); (try simp only [List.setIfInBounds_toArray]); (try simp only [List.set_cons_succ]); (try simp only [List.set_cons_zero])
              refine wpAnyH_ready (rs := [12]) (by kernel_rfl) (by simp) ?_
              refine AllReadyH.cons (o := ⟨_, _, _, _, _, _⟩) rfl (fun K hK => ?_) AllReadyH.nil
              obtain ⟨c0, c1, c2, c3, c4, c5⟩ := hn6.c6
              obtain ⟨g0, g1, g2, g3, g4, g5⟩ := hn6.f6
              go_simp
              clear c0 c1 c2 c3 c4 c5 g0 g1 g2 g3 g4 g5
              replace hn5 := hn5.other6 HNE56.out (.string z2.c.nm) (.int .i64 z2.c.kd) (.int .u16 (sv z2.c.M)) (.slice z2.ar z2.c.R.length z2.cr) (.slice z2.aw z2.c.Q.length z2.cw) (.slice z2.af z2.c.F.length z2.cf)
              replace hR1 := hR1.set6 hn6 (.string z2.c.nm) (.int .i64 z2.c.kd) (.int .u16 (sv z2.c.M)) (.slice z2.ar z2.c.R.length z2.cr) (.slice z2.aw z2.c.Q.length z2.cw) (.slice z2.af z2.c.F.length z2.cf)
              replace hR2 := hR2.set6 hn6 (.string z2.c.nm) (.int .i64 z2.c.kd) (.int .u16 (sv z2.c.M)) (.slice z2.ar z2.c.R.length z2.cr) (.slice z2.aw z2.c.Q.length z2.cw) (.slice z2.af z2.c.F.length z2.cf)
              replace hm7 := hm7.set6 hn6 (by decide) (.string z2.c.nm) (.int .i64 z2.c.kd) (.int .u16 (sv z2.c.M)) (.slice z2.ar z2.c.R.length z2.cr) (.slice z2.aw z2.c.Q.length z2.cw) (.slice z2.af z2.c.F.length z2.cf)
              replace hn6 := hn6.set6 (.string z2.c.nm) (.int .i64 z2.c.kd) (.int .u16 (sv z2.c.M)) (.slice z2.ar z2.c.R.length z2.cr) (.slice z2.aw z2.c.Q.length z2.cw) (.slice z2.af z2.c.F.length z2.cf)
              replace J := keeps_set6 J hg6 (.string z2.c.nm) (.int .i64 z2.c.kd) (.int .u16 (sv z2.c.M)) (.slice z2.ar z2.c.R.length z2.cr) (.slice z2.aw z2.c.Q.length z2.cw) (.slice z2.af z2.c.F.length z2.cf)
              generalize ((((((VA.setCell ⟨B6, 0, none⟩ (.string z2.c.nm)).setCell ⟨B6, 1, none⟩ (.int .i64 z2.c.kd)).setCell ⟨B6, 2, none⟩ (.int .u16 (sv z2.c.M))).setCell ⟨B6, 3, none⟩ (.slice z2.ar z2.c.R.length z2.cr)).setCell ⟨B6, 4, none⟩ (.slice z2.aw z2.c.Q.length z2.cw)).setCell ⟨B6, 5, none⟩ (.slice z2.af z2.c.F.length z2.cf)) = VB at *
              refine hK.out _ _ ?_ (fun hHeld => ?_)
              · exact HP.out _ J
              clear hK K
              (try simp only [Act.put]); (try simp only [List.setIfInBounds_toArray]); (try simp only [List.set_cons_succ]); (try simp only [List.set_cons_zero])
              refine wpAnyH_take (i := 13) (oi := ⟨_, _, _, _, _, _⟩) (v := ?_) rfl (by kernel_rfl) (by kernel_rfl) (by kernel_rfl) (fun _ _ _ h => h) (Or.inl ⟨by rfl, ?_⟩) (by assumption) ?_
              rotate_left 1
              · intro w hSw; (try dsimp only at hSw); go_simp <;> with_reducible rfl
              (try simp only [Act.put]); (try simp only [List.setIfInBounds_toArray]); (try simp only [List.set_cons_succ]); (try simp only [List.set_cons_zero])
              refine wpAnyH_done (by kernel_rfl) ?_ _
              go_wp2_with fail
              go_meet
              case rel => exact ⟨B5, B6, z1, z2, a7, c7, rfl, rfl, rfl, HZ1, HZ2, Lib.hid hn5, Lib.hid hn6, Lib.hid hR1, Lib.hid hR2, Lib.hid hm7.rd, J⟩
        · go_simp
          have hn5 := Blk.new V51 36 zG
          have KA := (Keeps.refl V51).alloc (.cells zG 36)
          have hg5 : W2.heap.size ≤ V51.heap.size := J.size
          have hne : V51.heap.size ≠ B6 := by have := hn6.lt; omega
          replace hR1 := hR1.keep KA
          replace hn6 := hn6.keep KA
          replace J := J.trans KA
          clear KA
          generalize V51.alloc (.cells zG 36) = V57 at *
          generalize V51.heap.size = B5 at *
          have HNE56 := Lib.hid hne
          clear hne
          refine hK.out _ _ ?_ (fun hHeld => ?_)
          · exact HP.out _ J
          clear hK K
          (try simp only [Act.put]); (try simp only [List.setIfInBounds_toArray]); (try simp only [List.set_cons_succ]); (try simp only [List.set_cons_zero])
          refine wpAnyH_ready (rs := [5]) (by kernel_rfl) (by simp) ?_
          refine AllReadyH.cons (o := ⟨_, _, _, _, _, _⟩) rfl (fun K hK => ?_) AllReadyH.nil
          · go_simp
            have hcl := HB.out V57 (HKW.out.trans (K1.trans J))
            refine hcl.mono ?_
            clear hcl
            rintro e V58 ⟨z2, rfl, hz, hR2, K9⟩
            have HZ2 := Lib.hid hz
            clear hz
            unfold vg
            dsimp only
            replace hR1 := hR1.keep K9
            replace hn5 := hn5.keep K9
            replace hn6 := hn6.keep K9
            replace J := J.trans K9
            clear K9
            refine hK.out _ _ ?_ (fun hHeld => ?_)
            · exact HP.out _ J
            clear hK K
            (try simp only [Act.put]); (try simp only [List.setIfInBounds_toArray]); (try simp only [List.set_cons_succ]); (try simp only [List.set_cons_zero])
            refine wpAnyH_ready (rs := [8]) (by kernel_rfl) (by simp) ?_
            refine AllReadyH.cons (o := ⟨_, _, _, _, _, _⟩) rfl (fun K hK => ?_) AllReadyH.nil
            · go_simp
              have hcl := HM.out V58 (HKW.out.trans (K1.trans J))
              refine hcl.mono ?_
              clear hcl
              rintro e V59 ⟨v7, rfl, hO⟩
              have K9 := hO.2
              have hm7 := hO.row0
              obtain ⟨a7, c7, rfl, _⟩ := hO.rd
              clear hO
              replace hR1 := hR1.keep K9
              replace hR2 := hR2.keep K9
              replace hn5 := hn5.keep K9
              replace hn6 := hn6.keep K9
              replace J := J.trans K9
              clear K9
              refine hK.out _ _ ?_ (fun hHeld => ?_)
              · exact HP.out _ J
              clear hK K
              (try simp only [Act.put]); (try simp only [List.setIfInBounds_toArray]); (try simp only [List.set_cons_succ]); (try simp only [List.set_cons_zero])
              refine wpAnyH_ready (rs := [11]) (by kernel_rfl) (by simp) ?_
              refine AllReadyH.cons (o := ⟨_, _, _, _, _, _⟩) rfl (fun K hK => ?_) AllReadyH.nil
              obtain ⟨c0, c1, c2, c3, c4, c5⟩ := hn5.c6
              obtain ⟨g0, g1, g2, g3, g4, g5⟩ := hn5.f6
              go_simp
              clear c0 c1 c2 c3 c4 c5 g0 g1 g2 g3 g4 g5
              replace hn6 := hn6.other6 HNE56.out.symm (.string z1.c.nm) (.int .i64 z1.c.kd) (.int .u16 (sv z1.c.M)) (.slice z1.ar z1.c.R.length z1.cr) (.slice z1.aw z1.c.Q.length z1.cw) (.slice z1.af z1.c.F.length z1.cf)
              replace hR1 := hR1.set6 hn5 (.string z1.c.nm) (.int .i64 z1.c.kd) (.int .u16 (sv z1.c.M)) (.slice z1.ar z1.c.R.length z1.cr) (.slice z1.aw z1.c.Q.length z1.cw) (.slice z1.af z1.c.F.length z1.cf)
              replace hR2 := hR2.set6 hn5 (.string z1.c.nm) (.int .i64 z1.c.kd) (.int .u16 (sv z1.c.M)) (.slice z1.ar z1.c.R.length z1.cr) (.slice z1.aw z1.c.Q.length z1.cw) (.slice z1.af z1.c.F.length z1.cf)
              replace hm7 := hm7.set6 hn5 (by decide) (.string z1.c.nm) (.int .i64 z1.c.kd) (.int .u16 (sv z1.c.M)) (.slice z1.ar z1.c.R.length z1.cr) (.slice z1.aw z1.c.Q.length z1.cw) (.slice z1.af z1.c.F.length z1.cf)
              replace hn5 := hn5.set6 (.string z1.c.nm) (.int .i64 z1.c.kd) (.int .u16 (sv z1.c.M)) (.slice z1.ar z1.c.R.length z1.cr) (.slice z1.aw z1.c.Q.length z1.cw) (.slice z1.af z1.c.F.length z1.cf)
              replace J := keeps_set6 J hg5 (.string z1.c.nm) (.int .i64 z1.c.kd) (.int .u16 (sv z1.c.M)) (.slice z1.ar z1.c.R.length z1.cr) (.slice z1.aw z1.c.Q.length z1.cw) (.slice z1.af z1.c.F.length z1.cf)
              generalize ((((((V59.setCell ⟨B5, 0, none⟩ (.string z1.c.nm)).setCell ⟨B5, 1, none⟩ (.int .i64 z1.c.kd)).setCell ⟨B5, 2, none⟩ (.int .u16 (sv z1.c.M))).setCell ⟨B5, 3, none⟩ (.slice z1.ar z1.c.R.length z1.cr)).setCell ⟨B5, 4, none⟩ (.slice z1.aw z1.c.Q.length z1.cw)).setCell ⟨B5, 5, none⟩ (.slice z1.af z1.c.F.length z1.cf)) = VA at *
              refine hK.out _ _ ?_ (fun hHeld => ?_)
              · exact HP.out _ J
              clear hK K
              (try simp only [Act.put]); (try simp only [List.setIfInBounds_toArray]); (try simp only [List.set_cons_succ]); (try simp only [List.set_cons_zero])
              refine wpAnyH_ready (rs := [12]) (by kernel_rfl) (by simp) ?_
              refine AllReadyH.cons (o := ⟨_, _, _, _, _, _⟩) rfl (fun K hK => ?_) AllReadyH.nil
              obtain ⟨c0, c1, c2, c3, c4, c5⟩ := hn6.c6
              obtain ⟨g0, g1, g2, g3, g4, g5⟩ := hn6.f6
              go_simp
              clear c0 c1 c2 c3 c4 c5 g0 g1 g2 g3 g4 g5
              replace hn5 := hn5.other6 HNE56.out (.string z2.c.nm) (.int .i64 z2.c.kd) (.int .u16 (sv z2.c.M)) (.slice z2.ar z2.c.R.length z2.cr) (.slice z2.aw z2.c.Q.length z2.cw) (.slice z2.af z2.c.F.length z2.cf)
              replace hR1 := hR1.set6 hn6 (.string z2.c.nm) (.int .i64 z2.c.kd) (.int .u16 (sv z2.c.M)) (.slice z2.ar z2.c.R.length z2.cr) (.slice z2.aw z2.c.Q.length z2.cw) (.slice z2.af z2.c.F.length z2.cf)
              replace hR2 := hR2.set6 hn6 (.string z2.c.nm) (.int .i64 z2.c.kd) (.int .u16 (sv z2.c.M)) (.slice z2.ar z2.c.R.length z2.cr) (.slice z2.aw z2.c.Q.length z2.cw) (.slice z2.af z2.c.F.length z2.cf)
              replace hm7 := hm7.set6 hn6 (by decide) (.string z2.c.nm) (.int .i64 z2.c.kd) (.int .u16 (sv z2.c.M)) (.slice z2.ar z2.c.R.length z2.cr) (.slice z2.aw z2.c.Q.length z2.cw) (.slice z2.af z2.c.F.length z2.cf)
              replace hn6 := hn6.set6 (.string z2.c.nm) (.int .i64 z2.c.kd) (.int .u16 (sv z2.c.M)) (.slice z2.ar z2.c.R.length z2.cr) (.slice z2.aw z2.c.Q.length z2.cw) (.slice z2.af z2.c.F.length z2.cf)
              replace J := keeps_set6 J hg6 (.string z2.c.nm) (.int .i64 z2.c.kd) (.int .u16 (sv z2.c.M)) (.slice z2.ar z2.c.R.length z2.cr) (.slice z2.aw z2.c.Q.length z2.cw) (.slice z2.af z2.c.F.length z2.cf)
              generalize ((((((VA.setCell ⟨B6, 0, none⟩ (.string z2.c.nm)).setCell ⟨B6, 1, none⟩ (.int .i64 z2.c.kd)).setCell ⟨B6, 2, none⟩ (.int .u16 (sv z2.c.M))).setCell ⟨B6, 3, none⟩ (.slice z2.ar z2.c.R.length z2.cr)).setCell ⟨B6, 4, none⟩ (.slice z2.aw z2.c.Q.length z2.cw)).setCell ⟨B6, 5, none⟩ (.slice z2.af z2.c.F.length z2.cf)) = VB at *
              refine hK.out _ _ ?_ (fun hHeld => ?_)
              · exact HP.out _ J
              clear hK K
              (try simp only [Act.put]); (try simp only [List.setIfInBounds_toArray]); (try simp only [List.set_cons_succ]); (try simp only [List.set_cons_zero])
              refine wpAnyH_take (i := 13) (oi := ⟨_, _, _, _, _, _⟩) (v := ?_) rfl (by kernel_rfl) (by kernel_rfl) (by kernel_rfl) (fun _ _ _ h => h) (Or.inl ⟨by rfl, ?_⟩) (by assumption) ?_
              rotate_left 1
              · intro w hSw; (try dsimp only at hSw); go_simp <;> with_reducible rfl
              (try simp only [Act.put]); (try simp only [List.setIfInBounds_toArray]); (try simp only [List.set_cons_succ]); (try simp only [List.set_cons_zero])
              refine wpAnyH_done (by kernel_rfl) ?_ _
              go_wp2_with fail
              go_meet
              case rel => exact ⟨B5, B6, z1, z2, a7, c7, rfl, rfl, rfl, HZ1, HZ2, Lib.hid hn5, Lib.hid hn6, Lib.hid hR1, Lib.hid hR2, Lib.hid hm7.rd, J⟩
      · go_simp
        have hn5 := Blk.new V50 36 zG
        have KA := (Keeps.refl V50).alloc (.cells zG 36)
        have hg5 : W2.heap.size ≤ V50.heap.size := J.size
        have hne : V50.heap.size ≠ B6 := by have := hn6.lt; omega
        replace hn6 := hn6.keep KA
        replace J := J.trans KA
        clear KA
        generalize V50.alloc (.cells zG 36) = V60 at *
        generalize V50.heap.size = B5 at *
        have HNE56 := Lib.hid hne
        clear hne
        refine hK.out _ _ ?_ (fun hHeld => ?_)
        · exact HP.out _ J
        clear hK K
        (try simp only [Act.put]); (try simp only [List.setIfInBounds_toArray]); (try simp only [List.set_cons_succ]); (try simp only [List.set_cons_zero])
        refine wpAnyH_ready (rs := [2]) (by kernel_rfl) (by simp) ?_
        refine AllReadyH.cons (o := ⟨_, _, _, _, _, _⟩) rfl (fun K hK => ?_) AllReadyH.nil
        · go_simp
          have hcl := HA.out V60 (HKW.out.trans (K1.trans J))
          refine hcl.mono ?_
          clear hcl
          rintro e V61 ⟨z1, rfl, hz, hR1, K9⟩
          have HZ1 := Lib.hid hz
          clear hz
          unfold vg
          dsimp only
          replace hn5 := hn5.keep K9
          replace hn6 := hn6.keep K9
          replace J := J.trans K9
          clear K9
          refine hK.out _ _ ?_ (fun hHeld => ?_)
          · exact HP.out _ J
          clear hK K
          (try simp only [Act.put]); (try simp only [List.setIfInBounds_toArray]); (try simp only [List.set_cons_succ]); (try simp only [List.set_cons_zero])
          refine wpAnyH_ready (rs := [5]) (by kernel_rfl) (by simp) ?_
          refine AllReadyH.cons (o := ⟨_, _, _, _, _, _⟩) rfl (fun K hK => ?_) AllReadyH.nil
          · go_simp
            have hcl := HB.out V61 (HKW.out.trans (K1.trans J))
            refine hcl.mono ?_
            clear hcl
            rintro e V62 ⟨z2, rfl, hz, hR2, K9⟩
            have HZ2 := Lib.hid hz
            clear hz
            unfold vg
            dsimp only
            replace hR1 := hR1.keep K9
            replace hn5 := hn5.keep K9
            replace hn6 := hn6.keep K9
            replace J := J.trans K9
            clear K9
            refine hK.out _ _ ?_ (fun hHeld => ?_)
            · exact HP.out _ J
            clear hK K
            (try simp only [Act.put]); (try simp only [List.setIfInBounds_toArray]); (try simp only [List.set_cons_succ]); (try simp only [List.set_cons_zero])
            refine wpAnyH_ready (rs := [8]) (by kernel_rfl) (by simp) ?_
            refine AllReadyH.cons (o := ⟨_, _, _, _, _, _⟩) rfl (fun K hK => ?_) AllReadyH.nil
            · go_simp
              have hcl := HM.out V62 (HKW.out.trans (K1.trans J))
              refine hcl.mono ?_
              clear hcl
              rintro e V63 ⟨v7, rfl, hO⟩
              have K9 := hO.2
              have hm7 := hO.row0
              obtain ⟨a7, c7, rfl, _⟩ := hO.rd
              clear hO
              replace hR1 := hR1.keep K9
              replace hR2 := hR2.keep K9
              replace hn5 := hn5.keep K9
              replace hn6 := hn6.keep K9
              replace J := J.trans K9
              clear K9
              refine hK.out _ _ ?_ (fun hHeld => ?_)
              · exact HP.out _ J
              clear hK K
              (try simp only [Act.put]); (try simp only [List.setIfInBounds_toArray]); (try simp only [List.set_cons_succ]); (try simp only [List.set_cons_zero])
              refine wpAnyH_ready (rs := [11]) (by kernel_rfl) (by simp) ?_
              refine AllReadyH.cons (o := ⟨_, _, _, _, _, _⟩) rfl (fun K hK => ?_) AllReadyH.nil
              obtain ⟨c0, c1, c2, c3, c4, c5⟩ := hn5.c6
              obtain ⟨g0, g1, g2, g3, g4, g5⟩ := hn5.f6
              go_simp
              clear c0 c1 c2 c3 c4 c5 g0 g1 g2 g3 g4 g5
              replace hn6 := hn6.other6 HNE56.out.symm (.string z1.c.nm) (.int .i64 z1.c.kd) (.int .u16 (sv z1.c.M)) (.slice z1.ar z1.c.R.length z1.cr) (.slice z1.aw z1.c.Q.length z1.cw) (.slice z1.af z1.c.F.length z1.cf)
              replace hR1 := hR1.set6 hn5 (.string z1.c.nm) (.int .i64 z1.c.kd) (.int .u16 (sv z1.c.M)) (.slice z1.ar z1.c.R.length z1.cr) (.slice z1.aw z1.c.Q.length z1.cw) (.slice z1.af z1.c.F.length z1.cf)
              replace hR2 := hR2.set6 hn5 (.string z1.c.nm) (.int .i64 z1.c.kd) (.int .u16 (sv z1.c.M)) (.slice z1.ar z1.c.R.length z1.cr) (.slice z1.aw z1.c.Q.length z1.cw) (.slice z1.af z1.c.F.length z1.cf)
              replace hm7 := hm7.set6 hn5 (by decide) (.string z1.c.nm) (.int .i64 z1.c.kd) (.int .u16 (sv z1.c.M)) (.slice z1.ar z1.c.R.length z1.cr) (.slice z1.aw z1.c.Q.length z1.cw) (.slice z1.af z1.c.F.length z1.cf)
              replace hn5 := hn5.set6 (.string z1.c.nm) (.int .i64 z1.c.kd) (.int .u16 (sv z1.c.M)) (.slice z1.ar z1.c.R.length z1.cr) (.slice z1.aw z1.c.Q.length z1.cw) (.slice z1.af z1.c.F.length z1.cf)
              replace J := keeps_set6 J hg5 (.string z1.c.nm) (.int .i64 z1.c.kd) (.int .u16 (sv z1.c.M)) (.slice z1.ar z1.c.R.length z1.cr) (.slice z1.aw z1.c.Q.length z1.cw) (.slice z1.af z1.c.F.length z1.cf)
              generalize ((((((V63.setCell ⟨B5, 0, none⟩ (.string z1.c.nm)).setCell ⟨B5, 1, none⟩ (.int .i64 z1.c.kd)).setCell ⟨B5, 2, none⟩ (.int .u16 (sv z1.c.M))).setCell ⟨B5, 3, none⟩ (.slice z1.ar z1.c.R.length z1.cr)).setCell ⟨B5, 4, none⟩ (.slice z1.aw z1.c.Q.length z1.cw)).setCell ⟨B5, 5, none⟩ (.slice z1.af z1.c.F.length z1.cf)) = VA at *
              refine hK.out _ _ ?_ (fun hHeld => ?_)
              · exact HP.out _ J
              clear hK K
              (try simp only [Act.put]); (try simp only [List.setIfInBounds_toArray]); (try simp only [List.set_cons_succ]); (try simp only [List.set_cons_zero])
              refine wpAnyH_ready (rs := [12]) (by kernel_rfl) (by simp) ?_
              refine AllReadyH.cons (o := ⟨_, _, _, _, _, _⟩) rfl (fun K hK => ?_) AllReadyH.nil
              obtain ⟨c0, c1, c2, c3, c4, c5⟩ := hn6.c6
              obtain ⟨g0, g1, g2, g3, g4, g5⟩ := hn6.f6
              go_simp
              clear c0 c1 c2 c3 c4 c5 g0 g1 g2 g3 g4 g5
              replace hn5 := hn5.other6 HNE56.out (.string z2.c.nm) (.int .i64 z2.c.kd) (.int .u16 (sv z2.c.M)) (.slice z2.ar z2.c.R.length z2.cr) (.slice z2.aw z2.c.Q.length z2.cw) (.slice z2.af z2.c.F.length z2.cf)
              replace hR1 := hR1.set6 hn6 (.string z2.c.nm) (.int .i64 z2.c.kd) (.int .u16 (sv z2.c.M)) (.slice z2.ar z2.c.R.length z2.cr) (.slice z2.aw z2.c.Q.length z2.cw) (.slice z2.af z2.c.F.length z2.cf)
              replace hR2 := hR2.set6 hn6 (.string z2.c.nm) (.int .i64 z2.c.kd) (.int .u16 (sv z2.c.M)) (.slice z2.ar z2.c.R.length z2.cr) (.slice z2.aw z2.c.Q.length z2.cw) (.slice z2.af z2.c.F.length z2.cf)
              replace hm7 := hm7.set6 hn6 (by decide) (.string z2.c.nm) (.int .i64 z2.c.kd) (.int .u16 (sv z2.c.M)) (.slice z2.ar z2.c.R.length z2.cr) (.slice z2.aw z2.c.Q.length z2.cw) (.slice z2.af z2.c.F.length z2.cf)
              replace hn6 := hn6.set6 (.string z2.c.nm) (.int .i64 z2.c.kd) (.int .u16 (sv z2.c.M)) (.slice z2.ar z2.c.R.length z2.cr) (.slice z2.aw z2.c.Q.length z2.cw) (.slice z2.af z2.c.F.length z2.cf)
              replace J := keeps_set6 J hg6 (.string z2.c.nm) (.int .i64 z2.c.kd) (.int .u16 (sv z2.c.M)) (.slice z2.ar z2.c.R.length z2.cr) (.slice z2.aw z2.c.Q.length z2.cw) (.slice z2.af z2.c.F.length z2.cf)
              generalize ((((((VA.setCell ⟨B6, 0, none⟩ (.string z2.c.nm)).setCell ⟨B6, 1, none⟩ (.int .i64 z2.c.kd)).setCell ⟨B6, 2, none⟩ (.int .u16 (sv z2.c.M))).setCell ⟨B6, 3, none⟩ (.slice z2.ar z2.c.R.length z2.cr)).setCell ⟨B6, 4, none⟩ (.slice z2.aw z2.c.Q.length z2.cw)).setCell ⟨B6, 5, none⟩ (.slice z2.af z2.c.F.length z2.cf)) = VB at *
              refine hK.out _ _ ?_ (fun hHeld => ?_)
              · exact HP.out _ J
              clear hK K
              (try simp only [Act.put]); (try simp only [List.setIfInBounds_toArray]); (try simp only [List.set_cons_succ]); (try simp only [List.set_cons_zero])
              refine wpAnyH_take (i := 13) (oi := ⟨_, _, _, _, _, _⟩) (v := ?_) rfl (by kernel_rfl) (by kernel_rfl) (by kernel_rfl) (fun _ _ _ h => h) (Or.inl ⟨by rfl, ?_⟩) (by assumption) ?_
              rotate_left 1
              · intro w hSw; (try dsimp only at hSw); go_simp <;> with_reducible rfl
              (try simp only [Act.put]); (try simp only [List.setIfInBounds_toArray]); (try simp only [List.set_cons_succ]); (try simp only [List.set_cons_zero])
              refine wpAnyH_done (by kernel_rfl) ?_ _
              go_wp2_with fail
              go_meet
              case rel => exact ⟨B5, B6, z1, z2, a7, c7, rfl, rfl, rfl, HZ1, HZ2, Lib.hid hn5, Lib.hid hn6, Lib.hid hR1, Lib.hid hR2, Lib.hid hm7.rd, J⟩
  case rest =>
    obtain ⟨B5, B6, z1, z2, a7, c7, rfl, rfl, rfl, HZ1, HZ2, HN5, HN6, HR1, HR2, HM7, KX⟩ := hcut
    have HV1 : Hid (cvf z1.c = 0) := by rw [HZ1.out]; exact mt_valid (by decide) a
    have HV2 : Hid (cvf z2.c = 0) := by rw [HZ2.out]; exact mt_valid (by decide) b
    have HD := Lib.hid ((HB4.out.keep K1).keep KX)
    clear HP HA HB HM HB4 HZ1 HZ2
    obtain ⟨c0, c1, c2, c3, c4, c5⟩ := HN5.out.c6
    obtain ⟨d0, d1, d2, d3, d4, d5⟩ := HN6.out.c6
    go_wp2_with fail
    clear c0 c1 c2 c3 c4 c5 d0 d1 d2 d3 d4 d5
    refine (jof_any z1 z2 _ HR1.out.rd HR2.out.rd).mono ?_
    intro e w3 hret
    obtain ⟨z3, rfl, hz3, hR3, K⟩ := hret
    unfold vg
    dsimp only
    have K2 := (Keeps.refl w3).alloc (.cells #[.string z3.c.nm, .int .i64 z3.c.kd, .int .u16 (sv z3.c.M), .slice z3.ar z3.c.R.length z3.cr, .slice z3.aw z3.c.Q.length z3.cw, .slice z3.af z3.c.F.length z3.cf] 36)
    have hn8 := Blk.new w3 36 #[.string z3.c.nm, .int .i64 z3.c.kd, .int .u16 (sv z3.c.M), .slice z3.ar z3.c.R.length z3.cr, .slice z3.aw z3.c.Q.length z3.cw, .slice z3.af z3.c.F.length z3.cf]
    replace K := K.trans K2
    have HR3 := Lib.hid (hR3.keep K2)
    have HN8 := Lib.hid hn8
    clear K2 hR3 hn8
    replace HN5 := Lib.hid (HN5.out.keep K); replace HN6 := Lib.hid (HN6.out.keep K); replace HR1 := Lib.hid (HR1.out.keep K); replace HR2 := Lib.hid (HR2.out.keep K); replace HM7 := Lib.hid (HM7.out.keep K); replace HD := Lib.hid (HD.out.keep K); replace KX := KX.trans K
    clear K
    have hE : ofE z1.c z2.c = 0 ∨ ofE z1.c z2.c = 3 := of_err HV1.out HV2.out
    have HOK := Lib.hid (fun h => topJ z ml s hz3 h)
    clear hz3
    generalize ofE z1.c z2.c = eo at *
    rcases hE with rfl | rfl
    rotate_left 1
    · go_wp2_with fail
      go_ret
      exact ⟨rfl, HKW.out.trans (K1.trans KX)⟩
    have HTJ := Lib.hid (HOK.out rfl)
    have HV3 : Hid (cvf z3.c = 0) := Lib.hid HTJ.out.v
    clear HOK
    go_upto_region 7 with fail
    generalize w3.alloc (.cells #[.string z3.c.nm, .int .i64 z3.c.kd, .int .u16 (sv z3.c.M), .slice z3.ar z3.c.R.length z3.cr, .slice z3.aw z3.c.Q.length z3.cw, .slice z3.af z3.c.F.length z3.cf] 36) = W3 at *
    generalize w3.heap.size = B8 at *
    have JJ := Keeps.refl W3
    go_upto_region 7 with fail
    go_cut [56] from 12 (fun s56 wx => s56 = .bool false ∧ Hid (Blk wx B5 36 #[.string z1.c.nm, .int .i64 z1.c.kd, .int .u16 (sv z1.c.M), .slice z1.ar z1.c.R.length z1.cr, .slice z1.aw z1.c.Q.length z1.cw, .slice z1.af z1.c.F.length z1.cf]) ∧ Hid (Blk wx B6 36 #[.string z2.c.nm, .int .i64 z2.c.kd, .int .u16 (sv z2.c.M), .slice z2.ar z2.c.R.length z2.cr, .slice z2.aw z2.c.Q.length z2.cw, .slice z2.af z2.c.F.length z2.cf]) ∧ Hid (Blk wx B8 36 #[.string z3.c.nm, .int .i64 z3.c.kd, .int .u16 (sv z3.c.M), .slice z3.ar z3.c.R.length z3.cr, .slice z3.aw z3.c.Q.length z3.cw, .slice z3.af z3.c.F.length z3.cf]) ∧ Hid (RoG wx z1) ∧ Hid (RoG wx z2) ∧ Hid (RoG wx z3) ∧ Hid (Rd wx a7 ml.length c7 2 (fl ml)) ∧ Hid (Blk wx w.heap.size 50 #[.int .u8 a.kd, .int .u8 a.N, .int .u8 a.md, .slice a.ar a.lr.length a.cr, .slice a.aw a.lw.length a.cw, .slice a.af a.lf.length a.cf, .int .u8 b.kd, .int .u8 b.N, .int .u8 b.md, .slice b.ar b.lr.length b.cr, .slice b.aw b.lw.length b.cw, .slice b.af b.lf.length b.cf, .int .u16 (sv z), .slice am m.length cm]) ∧ Keeps W3 wx)
    case first =>
      obtain ⟨c0, c1, c2, c3, c4, c5⟩ := HN5.out.c6
      have d12 := HD.out.cell 12 (v := .int .u16 (sv z)) rfl
      go_wp2_with fail
      clear c0 c1 c2 c3 c4 c5 d12
      have hcl := csafG_any z1 z _ (HT.out.keep (K1.trans (KX.trans JJ))) HR1.out HV1.out
      unfold vg at hcl
      obtain ⟨q1, hq1⟩ : ∃ q, q = safC z z1 := ⟨_, rfl⟩
      rw [← hq1] at hcl
      have Hq1 := Lib.hid hq1; clear hq1
      refine hcl.mono ?_
      clear hcl
      rintro e Xq1 ⟨rfl, K⟩
      replace HN5 := Lib.hid (HN5.out.keep K); replace HN6 := Lib.hid (HN6.out.keep K); replace HN8 := Lib.hid (HN8.out.keep K); replace HR1 := Lib.hid (HR1.out.keep K); replace HR2 := Lib.hid (HR2.out.keep K); replace HR3 := Lib.hid (HR3.out.keep K); replace HM7 := Lib.hid (HM7.out.keep K); replace HD := Lib.hid (HD.out.keep K); replace JJ := JJ.trans K; clear K
      cases q1 with
      | false =>
        go_wp2_with fail
        go_meet
        case rel => exact ⟨rfl, HN5, HN6, HN8, HR1, HR2, HR3, HM7, HD, JJ⟩
      | true =>
        obtain ⟨c0, c1, c2, c3, c4, c5⟩ := HN6.out.c6
        have d12 := HD.out.cell 12 (v := .int .u16 (sv z)) rfl
        go_wp2_with fail
        clear c0 c1 c2 c3 c4 c5 d12
        have hcl := csafG_any z2 z _ (HT.out.keep (K1.trans (KX.trans JJ))) HR2.out HV2.out
        unfold vg at hcl
        obtain ⟨q2, hq2⟩ : ∃ q, q = safC z z2 := ⟨_, rfl⟩
        rw [← hq2] at hcl
        have Hq2 := Lib.hid hq2; clear hq2
        refine hcl.mono ?_
        clear hcl
        rintro e Xq2 ⟨rfl, K⟩
        replace HN5 := Lib.hid (HN5.out.keep K); replace HN6 := Lib.hid (HN6.out.keep K); replace HN8 := Lib.hid (HN8.out.keep K); replace HR1 := Lib.hid (HR1.out.keep K); replace HR2 := Lib.hid (HR2.out.keep K); replace HR3 := Lib.hid (HR3.out.keep K); replace HM7 := Lib.hid (HM7.out.keep K); replace HD := Lib.hid (HD.out.keep K); replace JJ := JJ.trans K; clear K
        cases q2 with
        | false =>
          go_wp2_with fail
          go_meet
          case rel => exact ⟨rfl, HN5, HN6, HN8, HR1, HR2, HR3, HM7, HD, JJ⟩
        | true =>
          obtain ⟨c0, c1, c2, c3, c4, c5⟩ := HN8.out.c6
          have d12 := HD.out.cell 12 (v := .int .u16 (sv z)) rfl
          go_wp2_with fail
          clear c0 c1 c2 c3 c4 c5 d12
          have hcl := csafG_any z3 z _ (HT.out.keep (K1.trans (KX.trans JJ))) HR3.out HV3.out
          unfold vg at hcl
          obtain ⟨q3, hq3⟩ : ∃ q, q = safC z z3 := ⟨_, rfl⟩
          rw [← hq3] at hcl
          have Hq3 := Lib.hid hq3; clear hq3
          refine hcl.mono ?_
          clear hcl
          rintro e Xq3 ⟨rfl, K⟩
          replace HN5 := Lib.hid (HN5.out.keep K); replace HN6 := Lib.hid (HN6.out.keep K); replace HN8 := Lib.hid (HN8.out.keep K); replace HR1 := Lib.hid (HR1.out.keep K); replace HR2 := Lib.hid (HR2.out.keep K); replace HR3 := Lib.hid (HR3.out.keep K); replace HM7 := Lib.hid (HM7.out.keep K); replace HD := Lib.hid (HD.out.keep K); replace JJ := JJ.trans K; clear K
          have ht : q3 = true := by rw [Hq3.out]; exact HTJ.out.saf Hq1.out.symm Hq2.out.symm
          subst ht
          go_wp2_with fail
          go_meet
          case rel => exact ⟨rfl, HN5, HN6, HN8, HR1, HR2, HR3, HM7, HD, JJ⟩
    obtain ⟨rfl, HN5, HN6, HN8, HR1, HR2, HR3, HM7, HD, JJ⟩ := hcut
    go_upto_region 9 with fail
    go_cut [76] from 12 (fun s76 wx => s76 = .bool false ∧ Hid (Blk wx B5 36 #[.string z1.c.nm, .int .i64 z1.c.kd, .int .u16 (sv z1.c.M), .slice z1.ar z1.c.R.length z1.cr, .slice z1.aw z1.c.Q.length z1.cw, .slice z1.af z1.c.F.length z1.cf]) ∧ Hid (Blk wx B6 36 #[.string z2.c.nm, .int .i64 z2.c.kd, .int .u16 (sv z2.c.M), .slice z2.ar z2.c.R.length z2.cr, .slice z2.aw z2.c.Q.length z2.cw, .slice z2.af z2.c.F.length z2.cf]) ∧ Hid (Blk wx B8 36 #[.string z3.c.nm, .int .i64 z3.c.kd, .int .u16 (sv z3.c.M), .slice z3.ar z3.c.R.length z3.cr, .slice z3.aw z3.c.Q.length z3.cw, .slice z3.af z3.c.F.length z3.cf]) ∧ Hid (RoG wx z1) ∧ Hid (RoG wx z2) ∧ Hid (RoG wx z3) ∧ Hid (Rd wx a7 ml.length c7 2 (fl ml)) ∧ Hid (Blk wx w.heap.size 50 #[.int .u8 a.kd, .int .u8 a.N, .int .u8 a.md, .slice a.ar a.lr.length a.cr, .slice a.aw a.lw.length a.cw, .slice a.af a.lf.length a.cf, .int .u8 b.kd, .int .u8 b.N, .int .u8 b.md, .slice b.ar b.lr.length b.cr, .slice b.aw b.lw.length b.cw, .slice b.af b.lf.length b.cf, .int .u16 (sv z), .slice am m.length cm]) ∧ Keeps W3 wx)
    case first =>
      obtain ⟨c0, c1, c2, c3, c4, c5⟩ := HN5.out.c6
      have d12 := HD.out.cell 12 (v := .int .u16 (sv z)) rfl
      go_wp2_with fail
      clear c0 c1 c2 c3 c4 c5 d12
      have hcl := sndG_any z1 z _ _ _ ml _ HR1.out.rd HM7.out HML.out HV1.out
      unfold vg at hcl
      obtain ⟨q1, hq1⟩ : ∃ q, q = sndC z ml z1 := ⟨_, rfl⟩
      rw [← hq1] at hcl
      have Hq1 := Lib.hid hq1; clear hq1
      refine hcl.mono ?_
      clear hcl
      rintro e Xq1 ⟨rfl, K⟩
      replace HN5 := Lib.hid (HN5.out.keep K); replace HN6 := Lib.hid (HN6.out.keep K); replace HN8 := Lib.hid (HN8.out.keep K); replace HR1 := Lib.hid (HR1.out.keep K); replace HR2 := Lib.hid (HR2.out.keep K); replace HR3 := Lib.hid (HR3.out.keep K); replace HM7 := Lib.hid (HM7.out.keep K); replace HD := Lib.hid (HD.out.keep K); replace JJ := JJ.trans K; clear K
      cases q1 with
      | false =>
        go_wp2_with fail
        go_meet
        case rel => exact ⟨rfl, HN5, HN6, HN8, HR1, HR2, HR3, HM7, HD, JJ⟩
      | true =>
        obtain ⟨c0, c1, c2, c3, c4, c5⟩ := HN6.out.c6
        have d12 := HD.out.cell 12 (v := .int .u16 (sv z)) rfl
        go_wp2_with fail
        clear c0 c1 c2 c3 c4 c5 d12
        have hcl := sndG_any z2 z _ _ _ ml _ HR2.out.rd HM7.out HML.out HV2.out
        unfold vg at hcl
        obtain ⟨q2, hq2⟩ : ∃ q, q = sndC z ml z2 := ⟨_, rfl⟩
        rw [← hq2] at hcl
        have Hq2 := Lib.hid hq2; clear hq2
        refine hcl.mono ?_
        clear hcl
        rintro e Xq2 ⟨rfl, K⟩
        replace HN5 := Lib.hid (HN5.out.keep K); replace HN6 := Lib.hid (HN6.out.keep K); replace HN8 := Lib.hid (HN8.out.keep K); replace HR1 := Lib.hid (HR1.out.keep K); replace HR2 := Lib.hid (HR2.out.keep K); replace HR3 := Lib.hid (HR3.out.keep K); replace HM7 := Lib.hid (HM7.out.keep K); replace HD := Lib.hid (HD.out.keep K); replace JJ := JJ.trans K; clear K
        cases q2 with
        | false =>
          go_wp2_with fail
          go_meet
          case rel => exact ⟨rfl, HN5, HN6, HN8, HR1, HR2, HR3, HM7, HD, JJ⟩
        | true =>
          obtain ⟨c0, c1, c2, c3, c4, c5⟩ := HN8.out.c6
          have d12 := HD.out.cell 12 (v := .int .u16 (sv z)) rfl
          go_wp2_with fail
          clear c0 c1 c2 c3 c4 c5 d12
          have hcl := sndG_any z3 z _ _ _ ml _ HR3.out.rd HM7.out HML.out HV3.out
          unfold vg at hcl
          obtain ⟨q3, hq3⟩ : ∃ q, q = sndC z ml z3 := ⟨_, rfl⟩
          rw [← hq3] at hcl
          have Hq3 := Lib.hid hq3; clear hq3
          refine hcl.mono ?_
          clear hcl
          rintro e Xq3 ⟨rfl, K⟩
          replace HN5 := Lib.hid (HN5.out.keep K); replace HN6 := Lib.hid (HN6.out.keep K); replace HN8 := Lib.hid (HN8.out.keep K); replace HR1 := Lib.hid (HR1.out.keep K); replace HR2 := Lib.hid (HR2.out.keep K); replace HR3 := Lib.hid (HR3.out.keep K); replace HM7 := Lib.hid (HM7.out.keep K); replace HD := Lib.hid (HD.out.keep K); replace JJ := JJ.trans K; clear K
          have ht : q3 = true := by rw [Hq3.out]; exact HTJ.out.snd Hq1.out.symm Hq2.out.symm
          subst ht
          go_wp2_with fail
          go_meet
          case rel => exact ⟨rfl, HN5, HN6, HN8, HR1, HR2, HR3, HM7, HD, JJ⟩
    obtain ⟨rfl, HN5, HN6, HN8, HR1, HR2, HR3, HM7, HD, JJ⟩ := hcut
    go_upto_region 11 with fail
    go_cut [99] from 12 (fun s99 wx => s99 = .bool false ∧ Hid (Blk wx B5 36 #[.string z1.c.nm, .int .i64 z1.c.kd, .int .u16 (sv z1.c.M), .slice z1.ar z1.c.R.length z1.cr, .slice z1.aw z1.c.Q.length z1.cw, .slice z1.af z1.c.F.length z1.cf]) ∧ Hid (Blk wx B6 36 #[.string z2.c.nm, .int .i64 z2.c.kd, .int .u16 (sv z2.c.M), .slice z2.ar z2.c.R.length z2.cr, .slice z2.aw z2.c.Q.length z2.cw, .slice z2.af z2.c.F.length z2.cf]) ∧ Hid (Blk wx B8 36 #[.string z3.c.nm, .int .i64 z3.c.kd, .int .u16 (sv z3.c.M), .slice z3.ar z3.c.R.length z3.cr, .slice z3.aw z3.c.Q.length z3.cw, .slice z3.af z3.c.F.length z3.cf]) ∧ Hid (RoG wx z1) ∧ Hid (RoG wx z2) ∧ Hid (RoG wx z3) ∧ Hid (Rd wx a7 ml.length c7 2 (fl ml)) ∧ Hid (Blk wx w.heap.size 50 #[.int .u8 a.kd, .int .u8 a.N, .int .u8 a.md, .slice a.ar a.lr.length a.cr, .slice a.aw a.lw.length a.cw, .slice a.af a.lf.length a.cf, .int .u8 b.kd, .int .u8 b.N, .int .u8 b.md, .slice b.ar b.lr.length b.cr, .slice b.aw b.lw.length b.cw, .slice b.af b.lf.length b.cf, .int .u16 (sv z), .slice am m.length cm]) ∧ Keeps W3 wx)
    case first =>
      obtain ⟨c0, c1, c2, c3, c4, c5⟩ := HN5.out.c6
      have d12 := HD.out.cell 12 (v := .int .u16 (sv z)) rfl
      go_wp2_with fail
      clear c0 c1 c2 c3 c4 c5 d12
      have hcl := accG_any z1 z s _ _ _ ml _ HR1.out.rd HM7.out HML.out HV1.out
      unfold vg at hcl
      obtain ⟨q1, hq1⟩ : ∃ q, q = acC z ml s z1 := ⟨_, rfl⟩
      rw [← hq1] at hcl
      have Hq1 := Lib.hid hq1; clear hq1
      refine hcl.mono ?_
      clear hcl
      rintro e Xq1 ⟨rfl, K⟩
      replace HN5 := Lib.hid (HN5.out.keep K); replace HN6 := Lib.hid (HN6.out.keep K); replace HN8 := Lib.hid (HN8.out.keep K); replace HR1 := Lib.hid (HR1.out.keep K); replace HR2 := Lib.hid (HR2.out.keep K); replace HR3 := Lib.hid (HR3.out.keep K); replace HM7 := Lib.hid (HM7.out.keep K); replace HD := Lib.hid (HD.out.keep K); replace JJ := JJ.trans K; clear K
      cases q1 with
      | false =>
        obtain ⟨c0, c1, c2, c3, c4, c5⟩ := HN6.out.c6
        have d12 := HD.out.cell 12 (v := .int .u16 (sv z)) rfl
        go_wp2_with fail
        clear c0 c1 c2 c3 c4 c5 d12
        have hcl := accG_any z2 z s _ _ _ ml _ HR2.out.rd HM7.out HML.out HV2.out
        unfold vg at hcl
        obtain ⟨q2, hq2⟩ : ∃ q, q = acC z ml s z2 := ⟨_, rfl⟩
        rw [← hq2] at hcl
        have Hq2 := Lib.hid hq2; clear hq2
        refine hcl.mono ?_
        clear hcl
        rintro e Xq2 ⟨rfl, K⟩
        replace HN5 := Lib.hid (HN5.out.keep K); replace HN6 := Lib.hid (HN6.out.keep K); replace HN8 := Lib.hid (HN8.out.keep K); replace HR1 := Lib.hid (HR1.out.keep K); replace HR2 := Lib.hid (HR2.out.keep K); replace HR3 := Lib.hid (HR3.out.keep K); replace HM7 := Lib.hid (HM7.out.keep K); replace HD := Lib.hid (HD.out.keep K); replace JJ := JJ.trans K; clear K
        cases q2 with
        | false =>
          go_wp2_with fail
          go_meet
          case rel => exact ⟨rfl, HN5, HN6, HN8, HR1, HR2, HR3, HM7, HD, JJ⟩
        | true =>
          obtain ⟨c0, c1, c2, c3, c4, c5⟩ := HN8.out.c6
          have d12 := HD.out.cell 12 (v := .int .u16 (sv z)) rfl
          go_wp2_with fail
          clear c0 c1 c2 c3 c4 c5 d12
          have hcl := accG_any z3 z s _ _ _ ml _ HR3.out.rd HM7.out HML.out HV3.out
          unfold vg at hcl
          obtain ⟨q3, hq3⟩ : ∃ q, q = acC z ml s z3 := ⟨_, rfl⟩
          rw [← hq3] at hcl
          have Hq3 := Lib.hid hq3; clear hq3
          refine hcl.mono ?_
          clear hcl
          rintro e Xq3 ⟨rfl, K⟩
          replace HN5 := Lib.hid (HN5.out.keep K); replace HN6 := Lib.hid (HN6.out.keep K); replace HN8 := Lib.hid (HN8.out.keep K); replace HR1 := Lib.hid (HR1.out.keep K); replace HR2 := Lib.hid (HR2.out.keep K); replace HR3 := Lib.hid (HR3.out.keep K); replace HM7 := Lib.hid (HM7.out.keep K); replace HD := Lib.hid (HD.out.keep K); replace JJ := JJ.trans K; clear K
          have ht : q3 = true := by rw [Hq3.out]; exact HTJ.out.acc (Or.inr Hq2.out.symm)
          subst ht
          go_wp2_with fail
          go_meet
          case rel => exact ⟨rfl, HN5, HN6, HN8, HR1, HR2, HR3, HM7, HD, JJ⟩
      | true =>
        obtain ⟨c0, c1, c2, c3, c4, c5⟩ := HN8.out.c6
        have d12 := HD.out.cell 12 (v := .int .u16 (sv z)) rfl
        go_wp2_with fail
        clear c0 c1 c2 c3 c4 c5 d12
        have hcl := accG_any z3 z s _ _ _ ml _ HR3.out.rd HM7.out HML.out HV3.out
        unfold vg at hcl
        obtain ⟨q3, hq3⟩ : ∃ q, q = acC z ml s z3 := ⟨_, rfl⟩
        rw [← hq3] at hcl
        have Hq3 := Lib.hid hq3; clear hq3
        refine hcl.mono ?_
        clear hcl
        rintro e Xq3 ⟨rfl, K⟩
        replace HN5 := Lib.hid (HN5.out.keep K); replace HN6 := Lib.hid (HN6.out.keep K); replace HN8 := Lib.hid (HN8.out.keep K); replace HR1 := Lib.hid (HR1.out.keep K); replace HR2 := Lib.hid (HR2.out.keep K); replace HR3 := Lib.hid (HR3.out.keep K); replace HM7 := Lib.hid (HM7.out.keep K); replace HD := Lib.hid (HD.out.keep K); replace JJ := JJ.trans K; clear K
        have ht : q3 = true := by rw [Hq3.out]; exact HTJ.out.acc (Or.inl Hq1.out.symm)
        subst ht
        go_wp2_with fail
        go_meet
        case rel => exact ⟨rfl, HN5, HN6, HN8, HR1, HR2, HR3, HM7, HD, JJ⟩
    obtain ⟨rfl, HN5, HN6, HN8, HR1, HR2, HR3, HM7, HD, JJ⟩ := hcut
    obtain ⟨c0, c1, c2, c3, c4, c5⟩ := HN8.out.c6
    go_wp2_with fail
    clear c0 c1 c2 c3 c4 c5
    have s1 := HR3.out.rd.q.small
    go_loopw [103] (fun v wr => ∃ i : Nat, i ≤ z3.c.Q.length ∧ v = .int .i64 i ∧ Keeps wc wr) (fun v _ => z3.c.Q.length - (RowKit.intOf v).toNat)
    case atStart => exact ⟨0, Nat.zero_le _, rfl, Keeps.refl _⟩
    case round =>
      obtain ⟨i, hi, rfl, K⟩ := hrel
      have KL := K
      replace HN5 := Lib.hid (HN5.out.keep K); replace HN6 := Lib.hid (HN6.out.keep K); replace HN8 := Lib.hid (HN8.out.keep K); replace HR1 := Lib.hid (HR1.out.keep K); replace HR2 := Lib.hid (HR2.out.keep K); replace HR3 := Lib.hid (HR3.out.keep K); replace HM7 := Lib.hid (HM7.out.keep K); replace HD := Lib.hid (HD.out.keep K); replace JJ := JJ.trans K; clear K
      by_cases hlt : i < z3.c.Q.length
      · have g0 := HR3.out.rd.q.at hlt
        have ha := HR3.out.rd.q.isSome (by omega)
        have hmem : at_ z3.c.Q i ∈ z3.c.Q := at_mem (by omega)
        have HMEM := Lib.hid hmem; clear hmem
        generalize at_ z3.c.Q i = t at *
        obtain ⟨c0, c1, c2, c3, c4, c5⟩ := HN8.out.c6
        have d12 := HD.out.cell 12 (v := .int .u16 (sv z)) rfl
        go_wp2_with fail
        clear c0 c1 c2 c3 c4 c5 d12
        have hcl := sndG_any z3 z _ _ _ ml _ HR3.out.rd HM7.out HML.out HV3.out
        unfold vg at hcl
        obtain ⟨q1, hq1⟩ : ∃ q, q = sndC z ml z3 := ⟨_, rfl⟩
        rw [← hq1] at hcl
        have Hq1 := Lib.hid hq1; clear hq1
        refine hcl.mono ?_
        clear hcl
        rintro e Xq1 ⟨rfl, K⟩
        replace HN5 := Lib.hid (HN5.out.keep K); replace HN6 := Lib.hid (HN6.out.keep K); replace HN8 := Lib.hid (HN8.out.keep K); replace HR1 := Lib.hid (HR1.out.keep K); replace HR2 := Lib.hid (HR2.out.keep K); replace HR3 := Lib.hid (HR3.out.keep K); replace HM7 := Lib.hid (HM7.out.keep K); replace HD := Lib.hid (HD.out.keep K); replace JJ := JJ.trans K; have K1x := K; clear K
        cases q1 with
        | false =>
          go_wp2_with fail
          go_roundw
          case rel => exact ⟨i + 1, by omega, by go_num, KL.trans K1x⟩
          case measure => simp [RowKit.intOf]; omega
        | true =>
          obtain ⟨c0, c1, c2, c3, c4, c5⟩ := HN8.out.c6
          have d12 := HD.out.cell 12 (v := .int .u16 (sv z)) rfl
          go_wp2_with fail
          clear c0 c1 c2 c3 c4 c5 d12
          have hcl := accG_any z3 z t _ _ _ ml _ HR3.out.rd HM7.out HML.out HV3.out
          unfold vg at hcl
          obtain ⟨q3, hq3⟩ : ∃ q, q = acC z ml t z3 := ⟨_, rfl⟩
          rw [← hq3] at hcl
          have Hq3 := Lib.hid hq3; clear hq3
          refine hcl.mono ?_
          clear hcl
          rintro e Xq3 ⟨rfl, K⟩
          replace HN5 := Lib.hid (HN5.out.keep K); replace HN6 := Lib.hid (HN6.out.keep K); replace HN8 := Lib.hid (HN8.out.keep K); replace HR1 := Lib.hid (HR1.out.keep K); replace HR2 := Lib.hid (HR2.out.keep K); replace HR3 := Lib.hid (HR3.out.keep K); replace HM7 := Lib.hid (HM7.out.keep K); replace HD := Lib.hid (HD.out.keep K); replace JJ := JJ.trans K; have K2x := K; clear K
          have ht : q3 = true := by rw [Hq3.out]; exact HTJ.out.wri Hq1.out.symm t HMEM.out
          subst ht
          go_wp2_with fail
          go_roundw
          case rel => exact ⟨i + 1, by omega, by go_num, KL.trans (K1x.trans K2x)⟩
          case measure => simp [RowKit.intOf]; omega
      · go_wp2_with fail
        go_ret
        exact ⟨rfl, HKW.out.trans (K1.trans (KX.trans JJ))⟩
end Go.Proofs.YtijknodekomdfaaGreatDoor
