/- Texts joined into one (wip/bin/pack.py): RDead, SafG, ChM. -/
import Derived.Test.YtnlohknlchgfgaaGreatKYd
import Derived.Test.YtnlohknlchgfgaaGreatKZj
import Derived.Test.YtnlohknlchgfgaaGreatKYc
import Derived.Test.YtnlohknlchgfgaaGreatKU
/- The reference's Dead. -/
namespace Go.Proofs.YtnlohknlchgfgaaGreat
open Go.RowKit Go.Lib Go.Shelf

set_option maxRecDepth 20000 in
set_option maxHeartbeats 4000000 in
theorem rDead_any {nm : ByteArray} [NmOk nm] (kd : Int) (M : S) {ar : Option Addr} {cr : Nat} {R : List S} {aw : Option Addr} {cw : Nat} {Q : List S} {af : Option Addr} {cf : Nat} {F : List F2} (w : World) (h : RdC w ar cr R aw cw Q af cf F) :
    Calls Tryz.prog 138 #[.agg #[.string nm, .int .i64 kd, .int .u16 (sv M), .slice ar R.length cr, .slice aw Q.length cw, .slice af F.length cf]] w fun e w' => RetFE (deadS kd M R Q F) e ∧ Keeps w w' := by
  have K0 := (Keeps.refl w).alloc (.cells #[.string nm, .int .i64 kd, .int .u16 (sv M), .slice ar R.length cr, .slice aw Q.length cw, .slice af F.length cf] 32)
  have hb := BoxC.new w 32 nm kd M ar R.length cr aw Q.length cw af F.length cf
  obtain ⟨W1, hW1⟩ : ∃ W0, W0 = w.alloc (.cells #[.string nm, .int .i64 kd, .int .u16 (sv M), .slice ar R.length cr, .slice aw Q.length cw, .slice af F.length cf] 32) := ⟨_, rfl⟩
  rw [← hW1] at hb K0
  have hsz : W1.heap.size = w.heap.size + 1 := by rw [hW1, World.size_alloc]
  have k2 := (Keeps.refl W1).alloc (.cells #[.int .u16 0, .int .u16 0] 59)
  have hx : FBox (W1.alloc (.cells #[.int .u16 0, .int .u16 0] 59)) (w.heap.size + 1) (0#16, 0#16) := by rw [← hsz]; exact World.alloc_heap_new W1 _
  obtain ⟨W2, hW2⟩ : ∃ W2, W2 = W1.alloc (.cells #[.int .u16 0, .int .u16 0] 59) := ⟨_, rfl⟩
  rw [← hW2] at hx k2
  replace hb := hb.keep k2
  replace K0 := K0.trans k2
  have h1 := fun W (k : Keeps w W) => rcValid_any (nm := nm) kd M W (h.keep k)
  have h2 := fun W (k : Keeps w W) s => rAvo_any ar R.length cr R s W ((h.keep k).r)
  have h3 := fun W (k : Keeps w W) s => rAvo_any aw Q.length cw Q s W ((h.keep k).q)
  have hf := fun W (k : Keeps w W) => (h.keep k).f
  have sf := h.f.small
  have ebad : ∀ a : F2, badF R Q a = (!(avo R (facF a)) || !(avo Q (facF a))) := fun _ => rfl
  have EB := Lib.hid ebad
  clear ebad
  rw [dead_eq]
  generalize cvS kd M R Q F = er at *
  generalize avo R = aR at *
  generalize avo Q = aQ at *
  generalize badF R Q = bd at *
  generalize R.length = nr at *
  generalize Q.length = nq at *
  have H1 := Lib.hid h1; have H2 := Lib.hid h2; have H3 := Lib.hid h3; have HF := Lib.hid hf
  have HFA := Lib.hid (fun (W : World) (k : Keeps W2 W) => And.intro (hb.keep k) (hx.keep k))
  clear h1 h2 h3 hf h
  obtain ⟨c0, c1, c2, c3, c4, c5⟩ := hb.conj
  clear hb hx
  have hcs : er = 0 ∨ er ≠ 0 ∧ (er != 0) = true ∧ (er == 0) = false := by
    by_cases hz : er = 0
    · exact .inl hz
    · exact .inr ⟨hz, by simpa using hz, by simpa using hz⟩
  rcases hcs with rfl | ⟨hne, hb1, hb2⟩
  rotate_left
  · rw [if_pos hne]
    go_enter Tryz.func138, Tryz.ntmps138
    go_wp2_with fail
    rw [← hW1, ← hW2]
    clear hW1 hW2 hsz k2 c0 c1 c2 c3 c4 c5 hne
    refine (H1.out _ K0).mono ?_
    rintro e w3 ⟨rfl, K1⟩
    obtain ⟨hb, hx⟩ := HFA.out _ K1
    obtain ⟨f0, f1⟩ := hx.frozen
    obtain ⟨g0, g1⟩ := hx.cells
    have X := Lib.hid hx
    clear hb hx
    go_wp2_with fail
    exact bodyPost_ret (resBoxF rfl (X.out.store (0#16, 0#16)) rfl rfl) rfl ⟨by unfold RetFE; rfl, (K0.trans K1).set2 (Nat.le_succ _) _ _⟩
  · rw [if_neg (by simp)]
    obtain ⟨res, hres⟩ : ∃ r, r = deadT (F.find? bd) := ⟨_, rfl⟩
    rw [← hres]
    have HRES := Lib.hid hres
    clear hres
    go_enter Tryz.func138, Tryz.ntmps138
    go_wp2_with fail
    rw [← hW1, ← hW2]
    clear hW1 hW2 hsz k2 c0 c1 c2 c3 c4 c5
    refine (H1.out _ K0).mono ?_
    rintro e w3 ⟨rfl, K1⟩
    obtain ⟨c0, c1, c2, c3, c4, c5⟩ := (HFA.out _ K1).1.conj
    go_wp2_with fail
    clear c0 c1 c2 c3 c4 c5
    have HR := Lib.hid (HF.out _ (K0.trans K1))
    go_loopw [5] (fun v wr => ∃ i : Nat, i ≤ F.length ∧ v = .int .i64 i ∧ Keeps w3 wr ∧ Hid (res = deadT ((F.drop i).find? bd))) (fun v _ => F.length - (RowKit.intOf v).toNat)
    case atStart => exact ⟨0, Nat.zero_le _, rfl, Keeps.refl _, HRES.out⟩
    case round =>
      obtain ⟨i, hi, rfl, K3, HI⟩ := hrel
      by_cases hlt : i < F.length
      · have hs := HR.out.isSome (by omega)
        have HG := Lib.hid (fun (W : World) (k : Keeps wr W) => And.intro ((HR.out.keep (K3.trans k)).f0 hlt) ((HR.out.keep (K3.trans k)).f1' hlt))
        have hst := HI.out
        rw [findF_step bd F i hlt] at hst
        generalize fa F i = a at *
        obtain ⟨g0, g1⟩ := HG.out _ (Keeps.refl _)
        obtain ⟨c0, c1, c2, c3, c4, c5⟩ := (HFA.out _ (K1.trans K3)).1.conj
        have ho := EB.out a
        have q2 := fun W k => H2.out W k (facF a)
        have q3 := fun W k => H3.out W k (facF a)
        have hfc := faulty19_any a wr
        generalize facF a = fa_ at *
        generalize aR fa_ = b1 at *
        generalize aQ fa_ = b2 at *
        have HQ2 := Lib.hid q2; have HQ3 := Lib.hid q3; have HFC := Lib.hid hfc
        have hlt' : (i : Int) < (F.length : Int) := by omega
        clear q2 q3 HI hfc
        have HHS := Lib.hid hst; have HO := Lib.hid ho
        clear hst ho
        go_wp2_with fail
        clear g0 g1 c0 c1 c2 c3 c4 c5
        refine HFC.out.mono ?_
        rintro e w5 ⟨rfl, K5⟩
        have K6 := K3.trans K5
        obtain ⟨c0, c1, c2, c3, c4, c5⟩ := (HFA.out _ (K1.trans K6)).1.conj
        go_wp2_with fail
        refine (HQ2.out _ ((K0.trans K1).trans K6)).mono ?_
        rintro e w6 ⟨rfl, rfl⟩
        have ho := HO.out
        have hst := HHS.out
        cases b1
        · have ho2 : bd a = true := by rw [ho]; rfl
          rw [ho2] at hst
          have HS := Lib.hid hst
          have hx := (HFA.out _ (K1.trans K6)).2
          obtain ⟨f0, f1⟩ := hx.frozen
          obtain ⟨p0, p1⟩ := hx.cells
          obtain ⟨d0, d1⟩ := HG.out _ K5
          have X := Lib.hid hx
          clear hx hst ho ho2 HHS HO
          go_wp2_with fail
          exact bodyPost_ret (resBoxF rfl (X.out.store a) rfl rfl) rfl ⟨by rw [HS.out]; unfold RetFE; rfl, ((K0.trans K1).trans K6).set2 (Nat.le_succ _) _ _⟩
        · clear ho hst
          go_wp2_with fail
          refine (HQ3.out _ ((K0.trans K1).trans K6)).mono ?_
          rintro e w7 ⟨rfl, rfl⟩
          have ho := HO.out
          have hst := HHS.out
          cases b2
          · have ho2 : bd a = true := by rw [ho]; rfl
            rw [ho2] at hst
            have HS := Lib.hid hst
            have hx := (HFA.out _ (K1.trans K6)).2
            obtain ⟨f0, f1⟩ := hx.frozen
            obtain ⟨p0, p1⟩ := hx.cells
            obtain ⟨d0, d1⟩ := HG.out _ K5
            have X := Lib.hid hx
            clear hx hst ho ho2 HHS HO
            go_wp2_with fail
            exact bodyPost_ret (resBoxF rfl (X.out.store a) rfl rfl) rfl ⟨by rw [HS.out]; unfold RetFE; rfl, ((K0.trans K1).trans K6).set2 (Nat.le_succ _) _ _⟩
          · have ho2 : bd a = false := by rw [ho]; rfl
            rw [ho2] at hst
            have HS := Lib.hid hst
            clear hst ho ho2 HHS HO c0 c1 c2 c3 c4 c5
            go_wp2_with fail
            go_roundw
            case rel => exact ⟨i + 1, by omega, by go_num, K6, HS⟩
            case measure => simp [RowKit.intOf]; omega
      · obtain ⟨c0, c1, c2, c3, c4, c5⟩ := (HFA.out _ (K1.trans K3)).1.conj
        have hst := HI.out
        rw [List.drop_eq_nil_of_le (by omega), List.find?_nil] at hst
        have HS := Lib.hid hst
        have hx := (HFA.out _ (K1.trans K3)).2
        obtain ⟨f0, f1⟩ := hx.frozen
        obtain ⟨p0, p1⟩ := hx.cells
        have X := Lib.hid hx
        clear hst HI hx
        go_wp2_with fail
        exact bodyPost_ret (resBoxF rfl (X.out.store (0#16, 0#16)) rfl rfl) rfl ⟨by rw [HS.out]; unfold RetFE; rfl, ((K0.trans K1).trans K3).set2 (Nat.le_succ _) _ _⟩
end Go.Proofs.YtnlohknlchgfgaaGreat
/- Safe at configurations that are valid; joint.Safe; the reference's; how few rows these have. -/
namespace Go.Proofs.YtnlohknlchgfgaaGreat
open Go.RowKit Go.Lib Go.Shelf
def safC (wt : S) (x : CA) : Bool := safe27 x.c.kd wt x.c.M x.c.R x.c.Q x.c.F
def Few9 (c : Cf) : Prop := (rowsR (byz27 c.kd c.M c.F) c.R c.Q).length ≤ 9000000
/-! ### sizes -/
theorem ch10 : ∀ n : Fin 6, ∀ k : Fin 6, (chTo (fullS n.val) k.val 32).length ≤ 10 := by decide +kernel
theorem sets_ten (md : Int) (l : List S) {n : Nat} (h1 : 1 ≤ n) (hn : n ≤ 5) : (setsR md l n).length ≤ 10 := by
  unfold setsR
  split
  · have hk := (kOf_in l h1).2
    have h := ch10 ⟨n, by omega⟩ ⟨kOf l n, by omega⟩
    rw [← chooseA_eq _ _ (32 + 65504) rfl, chTo32 (full32 ⟨n, by omega⟩) _ 65504 (by omega)]
    exact h
  · refine Nat.le_trans (refLeast_len _) ?_
    have h1 := cutN_le (fullS n) (l.take 6)
    have h2 := List.length_take_le 6 l
    unfold orAll
    split
    · simp
    · omega
theorem few_of {c : Cf} {k : Nat} (hk : k ≤ 100) (hR : c.R.length ≤ k) (hQ : c.Q.length ≤ k) (hv : cvf c = 0) : Few9 c := by
  have hb := byz27_le c.kd c.M c.F
  have hf : c.F.length ≤ 100 := fv_len (cv_parts (cvf_cv hv).2).2.2.2.2
  have h := rowsR_len (byz27 c.kd c.M c.F) c.R c.Q
  have e1 : c.Q.length * (byz27 c.kd c.M c.F).length ≤ 100 * 101 := Nat.mul_le_mul (by omega) (by omega)
  have e2 : c.R.length * (c.Q.length * (byz27 c.kd c.M c.F).length) ≤ 100 * (100 * 101) := Nat.mul_le_mul (by omega) e1
  have e3 : c.Q.length * (c.Q.length * (byz27 c.kd c.M c.F).length) ≤ 100 * (100 * 101) := Nat.mul_le_mul (by omega) e1
  unfold Few9
  omega
theorem md_ten (nm : ByteArray) (d : D29) : (mdC nm d).R.length ≤ 10 ∧ (mdC nm d).Q.length ≤ 10 := by
  have hn1 : 1 ≤ nOf d.N := by unfold nOf; omega
  have hn := nOf_le d.N
  unfold mdC made29 mvL
  dsimp only
  rw [List.length_map, List.length_map]
  exact ⟨sets_ten _ _ hn1 hn, sets_ten _ _ hn1 hn⟩
theorem md_few {nm : ByteArray} (hnm : nmB nm = true) (d : D29) : Few9 (mdC nm d) :=
  few_of (k := 10) (by decide) (md_ten nm d).1 (md_ten nm d).2 (mdC_valid hnm d)
theorem leastP_len (l : List S) : (leastP l).length ≤ l.length := by
  rw [least_same]; exact refLeast_len l
theorem unS8_len (f g : List S) : (unS8 f g).length = f.length * g.length := flatMap_count f _ _ (fun _ => List.length_map ..)
theorem and_len {f g : List S} (h : (andS f g).2 = 0) : (andS f g).1.length ≤ f.length * g.length := by
  rw [(and_ok h).2.2.1, ← unS8_len]
  exact leastP_len _
theorem of_few {a b : Cf} (h : ofE a b = 0) (ha : a.R.length ≤ 10 ∧ a.Q.length ≤ 10) (hb : b.R.length ≤ 10 ∧ b.Q.length ≤ 10) : Few9 (ofC a b) := by
  have ho := of_ok h
  have h1 := and_len ho.r
  have h2 := and_len ho.q
  have e1 : a.R.length * b.R.length ≤ 10 * 10 := Nat.mul_le_mul ha.1 hb.1
  have e2 : a.Q.length * b.Q.length ≤ 10 * 10 := Nat.mul_le_mul ha.2 hb.2
  have hc := ho.c
  refine few_of (k := 100) (by decide) ?_ ?_ ho.cvf <;> rw [hc] <;> dsimp only <;> omega
/-! ### calls -/
def FewL (l : List CA) : Prop := ∀ x ∈ l, Few9 x.c
end Go.Proofs.YtnlohknlchgfgaaGreat
/- Chains of configurations: plain laws. -/
namespace Go.Proofs.YtnlohknlchgfgaaGreat
open Go.RowKit Go.Lib Go.Shelf
def vldC : List Cf → Int
  | [] => 0
  | x :: xs => if cvf x ≠ 0 then cvf x else vldC xs
theorem vldL_eq : ∀ l : List CA, vldL l = vldC (l.map (·.c))
  | [] => rfl
  | x :: xs => by rw [vldL, List.map_cons, vldC, vldL_eq xs]
theorem vldC_all : ∀ {l : List Cf}, vldC l = 0 → ∀ x ∈ l, cvf x = 0
  | [], _, x, hx => by simp at hx
  | y :: ys, h, x, hx => by
    rw [vldC] at h
    by_cases hy : cvf y = 0
    · rw [if_neg (by simp [hy])] at h
      rcases List.mem_cons.1 hx with rfl | hx
      · exact hy
      · exact vldC_all h x hx
    · rw [if_pos hy] at h; exact absurd h hy
theorem vldC_of : ∀ {l : List Cf}, (∀ x ∈ l, cvf x = 0) → vldC l = 0
  | [], _ => rfl
  | y :: ys, h => by
    rw [vldC, if_neg (by simp [h y (by simp)])]
    exact vldC_of fun x hx => h x (by simp [hx])
def chE : Cf → List Cf → Int
  | _, [] => 0
  | a, b :: t => if ofE a b ≠ 0 then ofE a b else chE b t
def chT : Cf → List Cf → List Cf
  | _, [] => []
  | a, b :: t => ofC a b :: b :: chT b t
def chainE : List Cf → Int
  | [] => 9
  | a :: t => if vldC (a :: t) ≠ 0 then vldC (a :: t) else chE a t
def chainL : List Cf → List Cf
  | [] => []
  | a :: t => if chainE (a :: t) ≠ 0 then [] else a :: chT a t
def cat (l : List Cf) (i : Nat) : Cf := l.getD i cf00
theorem cat_map (l : List CA) (i : Nat) : cat (l.map (·.c)) i = (gA l i).c := by
  unfold cat gA
  rw [List.getD_eq_getElem?_getD, List.getD_eq_getElem?_getD, List.getElem?_map]
  cases l[i]? <;> rfl
theorem chE_step {l : List Cf} {k : Nat} (h : k + 1 < l.length) : chE (cat l k) (l.drop (k + 1)) = if ofE (cat l k) (cat l (k + 1)) ≠ 0 then ofE (cat l k) (cat l (k + 1)) else chE (cat l (k + 1)) (l.drop (k + 1 + 1)) := by
  rw [show l.drop (k + 1) = cat l (k + 1) :: l.drop (k + 1 + 1) from getD_dropE l (k + 1) cf00 h, chE]
theorem chT_step {l : List Cf} {k : Nat} (h : k + 1 < l.length) : chT (cat l k) (l.drop (k + 1)) = ofC (cat l k) (cat l (k + 1)) :: cat l (k + 1) :: chT (cat l (k + 1)) (l.drop (k + 1 + 1)) := by
  rw [show l.drop (k + 1) = cat l (k + 1) :: l.drop (k + 1 + 1) from getD_dropE l (k + 1) cf00 h, chT]
theorem ch_end {l : List Cf} {k : Nat} (x : Cf) (h : ¬ k + 1 < l.length) : chE x (l.drop (k + 1)) = 0 ∧ chT x (l.drop (k + 1)) = [] := by
  rw [List.drop_eq_nil_iff.2 (by omega)]; exact ⟨rfl, rfl⟩
theorem chain_eq {l : List Cf} (h0 : 0 < l.length) (hv : vldC l = 0) : chainE l = chE (cat l 0) (l.drop 1) ∧ chainL l = if chE (cat l 0) (l.drop 1) ≠ 0 then [] else cat l 0 :: chT (cat l 0) (l.drop 1) := by
  cases l with
  | nil => exact absurd h0 (by simp)
  | cons a t =>
    have e : chainE (a :: t) = chE a t := by rw [chainE, if_neg (by simp [hv])]
    exact ⟨e, by rw [chainL, e]; rfl⟩
theorem chain_bad {l : List Cf} (h0 : 0 < l.length) (hv : vldC l ≠ 0) : chainE l = vldC l ∧ chainL l = [] := by
  cases l with
  | nil => exact absurd h0 (by simp)
  | cons a t =>
    have e : chainE (a :: t) = vldC (a :: t) := by rw [chainE, if_pos hv]
    exact ⟨e, by rw [chainL, e, if_pos hv]⟩
/-! ### safe chains -/
def sfC (wt : S) (c : Cf) : Bool := safe27 c.kd wt c.M c.R c.Q c.F
theorem sf_of {wt : S} {a b : Cf} (h : ofE a b = 0) (ha : sfC wt a = true) (hb : sfC wt b = true) : sfC wt (ofC a b) = true := by
  have ho := of_ok h
  unfold sfC at *
  rw [ho.c]
  exact joint_safe ho ha hb
theorem chT_all {wt : S} : ∀ (t : List Cf) (a : Cf), chE a t = 0 → sfC wt a = true → (chT a t).all (sfC wt) = t.all (sfC wt)
  | [], _, _, _ => rfl
  | b :: t, a, h, ha => by
    rw [chE] at h
    by_cases h0 : ofE a b = 0
    · rw [if_neg (by simp [h0])] at h
      rw [chT, List.all_cons, List.all_cons, List.all_cons]
      cases hb : sfC wt b with
      | true => rw [sf_of h0 ha hb, chT_all t b h hb]; simp
      | false => simp
    · rw [if_pos h0] at h; exact absurd h h0
theorem chain_all {wt : S} {l : List Cf} (h : chainE l = 0) : (chainL l).all (sfC wt) = l.all (sfC wt) := by
  cases l with
  | nil => exact absurd h (by decide)
  | cons a t =>
    rw [chainL, if_neg (by simp [h])]
    have hv : vldC (a :: t) = 0 := by
      rw [chainE] at h
      by_cases hv : vldC (a :: t) = 0
      · exact hv
      · rw [if_pos hv] at h; exact absurd h hv
    rw [chainE, if_neg (by simp [hv])] at h
    rw [List.all_cons, List.all_cons]
    cases ha : sfC wt a with
    | true => rw [chT_all t a h ha]
    | false => simp
theorem ofC_valid {a b : Cf} (h : ofE a b = 0) : cvf (ofC a b) = 0 := (of_ok h).cvf
theorem chT_valid : ∀ (t : List Cf) (a : Cf), chE a t = 0 → (∀ x ∈ t, cvf x = 0) → ∀ x ∈ chT a t, cvf x = 0
  | [], _, _, _, x, hx => by simp [chT] at hx
  | b :: t, a, h, hv, x, hx => by
    rw [chE] at h
    by_cases h0 : ofE a b = 0
    · rw [if_neg (by simp [h0])] at h
      rw [chT, List.mem_cons, List.mem_cons] at hx
      rcases hx with rfl | rfl | hx
      · exact ofC_valid h0
      · exact hv _ (by simp)
      · exact chT_valid t b h (fun y hy => hv y (by simp [hy])) x hx
    · rw [if_pos h0] at h; exact absurd h h0
theorem chain_valid {l : List Cf} : ∀ x ∈ chainL l, cvf x = 0 := fun x hx => by
  cases l with
  | nil => simp [chainL] at hx
  | cons a t =>
    rw [chainL] at hx
    by_cases h : chainE (a :: t) = 0
    · rw [if_neg (by simp [h])] at hx
      have hv : vldC (a :: t) = 0 := by
        rw [chainE] at h
        by_cases hv : vldC (a :: t) = 0
        · exact hv
        · rw [if_pos hv] at h; exact absurd h hv
      rw [chainE, if_neg (by simp [hv])] at h
      rcases List.mem_cons.1 hx with rfl | hx
      · exact vldC_all hv _ (by simp)
      · exact chT_valid t a h (fun y hy => vldC_all hv y (by simp [hy])) x hx
    · rw [if_pos h] at hx; simp at hx
/-- the first configuration that is not safe -/
def unsF (wt : S) : List Cf → Nat → Int × CL × Int
  | [], _ => (0, cl0, 13)
  | c :: t, k => if sfC wt c = true then unsF wt t (k + 1) else ((k : Int), (clash27 c.kd wt c.M c.R c.Q c.F).1, 0)
theorem unsF_err (wt : S) : ∀ (l : List Cf) (k : Nat), ((unsF wt l k).2.2 == 13) = l.all (sfC wt)
  | [], _ => rfl
  | c :: t, k => by
    unfold unsF
    cases hc : sfC wt c with
    | true => rw [if_pos rfl, unsF_err wt t, List.all_cons, hc, Bool.true_and]
    | false => rw [if_neg (by simp), List.all_cons, hc]; rfl
theorem clash_err {c : Cf} {wt : S} (hv : cvf c = 0) (h : sfC wt c = false) : (clash27 c.kd wt c.M c.R c.Q c.F).2 = 0 := by
  unfold sfC safe27 at h
  have hc := (cvf_cv hv).2
  unfold clash27 at *
  rw [if_neg (by simp [hc])] at *
  cases hf : firstR wt (byz27 c.kd c.M c.F) c.R c.Q with
  | none => rw [hf] at h; simp at h
  | some x => rfl
end Go.Proofs.YtnlohknlchgfgaaGreat
