/- Texts joined into one (wip/bin/pack.py): SafG, ChM. -/
import Derived.Test.YtnlohknlchgfgaaGreatDoorKZj
import Derived.Test.YtnlohknlchgfgaaGreatDoorKYc
import Derived.Test.YtnlohknlchgfgaaGreatDoorKU
/- Safe at configurations that are valid; joint.Safe; the reference's; how few rows these have. -/
namespace Go.Proofs.YtnlohknlchgfgaaGreatDoor
open Go.RowKit Go.Lib Go.Shelf
def safC (wt : S) (x : CA) : Bool := safe27 x.c.kd wt x.c.M x.c.R x.c.Q x.c.F
def Few9 (c : Cf) : Prop := (rowsR (byz27 c.kd c.M c.F) c.R c.Q).length ≤ 9000000
/-! ### sizes -/
theorem ch10 : ∀ n : Fin 6, ∀ k : Fin 6, (chTo (fullS n.val) k.val 32).length ≤ 10 := by decide +kernel
theorem sets_ten (md : Int) (l : List S) {n : Nat} (h1 : 1 ≤ n) (hn : n ≤ 5) : (setsR md l n).length ≤ 10 := by
  unfold setsR
  split
  · have hk := (kOf_in l h1).2
    have h := ch10 ⟨n, by omega⟩ ⟨kOf l n, by omega⟩
    rw [← chooseA_eq _ _ (32 + 65504) rfl, chTo32 (full32 ⟨n, by omega⟩) _ 65504 (by omega)]
    exact h
  · refine Nat.le_trans (refLeast_len _) ?_
    have h1 := cutN_le (fullS n) (l.take 6)
    have h2 := List.length_take_le 6 l
    unfold orAll
    split
    · simp
    · omega
theorem few_of {c : Cf} {k : Nat} (hk : k ≤ 100) (hR : c.R.length ≤ k) (hQ : c.Q.length ≤ k) (hv : cvf c = 0) : Few9 c := by
  have hb := byz27_le c.kd c.M c.F
  have hf : c.F.length ≤ 100 := fv_len (cv_parts (cvf_cv hv).2).2.2.2.2
  have h := rowsR_len (byz27 c.kd c.M c.F) c.R c.Q
  have e1 : c.Q.length * (byz27 c.kd c.M c.F).length ≤ 100 * 101 := Nat.mul_le_mul (by omega) (by omega)
  have e2 : c.R.length * (c.Q.length * (byz27 c.kd c.M c.F).length) ≤ 100 * (100 * 101) := Nat.mul_le_mul (by omega) e1
  have e3 : c.Q.length * (c.Q.length * (byz27 c.kd c.M c.F).length) ≤ 100 * (100 * 101) := Nat.mul_le_mul (by omega) e1
  unfold Few9
  omega
theorem md_ten (nm : ByteArray) (d : D29) : (mdC nm d).R.length ≤ 10 ∧ (mdC nm d).Q.length ≤ 10 := by
  have hn1 : 1 ≤ nOf d.N := by unfold nOf; omega
  have hn := nOf_le d.N
  unfold mdC made29 mvL
  dsimp only
  rw [List.length_map, List.length_map]
  exact ⟨sets_ten _ _ hn1 hn, sets_ten _ _ hn1 hn⟩
theorem md_few {nm : ByteArray} (hnm : nmB nm = true) (d : D29) : Few9 (mdC nm d) :=
  few_of (k := 10) (by decide) (md_ten nm d).1 (md_ten nm d).2 (mdC_valid hnm d)
theorem leastP_len (l : List S) : (leastP l).length ≤ l.length := by
  rw [least_same]; exact refLeast_len l
theorem unS8_len (f g : List S) : (unS8 f g).length = f.length * g.length := flatMap_count f _ _ (fun _ => List.length_map ..)
theorem and_len {f g : List S} (h : (andS f g).2 = 0) : (andS f g).1.length ≤ f.length * g.length := by
  rw [(and_ok h).2.2.1, ← unS8_len]
  exact leastP_len _
theorem of_few {a b : Cf} (h : ofE a b = 0) (ha : a.R.length ≤ 10 ∧ a.Q.length ≤ 10) (hb : b.R.length ≤ 10 ∧ b.Q.length ≤ 10) : Few9 (ofC a b) := by
  have ho := of_ok h
  have h1 := and_len ho.r
  have h2 := and_len ho.q
  have e1 : a.R.length * b.R.length ≤ 10 * 10 := Nat.mul_le_mul ha.1 hb.1
  have e2 : a.Q.length * b.Q.length ≤ 10 * 10 := Nat.mul_le_mul ha.2 hb.2
  have hc := ho.c
  refine few_of (k := 100) (by decide) ?_ ?_ ho.cvf <;> rw [hc] <;> dsimp only <;> omega
/-! ### calls -/
theorem csafG_any (x : CA) (wt : S) (w : World) (hT : Tab w) (h : RoG w x) (hv : cvf x.c = 0) : Calls Tryz.prog 10 #[vg x, .int .u16 (sv wt)] w fun e w' => e = .returned (.bool (safC wt x)) ∧ Keeps w w' := by
  haveI : NmOk x.c.nm := ⟨(cvf_cv hv).1⟩
  exact cSafe_any x.c.kd wt x.c.M w hT h (cvf_len hv)
theorem rsafG_any (x : CA) (wt : S) (w : World) (h : RdG w x) (hv : cvf x.c = 0) (hb : Few9 x.c) : Calls Tryz.prog 8 #[vg x, .int .u16 (sv wt)] w fun e w' => e = .returned (.bool (safC wt x)) ∧ Keeps w w' := by
  haveI : NmOk x.c.nm := ⟨(cvf_cv hv).1⟩
  exact rSafe27_any x.c.kd wt x.c.M w h (cvf_len hv) hb
theorem safPredJ (wt : S) (B : Nat) (l : List CA) (w : World) (hT : Tab w) (h0 : w.cell? ⟨B, 0, none⟩ = some (.int .u16 (sv wt))) (hl : RoL w l) (hv : ValL l) :
    PredK Tryz.prog 39 #[.pointer (some ⟨B, 0, none⟩)] vg (fun x => !safC wt x) l w := fun W x hx hk => by
  have K0 := (Keeps.refl W).alloc (.cells #[.string x.c.nm, .int .i64 x.c.kd, .int .u16 (sv x.c.M), .slice x.ar x.c.R.length x.cr, .slice x.aw x.c.Q.length x.cw, .slice x.af x.c.F.length x.cf] 32)
  have hc := fun (W' : World) (k : Keeps W W') => csafG_any x wt W' ((hT.keep hk).keep k) (((hl x hx).keep hk).keep k) (hv x hx)
  have HC := Lib.hid hc
  have e2 := K0.cell (hk.cell h0)
  clear hc h0 hk hx hl hv hT
  show Calls Tryz.prog 39 #[vg x, .pointer (some ⟨B, 0, none⟩)] W fun e w' => e = .returned (.bool (!safC wt x)) ∧ Keeps W w'
  unfold vg at *
  generalize safC wt x = q at *
  go_enter Tryz.func39, Tryz.ntmps39
  go_wp2_with fail
  refine (HC.out _ K0).mono ?_; rintro e w' ⟨rfl, K2⟩
  go_wp2_with fail
  go_ret
  exact ⟨rfl, K0.trans K2⟩
theorem jsaf_any (a : Option Addr) (n c : Nat) (l : List CA) (z : S) (w : World) (hT : Tab w) (h : Rd w a n c 6 (gl l)) (hl : RoL w l) (hv : ValL l) :
    Calls Tryz.prog 18 #[.slice a n c, .int .u16 (sv z)] w fun e w' => e = .returned (.bool (l.all (safC z))) ∧ Keeps w w' := by
  have k2 := (Keeps.refl w).alloc (.cells #[.int .u16 (sv z)] 29)
  have hx : (w.alloc (.cells #[.int .u16 (sv z)] 29)).cell? ⟨w.heap.size, 0, none⟩ = some (.int .u16 (sv z)) := by rw [World.cell?_alloc_at _ _ _ _ rfl]; rfl
  have hc := containsFuncG_any a n c l (w.alloc (.cells #[.int .u16 (sv z)] 29)) 39 #[.pointer (some ⟨w.heap.size, 0, none⟩)] (fun x => !safC z x) (h.keep k2) (enters_of Tryz.func39 (by kernel_rfl) rfl) (safPredJ z w.heap.size l _ (hT.keep k2) hx (hl.keep k2) hv)
  have hq : l.all (safC z) = !(l.any fun x => !safC z x) := by
    rw [List.not_any_eq_all_not]; simp
  rw [hq]
  clear hq
  have HC := Lib.hid hc
  clear hc hx h hT
  generalize (l.any fun x => !safC z x) = q at *
  go_enter Tryz.func18, Tryz.ntmps18
  go_wp2_with (go_at_call 38; refine HC.out.mono ?_; rintro e w' ⟨rfl, K2⟩)
  go_ret
  exact ⟨rfl, k2.trans K2⟩
def FewL (l : List CA) : Prop := ∀ x ∈ l, Few9 x.c
theorem rjsaf_any (a : Option Addr) (n c : Nat) (l : List CA) (z : S) (w : World) (h : Rd w a n c 6 (gl l)) (hl : RdL w l) (hv : ValL l) (hb : FewL l) :
    Calls Tryz.prog 19 #[.slice a n c, .int .u16 (sv z)] w fun e w' => e = .returned (.bool (l.all (safC z))) ∧ Keeps w w' := by
  have s1 := h.small
  have l1 := gl_rdlen h
  have L1 := Lib.hid l1; clear l1
  go_enter Tryz.func19, Tryz.ntmps19
  go_wp2
  go_loopw [5] (fun v wr => ∃ k : Nat, k ≤ n ∧ v = .int .i64 k ∧ Keeps w wr ∧ Hid (l.all (safC z) = (l.drop k).all (safC z))) (fun v _ => n - (RowKit.intOf v).toNat)
  case atStart => exact ⟨0, Nat.zero_le _, rfl, Keeps.refl _, rfl⟩
  case round =>
    obtain ⟨k, hk, rfl, K1, HI⟩ := hrel
    by_cases hlt : k < n
    · obtain ⟨g0, g1, g2, g3, g4, g5⟩ := gl_at (h.keep K1) hlt
      have ha := h.isSome (by omega)
      have hmem := gA_mem (l := l) (i := k) (by have := L1.out; omega)
      have hcall := rsafG_any (gA l k) z wr ((hl _ hmem).keep K1) (hv _ hmem) (hb _ hmem)
      unfold vg at hcall
      have HC := Lib.hid hcall; clear hcall hmem
      have hdr := dropEG L1 hlt
      have HDR := Lib.hid hdr; clear hdr
      generalize gA l k = x at *
      cases hq : safC z x with
      | true =>
        rw [hq] at HC
        have HQ := Lib.hid hq; clear hq
        go_wp2_with (go_at_call 8; refine (HC.out).mono ?_; rintro e w' ⟨rfl, K2⟩)
        go_roundw
        case rel => exact ⟨k + 1, by omega, by go_num, K1.trans K2, hrfl <| by rw [HI.out, HDR.out, List.all_cons, HQ.out, Bool.true_and]⟩
        case measure => simp [RowKit.intOf]; omega
      | false =>
        rw [hq] at HC
        have HQ := Lib.hid hq; clear hq
        go_wp2_with (go_at_call 8; refine (HC.out).mono ?_; rintro e w' ⟨rfl, K2⟩)
        go_ret
        exact ⟨by rw [HI.out, HDR.out, List.all_cons, HQ.out, Bool.false_and]; rfl, K1.trans K2⟩
    · go_wp2
      go_ret
      exact ⟨by rw [HI.out, dropEGN L1 hlt]; rfl, K1⟩
end Go.Proofs.YtnlohknlchgfgaaGreatDoor
/- Chains of configurations: plain laws. -/
namespace Go.Proofs.YtnlohknlchgfgaaGreatDoor
open Go.RowKit Go.Lib Go.Shelf
def vldC : List Cf → Int
  | [] => 0
  | x :: xs => if cvf x ≠ 0 then cvf x else vldC xs
theorem vldL_eq : ∀ l : List CA, vldL l = vldC (l.map (·.c))
  | [] => rfl
  | x :: xs => by rw [vldL, List.map_cons, vldC, vldL_eq xs]
theorem vldC_all : ∀ {l : List Cf}, vldC l = 0 → ∀ x ∈ l, cvf x = 0
  | [], _, x, hx => by simp at hx
  | y :: ys, h, x, hx => by
    rw [vldC] at h
    by_cases hy : cvf y = 0
    · rw [if_neg (by simp [hy])] at h
      rcases List.mem_cons.1 hx with rfl | hx
      · exact hy
      · exact vldC_all h x hx
    · rw [if_pos hy] at h; exact absurd h hy
theorem vldC_of : ∀ {l : List Cf}, (∀ x ∈ l, cvf x = 0) → vldC l = 0
  | [], _ => rfl
  | y :: ys, h => by
    rw [vldC, if_neg (by simp [h y (by simp)])]
    exact vldC_of fun x hx => h x (by simp [hx])
def chE : Cf → List Cf → Int
  | _, [] => 0
  | a, b :: t => if ofE a b ≠ 0 then ofE a b else chE b t
def chT : Cf → List Cf → List Cf
  | _, [] => []
  | a, b :: t => ofC a b :: b :: chT b t
def chainE : List Cf → Int
  | [] => 9
  | a :: t => if vldC (a :: t) ≠ 0 then vldC (a :: t) else chE a t
def chainL : List Cf → List Cf
  | [] => []
  | a :: t => if chainE (a :: t) ≠ 0 then [] else a :: chT a t
def cat (l : List Cf) (i : Nat) : Cf := l.getD i cf00
theorem cat_map (l : List CA) (i : Nat) : cat (l.map (·.c)) i = (gA l i).c := by
  unfold cat gA
  rw [List.getD_eq_getElem?_getD, List.getD_eq_getElem?_getD, List.getElem?_map]
  cases l[i]? <;> rfl
theorem chE_step {l : List Cf} {k : Nat} (h : k + 1 < l.length) : chE (cat l k) (l.drop (k + 1)) = if ofE (cat l k) (cat l (k + 1)) ≠ 0 then ofE (cat l k) (cat l (k + 1)) else chE (cat l (k + 1)) (l.drop (k + 1 + 1)) := by
  rw [show l.drop (k + 1) = cat l (k + 1) :: l.drop (k + 1 + 1) from getD_dropE l (k + 1) cf00 h, chE]
theorem chT_step {l : List Cf} {k : Nat} (h : k + 1 < l.length) : chT (cat l k) (l.drop (k + 1)) = ofC (cat l k) (cat l (k + 1)) :: cat l (k + 1) :: chT (cat l (k + 1)) (l.drop (k + 1 + 1)) := by
  rw [show l.drop (k + 1) = cat l (k + 1) :: l.drop (k + 1 + 1) from getD_dropE l (k + 1) cf00 h, chT]
theorem ch_end {l : List Cf} {k : Nat} (x : Cf) (h : ¬ k + 1 < l.length) : chE x (l.drop (k + 1)) = 0 ∧ chT x (l.drop (k + 1)) = [] := by
  rw [List.drop_eq_nil_iff.2 (by omega)]; exact ⟨rfl, rfl⟩
theorem chain_eq {l : List Cf} (h0 : 0 < l.length) (hv : vldC l = 0) : chainE l = chE (cat l 0) (l.drop 1) ∧ chainL l = if chE (cat l 0) (l.drop 1) ≠ 0 then [] else cat l 0 :: chT (cat l 0) (l.drop 1) := by
  cases l with
  | nil => exact absurd h0 (by simp)
  | cons a t =>
    have e : chainE (a :: t) = chE a t := by rw [chainE, if_neg (by simp [hv])]
    exact ⟨e, by rw [chainL, e]; rfl⟩
theorem chain_bad {l : List Cf} (h0 : 0 < l.length) (hv : vldC l ≠ 0) : chainE l = vldC l ∧ chainL l = [] := by
  cases l with
  | nil => exact absurd h0 (by simp)
  | cons a t =>
    have e : chainE (a :: t) = vldC (a :: t) := by rw [chainE, if_pos hv]
    exact ⟨e, by rw [chainL, e, if_pos hv]⟩
/-! ### safe chains -/
def sfC (wt : S) (c : Cf) : Bool := safe27 c.kd wt c.M c.R c.Q c.F
theorem sf_of {wt : S} {a b : Cf} (h : ofE a b = 0) (ha : sfC wt a = true) (hb : sfC wt b = true) : sfC wt (ofC a b) = true := by
  have ho := of_ok h
  unfold sfC at *
  rw [ho.c]
  exact joint_safe ho ha hb
theorem chT_all {wt : S} : ∀ (t : List Cf) (a : Cf), chE a t = 0 → sfC wt a = true → (chT a t).all (sfC wt) = t.all (sfC wt)
  | [], _, _, _ => rfl
  | b :: t, a, h, ha => by
    rw [chE] at h
    by_cases h0 : ofE a b = 0
    · rw [if_neg (by simp [h0])] at h
      rw [chT, List.all_cons, List.all_cons, List.all_cons]
      cases hb : sfC wt b with
      | true => rw [sf_of h0 ha hb, chT_all t b h hb]; simp
      | false => simp
    · rw [if_pos h0] at h; exact absurd h h0
theorem chain_all {wt : S} {l : List Cf} (h : chainE l = 0) : (chainL l).all (sfC wt) = l.all (sfC wt) := by
  cases l with
  | nil => exact absurd h (by decide)
  | cons a t =>
    rw [chainL, if_neg (by simp [h])]
    have hv : vldC (a :: t) = 0 := by
      rw [chainE] at h
      by_cases hv : vldC (a :: t) = 0
      · exact hv
      · rw [if_pos hv] at h; exact absurd h hv
    rw [chainE, if_neg (by simp [hv])] at h
    rw [List.all_cons, List.all_cons]
    cases ha : sfC wt a with
    | true => rw [chT_all t a h ha]
    | false => simp
theorem ofC_valid {a b : Cf} (h : ofE a b = 0) : cvf (ofC a b) = 0 := (of_ok h).cvf
theorem chT_valid : ∀ (t : List Cf) (a : Cf), chE a t = 0 → (∀ x ∈ t, cvf x = 0) → ∀ x ∈ chT a t, cvf x = 0
  | [], _, _, _, x, hx => by simp [chT] at hx
  | b :: t, a, h, hv, x, hx => by
    rw [chE] at h
    by_cases h0 : ofE a b = 0
    · rw [if_neg (by simp [h0])] at h
      rw [chT, List.mem_cons, List.mem_cons] at hx
      rcases hx with rfl | rfl | hx
      · exact ofC_valid h0
      · exact hv _ (by simp)
      · exact chT_valid t b h (fun y hy => hv y (by simp [hy])) x hx
    · rw [if_pos h0] at h; exact absurd h h0
theorem chain_valid {l : List Cf} : ∀ x ∈ chainL l, cvf x = 0 := fun x hx => by
  cases l with
  | nil => simp [chainL] at hx
  | cons a t =>
    rw [chainL] at hx
    by_cases h : chainE (a :: t) = 0
    · rw [if_neg (by simp [h])] at hx
      have hv : vldC (a :: t) = 0 := by
        rw [chainE] at h
        by_cases hv : vldC (a :: t) = 0
        · exact hv
        · rw [if_pos hv] at h; exact absurd h hv
      rw [chainE, if_neg (by simp [hv])] at h
      rcases List.mem_cons.1 hx with rfl | hx
      · exact vldC_all hv _ (by simp)
      · exact chT_valid t a h (fun y hy => vldC_all hv y (by simp [hy])) x hx
    · rw [if_pos h] at hx; simp at hx
/-- the first configuration that is not safe -/
def unsF (wt : S) : List Cf → Nat → Int × CL × Int
  | [], _ => (0, cl0, 13)
  | c :: t, k => if sfC wt c = true then unsF wt t (k + 1) else ((k : Int), (clash27 c.kd wt c.M c.R c.Q c.F).1, 0)
theorem unsF_err (wt : S) : ∀ (l : List Cf) (k : Nat), ((unsF wt l k).2.2 == 13) = l.all (sfC wt)
  | [], _ => rfl
  | c :: t, k => by
    unfold unsF
    cases hc : sfC wt c with
    | true => rw [if_pos rfl, unsF_err wt t, List.all_cons, hc, Bool.true_and]
    | false => rw [if_neg (by simp), List.all_cons, hc]; rfl
theorem clash_err {c : Cf} {wt : S} (hv : cvf c = 0) (h : sfC wt c = false) : (clash27 c.kd wt c.M c.R c.Q c.F).2 = 0 := by
  unfold sfC safe27 at h
  have hc := (cvf_cv hv).2
  unfold clash27 at *
  rw [if_neg (by simp [hc])] at *
  cases hf : firstR wt (byz27 c.kd c.M c.F) c.R c.Q with
  | none => rw [hf] at h; simp at h
  | some x => rfl
end Go.Proofs.YtnlohknlchgfgaaGreatDoor
