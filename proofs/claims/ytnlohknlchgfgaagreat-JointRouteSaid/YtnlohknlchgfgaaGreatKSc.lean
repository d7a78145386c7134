/- Texts joined into one (wip/bin/pack.py): StepG, RouteM, ExtG, RRouteG. -/
import Derived.Test.YtnlohknlchgfgaaGreatKSb
import Derived.Test.YtnlohknlchgfgaaGreatKSa
import Derived.Test.YtnlohknlchgfgaaGreatKZf
import Derived.Test.YtnlohknlchgfgaaGreatKA
import Derived.Test.YtnlohknlchgfgaaGreatKE
/- A step between two configurations, and the reference's; live configurations. -/
namespace Go.Proofs.YtnlohknlchgfgaaGreat
open Go.RowKit Go.Lib Go.Shelf
def livC (c : Cf) : Bool := liv27 c.kd c.M c.R c.Q c.F
def stC (a b : Cf) : Bool := decide (ofE a b = 0) && livC (ofC a b)
set_option maxRecDepth 20000 in
theorem rLive27_any {nm : ByteArray} [NmOk nm] (kd : Int) (M : S) {ar : Option Addr} {cr : Nat} {R : List S} {aw : Option Addr} {cw : Nat} {Q : List S} {af : Option Addr} {cf : Nat} {F : List F2} (w : World) (h : RdC w ar cr R aw cw Q af cf F) :
    Calls Tryz.prog 114 #[.agg #[.string nm, .int .i64 kd, .int .u16 (sv M), .slice ar R.length cr, .slice aw Q.length cw, .slice af F.length cf]] w fun e w' => e = .returned (.bool (liv27 kd M R Q F)) ∧ Keeps w w' := by
  have K0 := (Keeps.refl w).alloc (.cells #[.string nm, .int .i64 kd, .int .u16 (sv M), .slice ar R.length cr, .slice aw Q.length cw, .slice af F.length cf] 32)
  have h1 := fun W (k : Keeps w W) => rDead_any (nm := nm) kd M W (h.keep k)
  unfold liv27
  unfold RetFE at h1
  generalize deadS kd M R Q F = r at *
  obtain ⟨x, z⟩ := r
  simp only [vf] at h1
  have H1 := Lib.hid h1
  clear h1 h
  generalize R.length = nr at *
  generalize Q.length = nq at *
  generalize F.length = nf at *
  go_enter Tryz.func114, Tryz.ntmps114
  go_wp2_with fail
  refine (H1.out _ K0).mono ?_
  rintro e w2 ⟨rfl, K1⟩
  go_wp2_with fail
  go_ret
  exact ⟨rfl, by first | exact K0.trans K1 | exact (K0.trans K1).alloc _⟩
theorem livG_any (x : CA) (w : World) (h : RdG w x) (hv : cvf x.c = 0) : Calls Tryz.prog 83 #[vg x] w fun e w' => e = .returned (.bool (livC x.c)) ∧ Keeps w w' := by
  haveI : NmOk x.c.nm := ⟨(cvf_cv hv).1⟩
  exact live27_any x.c.kd x.c.M w h
theorem rlivG_any (x : CA) (w : World) (h : RdG w x) (hv : cvf x.c = 0) : Calls Tryz.prog 114 #[vg x] w fun e w' => e = .returned (.bool (livC x.c)) ∧ Keeps w w' := by
  haveI : NmOk x.c.nm := ⟨(cvf_cv hv).1⟩
  exact rLive27_any x.c.kd x.c.M w h
set_option maxRecDepth 20000 in
set_option maxHeartbeats 4000000 in
theorem jstep_any (x y : CA) (w : World) (hx : RdG w x) (hy : RdG w y) :
    Calls Tryz.prog 49 #[vg x, vg y] w fun e w' => e = .returned (.bool (stC x.c y.c)) ∧ Keeps w w' := by
  obtain ⟨hbx, hby⟩ := box2 w x y
  have KW := ((Keeps.refl w).alloc (.cells #[.string x.c.nm, .int .i64 x.c.kd, .int .u16 (sv x.c.M), .slice x.ar x.c.R.length x.cr, .slice x.aw x.c.Q.length x.cw, .slice x.af x.c.F.length x.cf] 32)).alloc (.cells #[.string y.c.nm, .int .i64 y.c.kd, .int .u16 (sv y.c.M), .slice y.ar y.c.R.length y.cr, .slice y.aw y.c.Q.length y.cw, .slice y.af y.c.F.length y.cf] 32)
  have hof := jof_any x y _ (hx.keep KW) (hy.keep KW)
  have H1 := Lib.hid hof; have H2 := Lib.hid hbx; have H3 := Lib.hid hby; have HK := Lib.hid KW
  clear hof hbx hby KW hx hy
  obtain ⟨c0, c1, c2, c3, c4, c5⟩ := H2.out.c6
  obtain ⟨d0, d1, d2, d3, d4, d5⟩ := H3.out.c6
  unfold vg at *
  go_enter Tryz.func49, Tryz.ntmps49
  go_wp2_with fail
  clear c0 c1 c2 c3 c4 c5 d0 d1 d2 d3 d4 d5
  refine H1.out.mono ?_
  intro e w1 hret
  obtain ⟨z, rfl, hz, hR, K⟩ := hret
  unfold vg
  dsimp only
  have hb := Blk.new w1 32 #[.string z.c.nm, .int .i64 z.c.kd, .int .u16 (sv z.c.M), .slice z.ar z.c.R.length z.cr, .slice z.aw z.c.Q.length z.cw, .slice z.af z.c.F.length z.cf]
  have K2 := (Keeps.refl w1).alloc (.cells #[.string z.c.nm, .int .i64 z.c.kd, .int .u16 (sv z.c.M), .slice z.ar z.c.R.length z.cr, .slice z.aw z.c.Q.length z.cw, .slice z.af z.c.F.length z.cf] 32)
  have HB := Lib.hid hb; have HR := Lib.hid (hR.keep K2); have HZ := Lib.hid hz
  have KK := (HK.out.trans K).trans K2
  clear hb hR hz K K2 H1 H2 H3
  obtain ⟨er, her⟩ : ∃ er, er = ofE x.c y.c := ⟨_, rfl⟩
  rw [← her]
  have HE := Lib.hid her; clear her
  rcases Decidable.em (er = 0) with he | he
  · subst he
    have hv : cvf z.c = 0 := by rw [HZ.out]; exact ofC_valid HE.out.symm
    have hq : livC z.c = stC x.c y.c := by unfold stC; rw [← HE.out, HZ.out]; simp
    obtain ⟨c0, c1, c2, c3, c4, c5⟩ := HB.out.c6
    go_wp2_with fail
    clear c0 c1 c2 c3 c4 c5
    have hcl := livG_any z _ HR.out.rd hv
    rw [hq] at hcl
    unfold vg at hcl
    refine hcl.mono ?_
    rintro e w3 ⟨rfl, K3⟩
    clear hcl hq hv
    go_wp2_with fail
    go_ret
    exact ⟨rfl, KK.trans K3⟩
  · have hb : (er == 0) = false := by simpa using he
    have HN := Lib.hid he; clear he
    go_wp2_with fail
    go_ret
    exact ⟨by unfold stC; rw [← HE.out, decide_eq_false HN.out]; rfl, KK⟩
set_option maxRecDepth 20000 in
set_option maxHeartbeats 4000000 in
theorem rstep_any (x y : CA) (w : World) (hx : RdG w x) (hy : RdG w y) :
    Calls Tryz.prog 87 #[vg x, vg y] w fun e w' => e = .returned (.bool (stC x.c y.c)) ∧ Keeps w w' := by
  obtain ⟨hbx, hby⟩ := box2 w x y
  have KW := ((Keeps.refl w).alloc (.cells #[.string x.c.nm, .int .i64 x.c.kd, .int .u16 (sv x.c.M), .slice x.ar x.c.R.length x.cr, .slice x.aw x.c.Q.length x.cw, .slice x.af x.c.F.length x.cf] 32)).alloc (.cells #[.string y.c.nm, .int .i64 y.c.kd, .int .u16 (sv y.c.M), .slice y.ar y.c.R.length y.cr, .slice y.aw y.c.Q.length y.cw, .slice y.af y.c.F.length y.cf] 32)
  have hof := rof_any x y _ (hx.keep KW) (hy.keep KW)
  have H1 := Lib.hid hof; have H2 := Lib.hid hbx; have H3 := Lib.hid hby; have HK := Lib.hid KW
  clear hof hbx hby KW hx hy
  obtain ⟨c0, c1, c2, c3, c4, c5⟩ := H2.out.c6
  obtain ⟨d0, d1, d2, d3, d4, d5⟩ := H3.out.c6
  unfold vg at *
  go_enter Tryz.func87, Tryz.ntmps87
  go_wp2_with fail
  clear c0 c1 c2 c3 c4 c5 d0 d1 d2 d3 d4 d5
  refine H1.out.mono ?_
  intro e w1 hret
  obtain ⟨z, rfl, hz, hR, K⟩ := hret
  unfold vg
  dsimp only
  have hb := Blk.new w1 32 #[.string z.c.nm, .int .i64 z.c.kd, .int .u16 (sv z.c.M), .slice z.ar z.c.R.length z.cr, .slice z.aw z.c.Q.length z.cw, .slice z.af z.c.F.length z.cf]
  have K2 := (Keeps.refl w1).alloc (.cells #[.string z.c.nm, .int .i64 z.c.kd, .int .u16 (sv z.c.M), .slice z.ar z.c.R.length z.cr, .slice z.aw z.c.Q.length z.cw, .slice z.af z.c.F.length z.cf] 32)
  have HB := Lib.hid hb; have HR := Lib.hid (hR.keep K2); have HZ := Lib.hid hz
  have KK := (HK.out.trans K).trans K2
  clear hb hR hz K K2 H1 H2 H3
  obtain ⟨er, her⟩ : ∃ er, er = ofE x.c y.c := ⟨_, rfl⟩
  rw [← her]
  have HE := Lib.hid her; clear her
  rcases Decidable.em (er = 0) with he | he
  · subst he
    have hv : cvf z.c = 0 := by rw [HZ.out]; exact ofC_valid HE.out.symm
    have hq : livC z.c = stC x.c y.c := by unfold stC; rw [← HE.out, HZ.out]; simp
    obtain ⟨c0, c1, c2, c3, c4, c5⟩ := HB.out.c6
    go_wp2_with fail
    clear c0 c1 c2 c3 c4 c5
    have hcl := rlivG_any z _ HR.out.rd hv
    rw [hq] at hcl
    unfold vg at hcl
    refine hcl.mono ?_
    rintro e w3 ⟨rfl, K3⟩
    clear hcl hq hv
    go_wp2_with fail
    go_ret
    exact ⟨rfl, KK.trans K3⟩
  · have hb : (er == 0) = false := by simpa using he
    have HN := Lib.hid he; clear he
    go_wp2_with fail
    go_ret
    exact ⟨by unfold stC; rw [← HE.out, decide_eq_false HN.out]; rfl, KK⟩
end Go.Proofs.YtnlohknlchgfgaaGreat
/- The first shortest route: breadth-first search and iterated deepening find the same (plain law, no program). -/
namespace Go.Proofs.YtnlohknlchgfgaaGreat
abbrev Rt := List Nat × Nat
section
variable (n : Nat) (st : Nat → Nat → Bool) (tg : Nat)
def sucs (u : Nat) : List Nat := (List.range n).filter fun i => i != u && st u i
def nxR (r : Rt) : List Rt := (sucs n st r.2).map fun i => (r.1 ++ [r.2], i)
/-- all walks of k steps, in order -/
def walks : Nat → Nat → List Rt
  | 0, s => [([], s)]
  | k + 1, s => (sucs n st s).flatMap fun i => (walks k i).map fun r => (s :: r.1, r.2)
theorem walks_succ : ∀ (k s : Nat), walks n st (k + 1) s = (walks n st k s).flatMap (nxR n st)
  | 0, s => by
    simp only [walks, List.flatMap_cons, List.flatMap_nil, List.append_nil, nxR, List.map_cons, List.map_nil, List.nil_append]
    induction sucs n st s with
    | nil => rfl
    | cons x xs ih => simp [List.flatMap_cons]; exact ih
  | k + 1, s => by
    show (sucs n st s).flatMap (fun i => (walks n st (k + 1) i).map fun r => (s :: r.1, r.2)) = _
    rw [show walks n st (k + 1) s = (sucs n st s).flatMap fun i => (walks n st k i).map fun r => (s :: r.1, r.2) from rfl, List.flatMap_assoc]
    congr 1
    funext i
    rw [walks_succ k i, List.map_flatMap, List.flatMap_map]
    congr 1
    funext r
    simp [nxR]
/-- iterated deepening -/
def extR : Nat → Nat → Option (List Nat)
  | 0, u => if u = tg then some [u] else none
  | k + 1, u => (sucs n st u).findSome? fun i => (extR k i).map fun p => u :: p
theorem ext_walks : ∀ k u, extR n st tg k u = ((walks n st k u).find? fun r => r.2 == tg).map fun r => r.1 ++ [r.2]
  | 0, u => by
    unfold extR walks
    by_cases h : u = tg
    · simp [h]
    · simp [h]
  | k + 1, u => by
    unfold extR walks
    induction sucs n st u with
    | nil => rfl
    | cons x xs ih =>
      rw [List.findSome?_cons, List.flatMap_cons, List.find?_append, ext_walks k x, ih, List.find?_map]
      have e : (fun r : Rt => r.2 == tg) ∘ (fun r : Rt => (u :: r.1, r.2)) = fun r : Rt => r.2 == tg := rfl
      rw [e]
      cases (walks n st k x).find? fun r => r.2 == tg with
      | none => simp
      | some r => simp
def extL (s : Nat) : Nat → Nat → Option (List Nat)
  | 0, _ => none
  | c + 1, k => match extR n st tg k s with
    | some r => some r
    | none => extL s c (k + 1)
/-- breadth-first search -/
def expIn (r : Rt) : List Nat → List Bool → List Rt → List Bool × List Rt
  | [], seen, acc => (seen, acc)
  | i :: is, seen, acc => if !seen.getD i false && st r.2 i then expIn r is (seen.set i true) (acc ++ [(r.1 ++ [r.2], i)]) else expIn r is seen acc
def bfs : Nat → List Rt → List Bool → Option (List Nat)
  | 0, _, _ => none
  | _ + 1, [], _ => none
  | f + 1, r :: rest, seen => if r.2 = tg then some (r.1 ++ [r.2]) else
    bfs f (rest ++ (expIn st r (List.range n) seen []).2) (expIn st r (List.range n) seen []).1
/-- the first routes to ends that are new -/
def firsts : List Nat → List Rt → List Rt
  | _, [] => []
  | D, r :: F => if r.2 ∈ D then firsts D F else r :: firsts (r.2 :: D) F
end
section
variable {n : Nat} {st : Nat → Nat → Bool} {tg : Nat}
theorem firsts_app (D : List Nat) (F G : List Rt) : ∃ E, firsts D (F ++ G) = firsts D F ++ firsts E G ∧ ∀ v, v ∈ E ↔ v ∈ D ∨ v ∈ F.map (·.2) := by
  induction F generalizing D with
  | nil => exact ⟨D, rfl, fun v => by simp⟩
  | cons r F ih =>
    by_cases h : r.2 ∈ D
    · obtain ⟨E, h1, h2⟩ := ih D
      refine ⟨E, by simp only [List.cons_append, firsts, if_pos h, h1], fun v => ?_⟩
      rw [h2, List.map_cons, List.mem_cons]
      constructor
      · rintro (g | g)
        · exact .inl g
        · exact .inr (.inr g)
      · rintro (g | g | g)
        · exact .inl g
        · rw [g]; exact .inl h
        · exact .inr g
    · obtain ⟨E, h1, h2⟩ := ih (r.2 :: D)
      refine ⟨E, by simp only [List.cons_append, firsts, if_neg h, h1], fun v => ?_⟩
      rw [h2, List.map_cons, List.mem_cons, List.mem_cons]
      constructor
      · rintro ((g | g) | g)
        · exact .inr (.inl g)
        · exact .inl g
        · exact .inr (.inr g)
      · rintro (g | g | g)
        · exact .inl (.inr g)
        · exact .inl (.inl g)
        · exact .inr g
theorem firsts_cong {D E : List Nat} (h : ∀ v, v ∈ D ↔ v ∈ E) (F : List Rt) : firsts D F = firsts E F := by
  induction F generalizing D E with
  | nil => rfl
  | cons r F ih =>
    unfold firsts
    rw [ih h, ih (D := r.2 :: D) (E := r.2 :: E) (fun v => by rw [List.mem_cons, List.mem_cons, h])]
    by_cases hr : r.2 ∈ D
    · rw [if_pos hr, if_pos ((h _).1 hr)]
    · rw [if_neg hr, if_neg fun g => hr ((h _).2 g)]
theorem firsts_none {D : List Nat} {F : List Rt} (h : ∀ r ∈ F, r.2 ∈ D) : firsts D F = [] := by
  induction F with
  | nil => rfl
  | cons r F ih =>
    unfold firsts
    rw [if_pos (h r (by simp))]
    exact ih fun x hx => h x (by simp [hx])
theorem firsts_nil {D : List Nat} {F : List Rt} (h : firsts D F = []) : ∀ r ∈ F, r.2 ∈ D := by
  induction F with
  | nil => intro r hr; simp at hr
  | cons x F ih =>
    unfold firsts at h
    by_cases hx : x.2 ∈ D
    · rw [if_pos hx] at h
      intro r hr
      rcases List.mem_cons.1 hr with rfl | hr
      · exact hx
      · exact ih h r hr
    · rw [if_neg hx] at h; cases h
theorem firsts_ends (D : List Nat) (F : List Rt) (v : Nat) : v ∈ D ∨ v ∈ (firsts D F).map (·.2) ↔ v ∈ D ∨ v ∈ F.map (·.2) := by
  induction F generalizing D with
  | nil => simp [firsts]
  | cons r F ih =>
    unfold firsts
    by_cases h : r.2 ∈ D
    · rw [if_pos h, ih, List.map_cons, List.mem_cons]
      constructor
      · rintro (g | g)
        · exact .inl g
        · exact .inr (.inr g)
      · rintro (g | g | g)
        · exact .inl g
        · rw [g]; exact .inl h
        · exact .inr g
    · rw [if_neg h]
      have := ih (r.2 :: D)
      rw [List.mem_cons] at this
      rw [List.map_cons, List.map_cons, List.mem_cons, List.mem_cons]
      constructor
      · rintro (g | g | g)
        · exact .inl g
        · exact .inr (.inl g)
        · rcases this.1 (.inr g) with (k | k) | k
          · exact .inr (.inl k)
          · exact .inl k
          · exact .inr (.inr k)
      · rintro (g | g | g)
        · exact .inl g
        · exact .inr (.inl g)
        · rcases this.2 (.inr g) with (k | k) | k
          · exact .inr (.inl k)
          · exact .inl k
          · exact .inr (.inr k)
theorem mem_sucs {u v : Nat} : v ∈ sucs n st u ↔ v < n ∧ v ≠ u ∧ st u v = true := by
  unfold sucs
  rw [List.mem_filter, List.mem_range, Bool.and_eq_true, bne_iff_ne]
/-- what an expansion adds: the successors not yet seen -/
theorem expIn_spec (r : Rt) : ∀ (is : List Nat) (seen : List Bool) (acc : List Rt), is.Pairwise (· < ·) → (∀ i ∈ is, i < seen.length) →
    (expIn st r is seen acc).2 = acc ++ ((is.filter fun i => !seen.getD i false && st r.2 i).map fun i => (r.1 ++ [r.2], i)) ∧ (expIn st r is seen acc).1.length = seen.length ∧
      ∀ v, (expIn st r is seen acc).1.getD v false = (seen.getD v false || decide (v ∈ is.filter fun i => !seen.getD i false && st r.2 i))
  | [], seen, acc, _, _ => by simp [expIn]
  | i :: is, seen, acc, hp, hl => by
    rw [List.pairwise_cons] at hp
    unfold expIn
    have hi : i < seen.length := hl i (by simp)
    by_cases h : (!seen.getD i false && st r.2 i) = true
    · rw [if_pos h]
      obtain ⟨h1, h2, h3⟩ := expIn_spec r is (seen.set i true) (acc ++ [(r.1 ++ [r.2], i)]) hp.2 (fun j hj => by rw [List.length_set]; exact hl j (by simp [hj]))
      have hg : ∀ j, j ≠ i → (seen.set i true).getD j false = seen.getD j false := fun j hj => by
        simp only [List.getD_eq_getElem?_getD, List.getElem?_set]
        rw [if_neg (fun e => hj e.symm)]
      have hgi : (seen.set i true).getD i false = true := by
        simp only [List.getD_eq_getElem?_getD, List.getElem?_set]
        simp [hi]
      have hf : (is.filter fun j => !(seen.set i true).getD j false && st r.2 j) = is.filter fun j => !seen.getD j false && st r.2 j :=
        List.filter_congr fun j hj => by rw [hg j (by have := hp.1 j hj; omega)]
      rw [hf] at h1 h3
      refine ⟨?_, by rw [h2, List.length_set], fun v => ?_⟩
      · rw [h1, List.filter_cons, if_pos h, List.map_cons, List.append_assoc]; rfl
      · rw [h3, List.filter_cons, if_pos h]
        by_cases hv : v = i
        · subst hv; rw [hgi]; simp
        · rw [hg v hv]; simp [hv]
    · rw [if_neg h]
      obtain ⟨h1, h2, h3⟩ := expIn_spec r is seen acc hp.2 (fun j hj => hl j (by simp [hj]))
      refine ⟨?_, h2, fun v => ?_⟩
      · rw [h1, List.filter_cons, if_neg h]
      · rw [h3, List.filter_cons, if_neg h]
/-- the queue of a search that sees nothing twice, against that of a search which sees all -/
structure BI (n : Nat) (st : Nat → Nat → Bool) (tg s : Nat) (F : List Rt) (D : List Nat) (Q : List Rt) (seen : List Bool) (k j : Nat) : Prop where
  full : F = (walks n st k s).drop j ++ ((walks n st k s).take j).flatMap (nxR n st)
  jle : j ≤ (walks n st k s).length
  q : Q = firsts D F
  len : seen.length = n
  seen : ∀ v, v < n → (seen.getD v false = true ↔ v ∈ D ∨ v ∈ F.map (·.2))
  clo : ∀ u ∈ D, ∀ v ∈ sucs n st u, v ∈ D ∨ v ∈ F.map (·.2)
  no : tg ∉ D
  past : ∀ m, m < k → ∀ r ∈ walks n st m s, r.2 ∈ D
  now : ∀ r ∈ (walks n st k s).take j, r.2 ∈ D
  nd : ∀ r ∈ Q, (r.1 ++ [r.2]).Nodup ∧ (∀ v ∈ r.1 ++ [r.2], v < n) ∧ ∀ v ∈ r.1, v ∈ D
  dn : ∀ v ∈ D, v < n
theorem walk_len : ∀ (k s : Nat), ∀ r ∈ walks n st k s, r.1.length = k
  | 0, s, r, h => by simp only [walks, List.mem_singleton] at h; subst h; rfl
  | k + 1, s, r, h => by
    unfold walks at h
    obtain ⟨i, _, h⟩ := List.mem_flatMap.1 h
    obtain ⟨x, hx, rfl⟩ := List.mem_map.1 h
    have := walk_len k i x hx
    simp [this]
theorem nodup_sub : ∀ (l T : List Nat), l.Nodup → (∀ v ∈ l, v ∈ T) → l.length ≤ T.length
  | [], _, _, _ => Nat.zero_le _
  | a :: l, T, h, hs => by
    rw [List.nodup_cons] at h
    have ha := hs a (by simp)
    have := nodup_sub l (T.erase a) h.2 fun v hv => (List.mem_erase_of_ne fun e => h.1 (by rw [← e]; exact hv)).2 (hs v (by simp [hv]))
    rw [List.length_erase_of_mem ha] at this
    have hp := List.length_pos_of_mem ha
    rw [List.length_cons]; omega
theorem nodup_len {l : List Nat} {n : Nat} (h : l.Nodup) (hn : ∀ v ∈ l, v < n) : l.length ≤ n := by
  have : l.length ≤ (List.range n).length := nodup_sub l _ h fun v hv => List.mem_range.2 (hn v hv)
  simpa using this
/-- a front element whose end is done: nothing changes -/
theorem BI.skip {s : Nat} {r : Rt} {F : List Rt} {D : List Nat} {Q : List Rt} {seen : List Bool} {k j : Nat} (h : BI n st tg s (r :: F) D Q seen k j) (hr : r.2 ∈ D) :
    ∃ k j, BI n st tg s (F ++ nxR n st r) D Q seen k j := by
  have hends : ∀ v, v ∈ D ∨ v ∈ (F ++ nxR n st r).map (·.2) ↔ v ∈ D ∨ v ∈ (r :: F).map (·.2) := fun v => by
    rw [List.map_append, List.mem_append, List.map_cons, List.mem_cons]
    constructor
    · rintro (g | g | g)
      · exact .inl g
      · exact .inr (.inr g)
      · unfold nxR at g
        rw [List.map_map, List.mem_map] at g
        obtain ⟨i, hi, rfl⟩ := g
        have := h.clo r.2 hr i hi
        rw [List.map_cons, List.mem_cons] at this
        exact this
    · rintro (g | g | g)
      · exact .inl g
      · rw [g]; exact .inl hr
      · exact .inr (.inl g)
  have hq : Q = firsts D (F ++ nxR n st r) := by
    obtain ⟨E, h1, h2⟩ := firsts_app D F (nxR n st r)
    rw [h1, h.q]
    show (if r.2 ∈ D then firsts D F else _) = _
    rw [if_pos hr, firsts_none (D := E), List.append_nil]
    intro x hx
    rw [h2]
    have := (hends x.2).1 (.inr (by rw [List.map_append, List.mem_append]; exact .inr (List.mem_map.2 ⟨x, hx, rfl⟩)))
    rcases this with g | g
    · exact .inl g
    · rw [List.map_cons, List.mem_cons] at g
      rcases g with g | g
      · rw [g]; exact .inl hr
      · exact .inr g
  have rest : ∀ k' j', F ++ nxR n st r = (walks n st k' s).drop j' ++ ((walks n st k' s).take j').flatMap (nxR n st) → j' ≤ (walks n st k' s).length → (∀ m, m < k' → ∀ r ∈ walks n st m s, r.2 ∈ D) → (∀ r ∈ (walks n st k' s).take j', r.2 ∈ D) → ∃ k j, BI n st tg s (F ++ nxR n st r) D Q seen k j :=
    fun k' j' e1 e2 e3 e4 => ⟨k', j', e1, e2, hq, h.len, fun v hv => by rw [h.seen v hv, hends], fun u hu v hv => (hends v).2 (h.clo u hu v hv), h.no, e3, e4, h.nd, h.dn⟩
  have front : ∀ k' j', r :: F = (walks n st k' s).drop j' ++ ((walks n st k' s).take j').flatMap (nxR n st) → j' < (walks n st k' s).length → (∀ m, m < k' → ∀ r ∈ walks n st m s, r.2 ∈ D) → (∀ r ∈ (walks n st k' s).take j', r.2 ∈ D) → ∃ k j, BI n st tg s (F ++ nxR n st r) D Q seen k j := by
    intro k' j' e1 hj e3 e4
    rw [List.drop_eq_getElem_cons hj, List.cons_append, List.cons.injEq] at e1
    refine rest k' (j' + 1) ?_ hj e3 fun x hx => ?_
    · rw [e1.2, List.take_succ_eq_append_getElem hj, List.flatMap_append, ← e1.1, List.append_assoc]
      simp
    · rw [List.take_succ_eq_append_getElem hj, List.mem_append] at hx
      rcases hx with hx | hx
      · exact e4 x hx
      · rw [List.mem_singleton] at hx; rw [hx, ← e1.1]; exact hr
  by_cases hj : j < (walks n st k s).length
  · exact front k j h.full hj h.past h.now
  · have hj2 : j = (walks n st k s).length := by have := h.jle; omega
    have e := h.full
    rw [hj2, List.drop_length, List.nil_append, List.take_length, ← walks_succ] at e
    have hn := h.now
    rw [hj2, List.take_length] at hn
    refine front (k + 1) 0 (by rw [List.drop_zero, List.take_zero, List.flatMap_nil, List.append_nil]; exact e) (by rw [← e]; simp) (fun m hm => ?_) (by simp)
    by_cases hmk : m = k
    · subst hmk; exact hn
    · exact h.past m (by omega)
theorem BI.skips {s : Nat} {D : List Nat} {Q : List Rt} {seen : List Bool} : ∀ (pre : List Rt) {r : Rt} {post : List Rt} {k j : Nat}, BI n st tg s (pre ++ r :: post) D Q seen k j → (∀ x ∈ pre, x.2 ∈ D) →
    ∃ F k j, BI n st tg s (r :: F) D Q seen k j
  | [], r, post, k, j, h, _ => ⟨post, k, j, h⟩
  | x :: pre, r, post, k, j, h, hp => by
    obtain ⟨k', j', h'⟩ := BI.skip h (hp x (by simp))
    rw [show pre.append (r :: post) = pre ++ r :: post from rfl, List.append_assoc, List.cons_append] at h'
    exact BI.skips pre h' fun y hy => hp y (by simp [hy])
theorem firsts_split {D : List Nat} {r : Rt} {Q : List Rt} : ∀ {F : List Rt}, firsts D F = r :: Q → ∃ pre post, F = pre ++ r :: post ∧ (∀ x ∈ pre, x.2 ∈ D) ∧ r.2 ∉ D
  | [], h => by cases h
  | x :: F, h => by
    unfold firsts at h
    by_cases hx : x.2 ∈ D
    · rw [if_pos hx] at h
      obtain ⟨pre, post, e, h1, h2⟩ := firsts_split h
      exact ⟨x :: pre, post, by rw [e]; rfl, fun y hy => by
        rcases List.mem_cons.1 hy with rfl | hy
        · exact hx
        · exact h1 y hy, h2⟩
    · rw [if_neg hx] at h
      injection h with h1 h2
      subst h1
      exact ⟨[], F, rfl, by simp, hx⟩
/-- the position of a front element among the walks -/
theorem BI.front {s : Nat} {r : Rt} {F : List Rt} {D : List Nat} {Q : List Rt} {seen : List Bool} {k j : Nat} (h : BI n st tg s (r :: F) D Q seen k j) :
    ∃ k j, BI n st tg s (r :: F) D Q seen k j ∧ ∃ hj : j < (walks n st k s).length, (walks n st k s)[j] = r := by
  have front : ∀ k' j' (hj : j' < (walks n st k' s).length), r :: F = (walks n st k' s).drop j' ++ ((walks n st k' s).take j').flatMap (nxR n st) → (walks n st k' s)[j'] = r := by
    intro k' j' hj e1
    rw [List.drop_eq_getElem_cons hj, List.cons_append, List.cons.injEq] at e1
    exact e1.1.symm
  by_cases hj : j < (walks n st k s).length
  · exact ⟨k, j, h, hj, front k j hj h.full⟩
  · have hj2 : j = (walks n st k s).length := by have := h.jle; omega
    have e := h.full
    rw [hj2, List.drop_length, List.nil_append, List.take_length, ← walks_succ] at e
    have hn := h.now
    rw [hj2, List.take_length] at hn
    have e' : r :: F = (walks n st (k + 1) s).drop 0 ++ ((walks n st (k + 1) s).take 0).flatMap (nxR n st) := by rw [List.drop_zero, List.take_zero, List.flatMap_nil, List.append_nil]; exact e
    have hl : 0 < (walks n st (k + 1) s).length := by rw [← e]; simp
    refine ⟨k + 1, 0, ⟨e', Nat.zero_le _, h.q, h.len, h.seen, h.clo, h.no, fun m hm => ?_, by simp, h.nd, h.dn⟩, hl, front _ _ hl e'⟩
    by_cases hmk : m = k
    · subst hmk; exact hn
    · exact h.past m (by omega)
/-- one round of the search -/
theorem BI.step {s : Nat} {r : Rt} {F : List Rt} {D : List Nat} {Q' : List Rt} {seen : List Bool} {k j : Nat} (h : BI n st tg s (r :: F) D (r :: Q') seen k j) (hrD : r.2 ∉ D) (hto : r.2 ≠ tg) :
    ∃ k j, BI n st tg s (F ++ nxR n st r) (r.2 :: D) (Q' ++ (expIn st r (List.range n) seen []).2) (expIn st r (List.range n) seen []).1 k j := by
  obtain ⟨k, j, h, hj, hat⟩ := h.front
  obtain ⟨x1, x2, x3⟩ := expIn_spec (st := st) r (List.range n) seen [] List.pairwise_lt_range (fun i hi => by rw [h.len]; exact List.mem_range.1 hi)
  rw [List.nil_append] at x1
  have hrn : r.2 < n := (h.nd r (by simp)).2.1 r.2 (by simp)
  have hseen_r : seen.getD r.2 false = true := (h.seen r.2 hrn).2 (.inr (by simp))
  have hfil : ((List.range n).filter fun i => !seen.getD i false && st r.2 i) = (sucs n st r.2).filter fun i => !seen.getD i false := by
    unfold sucs
    rw [List.filter_filter]
    refine List.filter_congr fun i hi => ?_
    by_cases e : i = r.2
    · subst e; rw [hseen_r]; simp
    · rw [show (i != r.2) = true by simpa using e, Bool.true_and]
  rw [hfil] at x1 x3
  have hq := h.q
  unfold firsts at hq
  rw [if_neg hrD] at hq
  injection hq with _ hq
  have hsn : ∀ v, v < n → (seen.getD v false = true ↔ v ∈ r.2 :: D ∨ v ∈ F.map (·.2)) := fun v hv => by
    rw [h.seen v hv, List.map_cons, List.mem_cons, List.mem_cons]
    constructor
    · rintro (g | g | g)
      · exact .inl (.inr g)
      · exact .inl (.inl g)
      · exact .inr g
    · rintro ((g | g) | g)
      · exact .inr (.inl g)
      · exact .inl g
      · exact .inr (.inr g)
  have hnx : ∀ E : List Nat, (∀ v, v ∈ E ↔ v ∈ r.2 :: D ∨ v ∈ F.map (·.2)) → firsts E (nxR n st r) = ((sucs n st r.2).filter fun i => !seen.getD i false).map fun i => (r.1 ++ [r.2], i) := by
    have gen : ∀ (is : List Nat) (E : List Nat), is.Nodup → (∀ i ∈ is, (i ∈ E ↔ seen.getD i false = true)) → firsts E (is.map fun i => (r.1 ++ [r.2], i)) = (is.filter fun i => !seen.getD i false).map fun i => (r.1 ++ [r.2], i) := by
      intro is
      induction is with
      | nil => intros; rfl
      | cons i is ih =>
        intro E hnd hE
        rw [List.nodup_cons] at hnd
        rw [List.map_cons]
        unfold firsts
        by_cases hi : i ∈ E
        · rw [if_pos hi, List.filter_cons, if_neg (by rw [(hE i (by simp)).1 hi]; simp)]
          exact ih E hnd.2 fun x hx => hE x (by simp [hx])
        · have : seen.getD i false = false := by
            cases hb : seen.getD i false with
            | false => rfl
            | true => exact absurd ((hE i (by simp)).2 hb) hi
          rw [if_neg hi, List.filter_cons, if_pos (by rw [this]; rfl), List.map_cons]
          congr 1
          refine ih (i :: E) hnd.2 fun x hx => ?_
          have hxi : x ≠ i := fun e => hnd.1 (e ▸ hx)
          rw [List.mem_cons, ← hE x (by simp [hx])]
          simp [hxi]
    intro E hE
    exact gen _ E (List.Pairwise.filter _ List.nodup_range) fun i hi => by rw [hE, hsn i (mem_sucs.1 hi).1]
  obtain ⟨E, f1, f2⟩ := firsts_app (r.2 :: D) F (nxR n st r)
  have hexp : (expIn st r (List.range n) seen []).2 = firsts E (nxR n st r) := by rw [x1, hnx E f2]
  have e1 := h.full
  rw [List.drop_eq_getElem_cons hj, List.cons_append, List.cons.injEq] at e1
  refine ⟨k, j + 1, ?_, hj, ?_, by rw [x2, h.len], ?_, ?_, ?_, ?_, ?_, ?_, ?_⟩
  · rw [e1.2, List.take_succ_eq_append_getElem hj, List.flatMap_append, ← e1.1, List.append_assoc]; simp
  · rw [hexp, f1, hq]
  · intro v hv
    rw [x3, Bool.or_eq_true, hsn v hv, decide_eq_true_eq, List.map_append, List.mem_append]
    have hm : v ∈ (nxR n st r).map (·.2) ↔ v ∈ sucs n st r.2 := by unfold nxR; rw [List.map_map]; simp
    rw [hm, List.mem_filter]
    constructor
    · rintro ((g | g) | g)
      · exact .inl g
      · exact .inr (.inl g)
      · exact .inr (.inr g.1)
    · rintro (g | g | g)
      · exact .inl (.inl g)
      · exact .inl (.inr g)
      · by_cases hb : seen.getD v false = true
        · exact .inl ((hsn v hv).1 hb)
        · exact .inr ⟨g, by simpa using hb⟩
  · intro u hu v hv
    rw [List.map_append, List.mem_append]
    have hm : v ∈ (nxR n st r).map (·.2) ↔ v ∈ sucs n st r.2 := by unfold nxR; rw [List.map_map]; simp
    rcases List.mem_cons.1 hu with rfl | hu
    · exact .inr (.inr (hm.2 hv))
    · rcases h.clo u hu v hv with g | g
      · exact .inl (by simp [g])
      · rw [List.map_cons, List.mem_cons] at g
        rcases g with g | g
        · exact .inl (by simp [g])
        · exact .inr (.inl g)
  · rw [List.mem_cons]; rintro (g | g)
    · exact hto g.symm
    · exact h.no g
  · intro m hm x hx; exact List.mem_cons_of_mem _ (h.past m hm x hx)
  · intro x hx
    rw [List.take_succ_eq_append_getElem hj, List.mem_append] at hx
    rcases hx with hx | hx
    · exact List.mem_cons_of_mem _ (h.now x hx)
    · rw [List.mem_singleton] at hx; rw [hx, hat]; simp
  · intro x hx
    rw [List.mem_append] at hx
    rcases hx with hx | hx
    · obtain ⟨g1, g2, g3⟩ := h.nd x (by simp [hx])
      exact ⟨g1, g2, fun v hv => List.mem_cons_of_mem _ (g3 v hv)⟩
    · rw [x1] at hx
      obtain ⟨i, hi, rfl⟩ := List.mem_map.1 hx
      rw [List.mem_filter] at hi
      obtain ⟨hi1, hi2⟩ := hi
      have hin := (mem_sucs.1 hi1).1
      obtain ⟨g1, g2, g3⟩ := h.nd r (by simp)
      have hi3 : ¬ (i ∈ r.2 :: D ∨ i ∈ F.map (·.2)) := fun g => by rw [(hsn i hin).2 g] at hi2; simp at hi2
      have hall : ∀ v ∈ r.1 ++ [r.2], v ∈ r.2 :: D := fun v hv => by
        rw [List.mem_append, List.mem_singleton] at hv
        rcases hv with hv | hv
        · exact List.mem_cons_of_mem _ (g3 v hv)
        · rw [hv]; simp
      refine ⟨?_, ?_, hall⟩
      · dsimp only
        rw [List.nodup_append]
        refine ⟨g1, by simp, fun a ha b hb => ?_⟩
        rw [List.mem_singleton] at hb
        subst hb
        rintro rfl
        exact hi3 (.inl (hall a ha))
      · dsimp only
        intro v hv
        rw [List.mem_append, List.mem_singleton] at hv
        rcases hv with hv | hv
        · exact g2 v hv
        · rw [hv]; exact hin
  · intro v hv
    rcases List.mem_cons.1 hv with rfl | hv
    · exact hrn
    · exact h.dn v hv
theorem extL_find {s : Nat} : ∀ (c m k : Nat) {r : Rt}, m ≤ k → k < m + c → (∀ i, m ≤ i → i < k → (walks n st i s).find? (fun r => r.2 == tg) = none) → (walks n st k s).find? (fun r => r.2 == tg) = some r →
    extL n st tg s c m = some (r.1 ++ [r.2])
  | 0, m, k, r, h1, h2, _, _ => by omega
  | c + 1, m, k, r, h1, h2, h3, h4 => by
    unfold extL
    rw [ext_walks]
    by_cases e : m = k
    · subst e; rw [h4]; rfl
    · rw [h3 m (Nat.le_refl _) (by omega)]
      exact extL_find c (m + 1) k (by omega) (by omega) (fun i hi hk => h3 i (by omega) hk) h4
theorem extL_none {s : Nat} : ∀ (c m : Nat), (∀ i, (walks n st i s).find? (fun r => r.2 == tg) = none) → extL n st tg s c m = none
  | 0, m, _ => rfl
  | c + 1, m, h => by
    unfold extL
    rw [ext_walks, h m]
    exact extL_none c (m + 1) h
theorem walk_end_in {s : Nat} {D : List Nat} (hs : s ∈ D) (hc : ∀ u ∈ D, ∀ v ∈ sucs n st u, v ∈ D) : ∀ k, ∀ r ∈ walks n st k s, r.2 ∈ D
  | 0, r, h => by simp only [walks, List.mem_singleton] at h; subst h; exact hs
  | k + 1, r, h => by
    rw [walks_succ] at h
    obtain ⟨x, hx, h⟩ := List.mem_flatMap.1 h
    unfold nxR at h
    obtain ⟨i, hi, rfl⟩ := List.mem_map.1 h
    exact hc x.2 (walk_end_in hs hc k x hx) i hi
theorem find_nil {l : List Rt} {D : List Nat} (h : ∀ r ∈ l, r.2 ∈ D) (hno : tg ∉ D) : l.find? (fun r => r.2 == tg) = none := by
  rw [List.find?_eq_none]
  intro r hr hb
  have : r.2 = tg := by simpa using hb
  exact hno (this ▸ h r hr)
theorem bfs_ext {s : Nat} : ∀ (f : Nat) {F : List Rt} {D : List Nat} {Q : List Rt} {seen : List Bool} {k j : Nat}, BI n st tg s F D Q seen k j → (s ∈ D ∨ s ∈ F.map (·.2)) → D.Nodup → n < f + D.length →
    bfs n st tg f Q seen = extL n st tg s n 0
  | 0, F, D, Q, seen, k, j, h, _, hd, hf => by have := nodup_len hd h.dn; omega
  | f + 1, F, D, [], seen, k, j, h, hs, hd, hf => by
    have h1 := firsts_nil h.q.symm
    have hin : ∀ v, v ∈ D ∨ v ∈ F.map (·.2) → v ∈ D := fun v hv => by
      rcases hv with g | g
      · exact g
      · obtain ⟨x, hx, rfl⟩ := List.mem_map.1 g; exact h1 x hx
    unfold bfs
    rw [extL_none]
    intro i
    exact find_nil (walk_end_in (hin s hs) (fun u hu v hv => hin v (h.clo u hu v hv)) i) h.no
  | f + 1, F, D, r :: Q, seen, k, j, h, hs, hd, hf => by
    obtain ⟨pre, post, e, hp, hrD⟩ := firsts_split h.q.symm
    have hs' : s ∈ D ∨ s = r.2 ∨ True := .inr (.inr trivial)
    subst e
    have hends := firsts_ends D (pre ++ r :: post)
    have hq0 := h.q
    obtain ⟨F1, k1, j1, h1⟩ := BI.skips pre h hp
    have hs1 : s ∈ D ∨ s ∈ (r :: F1).map (·.2) := by
      have a1 := (hends s).2 hs
      rw [← hq0] at a1
      have a2 := firsts_ends D (r :: F1) s
      rw [← h1.q] at a2
      exact a2.1 a1
    unfold bfs
    by_cases hto : r.2 = tg
    · rw [if_pos hto]
      obtain ⟨k2, j2, h2, hj, hat⟩ := h1.front
      have hm : r ∈ walks n st k2 s := by rw [← hat]; exact List.getElem_mem hj
      have hk : k2 < n := by
        obtain ⟨g1, g2, _⟩ := h.nd r (by simp)
        have a1 := nodup_len g1 g2
        have a2 := walk_len k2 s r hm
        rw [List.length_append, List.length_singleton] at a1
        omega
      refine (extL_find n 0 k2 (Nat.zero_le _) (by omega) (fun i _ hi => find_nil (h2.past i hi) h2.no) ?_).symm
      have : walks n st k2 s = (walks n st k2 s).take j2 ++ (r :: (walks n st k2 s).drop (j2 + 1)) := by
        rw [← hat, ← List.drop_eq_getElem_cons hj, List.take_append_drop]
      rw [this, List.find?_append, find_nil h2.now h2.no]
      simp [hto]
    · rw [if_neg hto]
      obtain ⟨k2, j2, h2⟩ := h1.step hrD hto
      refine bfs_ext f h2 ?_ (List.nodup_cons.2 ⟨hrD, hd⟩) (by rw [List.length_cons]; omega)
      rcases hs1 with g | g
      · exact .inl (by simp [g])
      · rw [List.map_cons, List.mem_cons] at g
        rcases g with g | g
        · exact .inl (by simp [g])
        · exact .inr (by rw [List.map_append, List.mem_append]; exact .inl g)
/-- breadth-first search finds what iterated deepening finds -/
theorem bfs_eq {s : Nat} (hs : s < n) : bfs n st tg (n + 1) [([], s)] ((List.replicate n false).set s true) = extL n st tg s n 0 := by
  refine bfs_ext (k := 0) (j := 0) (F := [([], s)]) (D := []) (n + 1) ?_ (.inr (by simp)) List.nodup_nil (by simp)
  refine ⟨by simp [walks], Nat.zero_le _, by simp [firsts], by simp, fun v hv => ?_, by simp, by simp, by simp, by simp, ?_, by simp⟩
  · simp only [List.getD_eq_getElem?_getD, List.getElem?_set, List.length_replicate, List.getElem?_replicate]
    by_cases e : s = v
    · subst e; simp [hs]
    · have : v ≠ s := fun g => e g.symm
      simp [e, hv, this]
  · intro r hr
    rw [List.mem_singleton] at hr; subst hr
    exact ⟨by simp, fun v hv => by simp at hv; omega, by simp⟩
end
end Go.Proofs.YtnlohknlchgfgaaGreat
/- The reference's Route. -/
namespace Go.Proofs.YtnlohknlchgfgaaGreat
open Go.RowKit Go.Lib Go.Shelf
def stL (L : List Cf) (i k : Nat) : Bool := stC (cat L i) (cat L k)
def RetX (w : World) (r : Option (List Nat)) (e : Ending) (w' : World) : Prop := ∃ v, e = .returned (.tuple #[v, .bool r.isSome]) ∧ Keeps w w' ∧ ∀ p, r = some p → Own 3 1 w w' v p.length (il p)
/-- the search behind a number of successors -/
def gFrom (n : Nat) (P : Nat → Bool) (F : Nat → Option (List Nat)) (i : Nat) : Option (List Nat) := (((List.range n).drop i).filter P).findSome? F
theorem gFrom_step {n : Nat} {P : Nat → Bool} {F : Nat → Option (List Nat)} {i : Nat} (h : i < n) : gFrom n P F i = if P i = true then (match F i with | some r => some r | none => gFrom n P F (i + 1)) else gFrom n P F (i + 1) := by
  unfold gFrom
  have e : (List.range n).drop i = i :: (List.range n).drop (i + 1) := by
    rw [List.drop_eq_getElem_cons (by simpa using h)]; simp
  rw [e, List.filter_cons]
  split
  · rw [List.findSome?_cons]
    cases F i <;> rfl
  · rfl
theorem gFrom_end {n : Nat} {P : Nat → Bool} {F : Nat → Option (List Nat)} {i : Nat} (h : ¬ i < n) : gFrom n P F i = none := by
  unfold gFrom
  rw [List.drop_eq_nil_iff.2 (by simpa using h)]; rfl
theorem extR_g (n : Nat) (st : Nat → Nat → Bool) (tg k u : Nat) : extR n st tg (k + 1) u = gFrom n (fun i => i != u && st u i) (fun i => (extR n st tg k i).map fun p => u :: p) 0 := rfl
theorem walk_len_ext {n : Nat} {st : Nat → Nat → Bool} {tg : Nat} : ∀ {k i : Nat} {p : List Nat}, extR n st tg k i = some p → p.length = k + 1
  | k, i, p, h => by
    rw [ext_walks] at h
    cases hf : (walks n st k i).find? fun r => r.2 == tg with
    | none => rw [hf] at h; cases h
    | some r =>
      rw [hf] at h
      cases h
      have hm := List.mem_of_find?_eq_some hf
      rw [List.length_append, walk_len k i r hm]
      rfl
set_option maxRecDepth 20000 in
set_option maxHeartbeats 8000000 in
theorem rext_any (a : Option Addr) (n c : Nat) (l : List CA) (tg : Nat) : ∀ (k u : Nat) (w : World), u < n → k ≤ 1000 → Rd w a n c 6 (gl l) → RdL w l →
    Calls Tryz.prog 52 #[.slice a n c, .int .i64 u, .int .i64 tg, .int .i64 k] w fun e w' => RetX w (extR n (stL (l.map (·.c))) tg k u) e w'
  | 0, u, w, hu, _, h, hl => by
    have K := (Keeps.refl w).alloc (.cells #[.int .i64 (u : Int)] 3)
    have hO := Own.made (e := 3) (sz := 1) (Keeps.refl w) (il [u]) 1 (by decide) rfl
    have HO := Lib.hid hO; have HK := Lib.hid K
    clear hO K h hl hu
    by_cases he : u = tg
    · have hb : ((u : Int) == (tg : Int)) = true := by simp [he]
      have hx : extR n (stL (l.map (·.c))) tg 0 u = some [u] := by unfold extR; rw [if_pos he]
      rw [hx]
      clear hx he
      go_enter Tryz.func52, Tryz.ntmps52
      go_wp2_with fail
      go_ret2
      exact ⟨_, rfl, HK.out, fun p hp => by cases hp; exact HO.out⟩
    · have hb : ((u : Int) == (tg : Int)) = false := by simp; omega
      have hx : extR n (stL (l.map (·.c))) tg 0 u = none := by unfold extR; rw [if_neg he]
      rw [hx]
      clear hx he
      go_enter Tryz.func52, Tryz.ntmps52
      go_wp2_with fail
      go_ret2
      exact ⟨_, rfl, HK.out, fun p hp => by cases hp⟩
  | k + 1, u, w, hu, hk, h, hl => by
    have IH := fun (i : Nat) (W : World) (hi : i < n) (K : Keeps w W) => rext_any a n c l tg k i W hi (by omega) (h.keep K) (hl.keep K)
    have L1 := Lib.hid (gl_rdlen h)
    have s1 := h.small
    have ha := h.isSome (by omega)
    rw [extR_g]
    have HI := Lib.hid IH; have HR := Lib.hid h; have HL := Lib.hid hl
    clear IH h hl
    rw [show ((k + 1 : Nat) : Int) = (k : Int) + 1 by omega]
    have hk0 : ((k : Int) + 1 == 0) = false := by simp; omega
    have hk1 : IntKind.i64.wrap (k : Int) = (k : Int) := IntWalk.i64_in _ (by omega)
    go_enter Tryz.func52, Tryz.ntmps52
    go_wp2_with fail
    go_loopw [10] (fun v wr => ∃ i : Nat, i ≤ n ∧ v = .int .i64 i ∧ Keeps w wr ∧ Hid (gFrom n (fun i => i != u && stL (l.map (·.c)) u i) (fun i => (extR n (stL (l.map (·.c))) tg k i).map fun p => u :: p) 0 = gFrom n (fun i => i != u && stL (l.map (·.c)) u i) (fun i => (extR n (stL (l.map (·.c))) tg k i).map fun p => u :: p) i)) (fun v _ => n - (RowKit.intOf v).toNat)
    case atStart => exact ⟨0, Nat.zero_le _, rfl, Keeps.refl _, rfl⟩
    case round =>
      obtain ⟨i, hi, rfl, K1, HG⟩ := hrel
      by_cases hlt : i < n
      · have hst := gFrom_step (n := n) (P := fun i => i != u && stL (l.map (·.c)) u i) (F := fun i => (extR n (stL (l.map (·.c))) tg k i).map fun p => u :: p) hlt
        have HST := Lib.hid hst; clear hst
        by_cases he : i = u
        · have hb : ((i : Int) == (u : Int)) = true := by simp [he]
          have HE := Lib.hid he; clear he
          go_wp2_with fail
          have J : Keeps wr wr.drew := (Keeps.refl wr).drew
          refine wp_region_held_drew (S := (fun w' => True)) (by kernel_rfl) ?_ (fun hHeld => ?_)
          · trivial
          generalize wr.drew = V0 at *
          refine wpAnyH_take (i := 0) (oi := ⟨_, _, _, _, _, _⟩) (v := ?_) rfl (by kernel_rfl) (by kernel_rfl) (by kernel_rfl) (fun _ _ _ h => h) (Or.inl ⟨by rfl, ?_⟩) (by assumption) ?_
          rotate_left 1
          · intro w hSw; (try dsimp only at hSw); go_simp <;> with_reducible rfl
          (try simp only [Act.put]); (try simp only [List.setIfInBounds_toArray]); (try simp only [List.set_cons_succ]); (try simp only [List.set_cons_zero])
          refine wpAnyH_take (i := 1) (oi := ⟨_, _, _, _, _, _⟩) (v := ?_) rfl (by kernel_rfl) (by kernel_rfl) (by kernel_rfl) (fun _ _ _ h => h) (Or.inl ⟨by rfl, ?_⟩) (by assumption) ?_
          rotate_left 1
          · intro w hSw; (try dsimp only at hSw); go_simp <;> with_reducible rfl
          (try simp only [Act.put]); (try simp only [List.setIfInBounds_toArray]); (try simp only [List.set_cons_succ]); (try simp only [List.set_cons_zero])
          refine wpAnyH_take (i := 2) (oi := ⟨_, _, _, _, _, _⟩) (v := ?_) rfl (by kernel_rfl) (by kernel_rfl) (by kernel_rfl) (fun _ _ _ h => h) (Or.inl ⟨by rfl, ?_⟩) (by assumption) ?_
          rotate_left 1
          · intro w hSw; (try dsimp only at hSw); go_simp <;> with_reducible rfl
          (try simp only [Act.put]); (try simp only [List.setIfInBounds_toArray]); (try simp only [List.set_cons_succ]); (try simp only [List.set_cons_zero])
          refine wpAnyH_take (i := 3) (oi := ⟨_, _, _, _, _, _⟩) (v := ?_) rfl (by kernel_rfl) (by kernel_rfl) (by kernel_rfl) (fun _ _ _ h => h) (Or.inl ⟨by rfl, ?_⟩) (by assumption) ?_
          rotate_left 1
          · intro w hSw; (try dsimp only at hSw); go_simp <;> with_reducible rfl
          (try simp only [Act.put]); (try simp only [List.setIfInBounds_toArray]); (try simp only [List.set_cons_succ]); (try simp only [List.set_cons_zero])
          refine wpAnyH_take (i := 4) (oi := ⟨_, _, _, _, _, _⟩) (v := undef) rfl (by kernel_rfl) (by kernel_rfl) (by kernel_rfl) (fun _ _ _ h => h) (Or.inr ⟨by rfl, rfl⟩) (by assumption) ?_
          (try simp only [Act.put]); (try simp only [List.setIfInBounds_toArray]); (try simp only [List.set_cons_succ]); (try simp only [List.set_cons_zero])
          refine wpAnyH_take (i := 5) (oi := ⟨_, _, _, _, _, _⟩) (v := undef) rfl (by kernel_rfl) (by kernel_rfl) (by kernel_rfl) (fun _ _ _ h => h) (Or.inr ⟨by rfl, rfl⟩) (by assumption) ?_
          (try simp only [Act.put]); (try simp only [List.setIfInBounds_toArray]); (try simp only [List.set_cons_succ]); (try simp only [List.set_cons_zero])
          refine wpAnyH_take (i := 6) (oi := ⟨_, _, _, _, _, _⟩) (v := undef) rfl (by kernel_rfl) (by kernel_rfl) (by kernel_rfl) (fun _ _ _ h => h) (Or.inr ⟨by rfl, rfl⟩) (by assumption) ?_
          (try simp only [Act.put]); (try simp only [List.setIfInBounds_toArray]); (try simp only [List.set_cons_succ]); (try simp only [List.set_cons_zero])
          refine wpAnyH_take (i := 7) (oi := ⟨_, _, _, _, _, _⟩) (v := undef) rfl (by kernel_rfl) (by kernel_rfl) (by kernel_rfl) (fun _ _ _ h => h) (Or.inr ⟨by rfl, rfl⟩) (by assumption) ?_
          (try simp only [Act.put]); (try simp only [List.setIfInBounds_toArray]); (try simp only [List.set_cons_succ]); (try simp only [List.set_cons_zero])
          refine wpAnyH_take (i := 8) (oi := ⟨_, _, _, _, _, _⟩) (v := undef) rfl (by kernel_rfl) (by kernel_rfl) (by kernel_rfl) (fun _ _ _ h => h) (Or.inr ⟨by rfl, rfl⟩) (by assumption) ?_
          (try simp only [Act.put]); (try simp only [List.setIfInBounds_toArray]); (try simp only [List.set_cons_succ]); (try simp only [List.set_cons_zero])
          refine wpAnyH_take (i := 9) (oi := ⟨_, _, _, _, _, _⟩) (v := undef) rfl (by kernel_rfl) (by kernel_rfl) (by kernel_rfl) (fun _ _ _ h => h) (Or.inr ⟨by rfl, rfl⟩) (by assumption) ?_
          (try simp only [Act.put]); (try simp only [List.setIfInBounds_toArray]); (try simp only [List.set_cons_succ]); (try simp only [List.set_cons_zero])
          refine wpAnyH_take (i := 10) (oi := ⟨_, _, _, _, _, _⟩) (v := undef) rfl (by kernel_rfl) (by kernel_rfl) (by kernel_rfl) (fun _ _ _ h => h) (Or.inr ⟨by rfl, rfl⟩) (by assumption) ?_
          (try simp only [Act.put]); (try simp only [List.setIfInBounds_toArray]); (try simp only [List.set_cons_succ]); (try simp only [List.set_cons_zero])
          refine wpAnyH_take (i := 11) (oi := ⟨_, _, _, _, _, _⟩) (v := undef) rfl (by kernel_rfl) (by kernel_rfl) (by kernel_rfl) (fun _ _ _ h => h) (Or.inr ⟨by rfl, rfl⟩) (by assumption) ?_
          (try simp only [Act.put]); (try simp only [List.setIfInBounds_toArray]); (try simp only [List.set_cons_succ]); (try simp only [List.set_cons_zero])
          refine wpAnyH_take (i := 12) (oi := ⟨_, _, _, _, _, _⟩) (v := undef) rfl (by kernel_rfl) (by kernel_rfl) (by kernel_rfl) (fun _ _ _ h => h) (Or.inr ⟨by rfl, rfl⟩) (by assumption) ?_
          (try simp only [Act.put]); (try simp only [List.setIfInBounds_toArray]); (try simp only [List.set_cons_succ]); (try simp only [List.set_cons_zero])
          refine wpAnyH_take (i := 13) (oi := ⟨_, _, _, _, _, _⟩) (v := undef) rfl (by kernel_rfl) (by kernel_rfl) (by kernel_rfl) (fun _ _ _ h => h) (Or.inr ⟨by rfl, rfl⟩) (by assumption) ?_
          (try simp only [Act.put]); (try simp only [List.setIfInBounds_toArray]); (try simp only [List.set_cons_succ]); (try simp only [List.set_cons_zero])
          refine wpAnyH_take (i := 14) (oi := ⟨_, _, _, _, _, _⟩) (v := ?_) rfl (by kernel_rfl) (by kernel_rfl) (by kernel_rfl) (fun _ _ _ h => h) (Or.inl ⟨by rfl, ?_⟩) (by assumption) ?_
          rotate_left 1
          · intro w hSw; (try dsimp only at hSw); go_simp <;> with_reducible rfl
          (try simp only [Act.put]); (try simp only [List.setIfInBounds_toArray]); (try simp only [List.set_cons_succ]); (try simp only [List.set_cons_zero])
          refine wpAnyH_done (by kernel_rfl) ?_ _
          go_wp2_with fail
          go_roundw
          case rel => exact ⟨i + 1, by omega, by go_num, K1.trans J, hrfl <| by rw [HG.out, HST.out]; exact if_neg (by simp [HE.out])⟩
          case measure => simp [RowKit.intOf]; omega
        · have hb : ((i : Int) == (u : Int)) = false := by simp; omega
          have hp : ∀ W', Keeps wr W' → (W'.cell? (adr a (u * 6)) = some (.string (gA l u).c.nm) ∧ W'.cell? ⟨(adr a (u * 6)).block, (adr a (u * 6)).off + 1, none⟩ = some (.int .i64 (gA l u).c.kd) ∧ W'.cell? ⟨(adr a (u * 6)).block, (adr a (u * 6)).off + 2, none⟩ = some (.int .u16 (sv (gA l u).c.M)) ∧ W'.cell? ⟨(adr a (u * 6)).block, (adr a (u * 6)).off + 3, none⟩ = some (.slice (gA l u).ar (gA l u).c.R.length (gA l u).cr) ∧ W'.cell? ⟨(adr a (u * 6)).block, (adr a (u * 6)).off + 4, none⟩ = some (.slice (gA l u).aw (gA l u).c.Q.length (gA l u).cw) ∧ W'.cell? ⟨(adr a (u * 6)).block, (adr a (u * 6)).off + 5, none⟩ = some (.slice (gA l u).af (gA l u).c.F.length (gA l u).cf)) ∧ (W'.cell? (adr a (i * 6)) = some (.string (gA l i).c.nm) ∧ W'.cell? ⟨(adr a (i * 6)).block, (adr a (i * 6)).off + 1, none⟩ = some (.int .i64 (gA l i).c.kd) ∧ W'.cell? ⟨(adr a (i * 6)).block, (adr a (i * 6)).off + 2, none⟩ = some (.int .u16 (sv (gA l i).c.M)) ∧ W'.cell? ⟨(adr a (i * 6)).block, (adr a (i * 6)).off + 3, none⟩ = some (.slice (gA l i).ar (gA l i).c.R.length (gA l i).cr) ∧ W'.cell? ⟨(adr a (i * 6)).block, (adr a (i * 6)).off + 4, none⟩ = some (.slice (gA l i).aw (gA l i).c.Q.length (gA l i).cw) ∧ W'.cell? ⟨(adr a (i * 6)).block, (adr a (i * 6)).off + 5, none⟩ = some (.slice (gA l i).af (gA l i).c.F.length (gA l i).cf)) := fun W' J => ⟨gl_at ((HR.out.keep K1).keep J) hu, gl_at ((HR.out.keep K1).keep J) hlt⟩
          have hm1 := gA_mem (l := l) (i := u) (by have := L1.out; omega)
          have hm2 := gA_mem (l := l) (i := i) (by have := L1.out; omega)
          have hcl := fun W (J : Keeps wr W) => rstep_any (gA l u) (gA l i) W (((HL.out _ hm1).keep K1).keep J) (((HL.out _ hm2).keep K1).keep J)
          have hq : stL (l.map (·.c)) u i = stC (gA l u).c (gA l i).c := by unfold stL; rw [cat_map, cat_map]
          obtain ⟨q, hqq⟩ : ∃ q, q = stC (gA l u).c (gA l i).c := ⟨_, rfl⟩
          rw [← hqq] at hcl hq
          unfold vg at hcl
          have HC := Lib.hid hcl; have HP := Lib.hid hp; have HQ := Lib.hid hq; have HE := Lib.hid he
          clear hp hcl hm1 hm2 hq hqq he
          generalize gA l u = xk at *
          generalize gA l i = yk at *
          go_wp2_with fail
          cases q with
          | false =>
            have J : Keeps wr wr.drew := (Keeps.refl wr).drew
            refine wp_region_held_drew (S := (fun w' => (w'.cell? (adr a (u * 6)) = some (.string xk.c.nm) ∧ w'.cell? ⟨(adr a (u * 6)).block, (adr a (u * 6)).off + 1, none⟩ = some (.int .i64 xk.c.kd) ∧ w'.cell? ⟨(adr a (u * 6)).block, (adr a (u * 6)).off + 2, none⟩ = some (.int .u16 (sv xk.c.M)) ∧ w'.cell? ⟨(adr a (u * 6)).block, (adr a (u * 6)).off + 3, none⟩ = some (.slice xk.ar xk.c.R.length xk.cr) ∧ w'.cell? ⟨(adr a (u * 6)).block, (adr a (u * 6)).off + 4, none⟩ = some (.slice xk.aw xk.c.Q.length xk.cw) ∧ w'.cell? ⟨(adr a (u * 6)).block, (adr a (u * 6)).off + 5, none⟩ = some (.slice xk.af xk.c.F.length xk.cf)) ∧ (w'.cell? (adr a (i * 6)) = some (.string yk.c.nm) ∧ w'.cell? ⟨(adr a (i * 6)).block, (adr a (i * 6)).off + 1, none⟩ = some (.int .i64 yk.c.kd) ∧ w'.cell? ⟨(adr a (i * 6)).block, (adr a (i * 6)).off + 2, none⟩ = some (.int .u16 (sv yk.c.M)) ∧ w'.cell? ⟨(adr a (i * 6)).block, (adr a (i * 6)).off + 3, none⟩ = some (.slice yk.ar yk.c.R.length yk.cr) ∧ w'.cell? ⟨(adr a (i * 6)).block, (adr a (i * 6)).off + 4, none⟩ = some (.slice yk.aw yk.c.Q.length yk.cw) ∧ w'.cell? ⟨(adr a (i * 6)).block, (adr a (i * 6)).off + 5, none⟩ = some (.slice yk.af yk.c.F.length yk.cf)))) (by kernel_rfl) ?_ (fun hHeld => ?_)
            · exact HP.out _ J
            generalize wr.drew = V0 at *
            refine wpAnyH_take (i := 0) (oi := ⟨_, _, _, _, _, _⟩) (v := ?_) rfl (by kernel_rfl) (by kernel_rfl) (by kernel_rfl) (fun _ _ _ h => h) (Or.inl ⟨by rfl, ?_⟩) (by assumption) ?_
            rotate_left 1
            · intro w hSw; (try dsimp only at hSw); go_simp <;> with_reducible rfl
            (try simp only [Act.put]); (try simp only [List.setIfInBounds_toArray]); (try simp only [List.set_cons_succ]); (try simp only [List.set_cons_zero])
            refine wpAnyH_take (i := 1) (oi := ⟨_, _, _, _, _, _⟩) (v := ?_) rfl (by kernel_rfl) (by kernel_rfl) (by kernel_rfl) (fun _ _ _ h => h) (Or.inl ⟨by rfl, ?_⟩) (by assumption) ?_
            rotate_left 1
            · intro w hSw; (try dsimp only at hSw); go_simp <;> with_reducible rfl
            (try simp only [Act.put]); (try simp only [List.setIfInBounds_toArray]); (try simp only [List.set_cons_succ]); (try simp only [List.set_cons_zero])
            refine wpAnyH_take (i := 2) (oi := ⟨_, _, _, _, _, _⟩) (v := ?_) rfl (by kernel_rfl) (by kernel_rfl) (by kernel_rfl) (fun _ _ _ h => h) (Or.inl ⟨by rfl, ?_⟩) (by assumption) ?_
            rotate_left 1
            · intro w hSw; (try dsimp only at hSw); go_simp <;> with_reducible rfl
            (try simp only [Act.put]); (try simp only [List.setIfInBounds_toArray]); (try simp only [List.set_cons_succ]); (try simp only [List.set_cons_zero])
            refine wpAnyH_take (i := 3) (oi := ⟨_, _, _, _, _, _⟩) (v := ?_) rfl (by kernel_rfl) (by kernel_rfl) (by kernel_rfl) (fun _ _ _ h => h) (Or.inl ⟨by rfl, ?_⟩) (by assumption) ?_
            rotate_left 1
            · intro w hSw; (try dsimp only at hSw); go_simp <;> with_reducible rfl
            (try simp only [Act.put]); (try simp only [List.setIfInBounds_toArray]); (try simp only [List.set_cons_succ]); (try simp only [List.set_cons_zero])
            refine wpAnyH_take (i := 4) (oi := ⟨_, _, _, _, _, _⟩) (v := ?_) rfl (by kernel_rfl) (by kernel_rfl) (by kernel_rfl) (fun _ _ _ h => h) (Or.inl ⟨by rfl, ?_⟩) (by assumption) ?_
            rotate_left 1
            · intro w hSw; (try dsimp only at hSw); go_simp <;> with_reducible rfl
            (try simp only [Act.put]); (try simp only [List.setIfInBounds_toArray]); (try simp only [List.set_cons_succ]); (try simp only [List.set_cons_zero])
            refine wpAnyH_take (i := 5) (oi := ⟨_, _, _, _, _, _⟩) (v := ?_) rfl (by kernel_rfl) (by kernel_rfl) (by kernel_rfl) (fun _ _ _ h => h) (Or.inl ⟨by rfl, ?_⟩) (by assumption) ?_
            rotate_left 1
            · intro w hSw; (try dsimp only at hSw); go_simp <;> with_reducible rfl
            (try simp only [Act.put]); (try simp only [List.setIfInBounds_toArray]); (try simp only [List.set_cons_succ]); (try simp only [List.set_cons_zero])
            refine wpAnyH_take (i := 6) (oi := ⟨_, _, _, _, _, _⟩) (v := ?_) rfl (by kernel_rfl) (by kernel_rfl) (by kernel_rfl) (fun _ _ _ h => h) (Or.inl ⟨by rfl, ?_⟩) (by assumption) ?_
            rotate_left 1
            · intro w hSw; (try dsimp only at hSw); go_simp <;> with_reducible rfl
            (try simp only [Act.put]); (try simp only [List.setIfInBounds_toArray]); (try simp only [List.set_cons_succ]); (try simp only [List.set_cons_zero])
            refine wpAnyH_take (i := 7) (oi := ⟨_, _, _, _, _, _⟩) (v := ?_) rfl (by kernel_rfl) (by kernel_rfl) (by kernel_rfl) (fun _ _ _ h => h) (Or.inl ⟨by rfl, ?_⟩) (by assumption) ?_
            rotate_left 1
            · intro w hSw; (try dsimp only at hSw); go_simp <;> with_reducible rfl
            (try simp only [Act.put]); (try simp only [List.setIfInBounds_toArray]); (try simp only [List.set_cons_succ]); (try simp only [List.set_cons_zero])
            refine wpAnyH_take (i := 8) (oi := ⟨_, _, _, _, _, _⟩) (v := ?_) rfl (by kernel_rfl) (by kernel_rfl) (by kernel_rfl) (fun _ _ _ h => h) (Or.inl ⟨by rfl, ?_⟩) (by assumption) ?_
            rotate_left 1
            · intro w hSw; (try dsimp only at hSw); go_simp <;> with_reducible rfl
            (try simp only [Act.put]); (try simp only [List.setIfInBounds_toArray]); (try simp only [List.set_cons_succ]); (try simp only [List.set_cons_zero])
            refine wpAnyH_take (i := 9) (oi := ⟨_, _, _, _, _, _⟩) (v := ?_) rfl (by kernel_rfl) (by kernel_rfl) (by kernel_rfl) (fun _ _ _ h => h) (Or.inl ⟨by rfl, ?_⟩) (by assumption) ?_
            rotate_left 1
            · intro w hSw; (try dsimp only at hSw); go_simp <;> with_reducible rfl
            (try simp only [Act.put]); (try simp only [List.setIfInBounds_toArray]); (try simp only [List.set_cons_succ]); (try simp only [List.set_cons_zero])
            refine wpAnyH_take (i := 10) (oi := ⟨_, _, _, _, _, _⟩) (v := ?_) rfl (by kernel_rfl) (by kernel_rfl) (by kernel_rfl) (fun _ _ _ h => h) (Or.inl ⟨by rfl, ?_⟩) (by assumption) ?_
            rotate_left 1
            · intro w hSw; (try dsimp only at hSw); go_simp <;> with_reducible rfl
            (try simp only [Act.put]); (try simp only [List.setIfInBounds_toArray]); (try simp only [List.set_cons_succ]); (try simp only [List.set_cons_zero])
            refine wpAnyH_take (i := 11) (oi := ⟨_, _, _, _, _, _⟩) (v := ?_) rfl (by kernel_rfl) (by kernel_rfl) (by kernel_rfl) (fun _ _ _ h => h) (Or.inl ⟨by rfl, ?_⟩) (by assumption) ?_
            rotate_left 1
            · intro w hSw; (try dsimp only at hSw); go_simp <;> with_reducible rfl
            (try simp only [Act.put]); (try simp only [List.setIfInBounds_toArray]); (try simp only [List.set_cons_succ]); (try simp only [List.set_cons_zero])
            refine wpAnyH_ready (rs := [12]) (by kernel_rfl) (by simp) ?_
            refine AllReadyH.cons (o := ⟨_, _, _, _, _, _⟩) rfl (fun K hK => ?_) AllReadyH.nil
            go_simp
            refine (HC.out _ J).mono ?_
            rintro e V1 ⟨rfl, K9⟩
            replace J := J.trans K9
            clear K9
            refine hK.out _ _ ?_ (fun hHeld => ?_)
            · exact HP.out _ J
            clear hK K
            (try simp only [Act.put]); (try simp only [List.setIfInBounds_toArray]); (try simp only [List.set_cons_succ]); (try simp only [List.set_cons_zero])
            refine wpAnyH_take (i := 13) (oi := ⟨_, _, _, _, _, _⟩) (v := ?_) rfl (by kernel_rfl) (by kernel_rfl) (by kernel_rfl) (fun _ _ _ h => h) (Or.inl ⟨by rfl, ?_⟩) (by assumption) ?_
            rotate_left 1
            · intro w hSw; (try dsimp only at hSw); go_simp <;> with_reducible rfl
            (try simp only [Act.put]); (try simp only [List.setIfInBounds_toArray]); (try simp only [List.set_cons_succ]); (try simp only [List.set_cons_zero])
            refine wpAnyH_take (i := 14) (oi := ⟨_, _, _, _, _, _⟩) (v := ?_) rfl (by kernel_rfl) (by kernel_rfl) (by kernel_rfl) (fun _ _ _ h => h) (Or.inl ⟨by rfl, ?_⟩) (by assumption) ?_
            rotate_left 1
            · intro w hSw; (try dsimp only at hSw); go_simp <;> with_reducible rfl
            (try simp only [Act.put]); (try simp only [List.setIfInBounds_toArray]); (try simp only [List.set_cons_succ]); (try simp only [List.set_cons_zero])
            refine wpAnyH_done (by kernel_rfl) ?_ _
            go_wp2_with fail
            go_roundw
            case rel => exact ⟨i + 1, by omega, by go_num, K1.trans J, hrfl <| by rw [HG.out, HST.out]; exact if_neg (by simp [HQ.out])⟩
            case measure => simp [RowKit.intOf]; omega
          | true =>
            have J : Keeps wr wr.drew := (Keeps.refl wr).drew
            refine wp_region_held_drew (S := (fun w' => (w'.cell? (adr a (u * 6)) = some (.string xk.c.nm) ∧ w'.cell? ⟨(adr a (u * 6)).block, (adr a (u * 6)).off + 1, none⟩ = some (.int .i64 xk.c.kd) ∧ w'.cell? ⟨(adr a (u * 6)).block, (adr a (u * 6)).off + 2, none⟩ = some (.int .u16 (sv xk.c.M)) ∧ w'.cell? ⟨(adr a (u * 6)).block, (adr a (u * 6)).off + 3, none⟩ = some (.slice xk.ar xk.c.R.length xk.cr) ∧ w'.cell? ⟨(adr a (u * 6)).block, (adr a (u * 6)).off + 4, none⟩ = some (.slice xk.aw xk.c.Q.length xk.cw) ∧ w'.cell? ⟨(adr a (u * 6)).block, (adr a (u * 6)).off + 5, none⟩ = some (.slice xk.af xk.c.F.length xk.cf)) ∧ (w'.cell? (adr a (i * 6)) = some (.string yk.c.nm) ∧ w'.cell? ⟨(adr a (i * 6)).block, (adr a (i * 6)).off + 1, none⟩ = some (.int .i64 yk.c.kd) ∧ w'.cell? ⟨(adr a (i * 6)).block, (adr a (i * 6)).off + 2, none⟩ = some (.int .u16 (sv yk.c.M)) ∧ w'.cell? ⟨(adr a (i * 6)).block, (adr a (i * 6)).off + 3, none⟩ = some (.slice yk.ar yk.c.R.length yk.cr) ∧ w'.cell? ⟨(adr a (i * 6)).block, (adr a (i * 6)).off + 4, none⟩ = some (.slice yk.aw yk.c.Q.length yk.cw) ∧ w'.cell? ⟨(adr a (i * 6)).block, (adr a (i * 6)).off + 5, none⟩ = some (.slice yk.af yk.c.F.length yk.cf)))) (by kernel_rfl) ?_ (fun hHeld => ?_)
            · exact HP.out _ J
            generalize wr.drew = V0 at *
            refine wpAnyH_take (i := 0) (oi := ⟨_, _, _, _, _, _⟩) (v := ?_) rfl (by kernel_rfl) (by kernel_rfl) (by kernel_rfl) (fun _ _ _ h => h) (Or.inl ⟨by rfl, ?_⟩) (by assumption) ?_
            rotate_left 1
            · intro w hSw; (try dsimp only at hSw); go_simp <;> with_reducible rfl
            (try simp only [Act.put]); (try simp only [List.setIfInBounds_toArray]); (try simp only [List.set_cons_succ]); (try simp only [List.set_cons_zero])
            refine wpAnyH_take (i := 1) (oi := ⟨_, _, _, _, _, _⟩) (v := ?_) rfl (by kernel_rfl) (by kernel_rfl) (by kernel_rfl) (fun _ _ _ h => h) (Or.inl ⟨by rfl, ?_⟩) (by assumption) ?_
            rotate_left 1
            · intro w hSw; (try dsimp only at hSw); go_simp <;> with_reducible rfl
            (try simp only [Act.put]); (try simp only [List.setIfInBounds_toArray]); (try simp only [List.set_cons_succ]); (try simp only [List.set_cons_zero])
            refine wpAnyH_take (i := 2) (oi := ⟨_, _, _, _, _, _⟩) (v := ?_) rfl (by kernel_rfl) (by kernel_rfl) (by kernel_rfl) (fun _ _ _ h => h) (Or.inl ⟨by rfl, ?_⟩) (by assumption) ?_
            rotate_left 1
            · intro w hSw; (try dsimp only at hSw); go_simp <;> with_reducible rfl
            (try simp only [Act.put]); (try simp only [List.setIfInBounds_toArray]); (try simp only [List.set_cons_succ]); (try simp only [List.set_cons_zero])
            refine wpAnyH_take (i := 3) (oi := ⟨_, _, _, _, _, _⟩) (v := ?_) rfl (by kernel_rfl) (by kernel_rfl) (by kernel_rfl) (fun _ _ _ h => h) (Or.inl ⟨by rfl, ?_⟩) (by assumption) ?_
            rotate_left 1
            · intro w hSw; (try dsimp only at hSw); go_simp <;> with_reducible rfl
            (try simp only [Act.put]); (try simp only [List.setIfInBounds_toArray]); (try simp only [List.set_cons_succ]); (try simp only [List.set_cons_zero])
            refine wpAnyH_take (i := 4) (oi := ⟨_, _, _, _, _, _⟩) (v := ?_) rfl (by kernel_rfl) (by kernel_rfl) (by kernel_rfl) (fun _ _ _ h => h) (Or.inl ⟨by rfl, ?_⟩) (by assumption) ?_
            rotate_left 1
            · intro w hSw; (try dsimp only at hSw); go_simp <;> with_reducible rfl
            (try simp only [Act.put]); (try simp only [List.setIfInBounds_toArray]); (try simp only [List.set_cons_succ]); (try simp only [List.set_cons_zero])
            refine wpAnyH_take (i := 5) (oi := ⟨_, _, _, _, _, _⟩) (v := ?_) rfl (by kernel_rfl) (by kernel_rfl) (by kernel_rfl) (fun _ _ _ h => h) (Or.inl ⟨by rfl, ?_⟩) (by assumption) ?_
            rotate_left 1
            · intro w hSw; (try dsimp only at hSw); go_simp <;> with_reducible rfl
            (try simp only [Act.put]); (try simp only [List.setIfInBounds_toArray]); (try simp only [List.set_cons_succ]); (try simp only [List.set_cons_zero])
            refine wpAnyH_take (i := 6) (oi := ⟨_, _, _, _, _, _⟩) (v := ?_) rfl (by kernel_rfl) (by kernel_rfl) (by kernel_rfl) (fun _ _ _ h => h) (Or.inl ⟨by rfl, ?_⟩) (by assumption) ?_
            rotate_left 1
            · intro w hSw; (try dsimp only at hSw); go_simp <;> with_reducible rfl
            (try simp only [Act.put]); (try simp only [List.setIfInBounds_toArray]); (try simp only [List.set_cons_succ]); (try simp only [List.set_cons_zero])
            refine wpAnyH_take (i := 7) (oi := ⟨_, _, _, _, _, _⟩) (v := ?_) rfl (by kernel_rfl) (by kernel_rfl) (by kernel_rfl) (fun _ _ _ h => h) (Or.inl ⟨by rfl, ?_⟩) (by assumption) ?_
            rotate_left 1
            · intro w hSw; (try dsimp only at hSw); go_simp <;> with_reducible rfl
            (try simp only [Act.put]); (try simp only [List.setIfInBounds_toArray]); (try simp only [List.set_cons_succ]); (try simp only [List.set_cons_zero])
            refine wpAnyH_take (i := 8) (oi := ⟨_, _, _, _, _, _⟩) (v := ?_) rfl (by kernel_rfl) (by kernel_rfl) (by kernel_rfl) (fun _ _ _ h => h) (Or.inl ⟨by rfl, ?_⟩) (by assumption) ?_
            rotate_left 1
            · intro w hSw; (try dsimp only at hSw); go_simp <;> with_reducible rfl
            (try simp only [Act.put]); (try simp only [List.setIfInBounds_toArray]); (try simp only [List.set_cons_succ]); (try simp only [List.set_cons_zero])
            refine wpAnyH_take (i := 9) (oi := ⟨_, _, _, _, _, _⟩) (v := ?_) rfl (by kernel_rfl) (by kernel_rfl) (by kernel_rfl) (fun _ _ _ h => h) (Or.inl ⟨by rfl, ?_⟩) (by assumption) ?_
            rotate_left 1
            · intro w hSw; (try dsimp only at hSw); go_simp <;> with_reducible rfl
            (try simp only [Act.put]); (try simp only [List.setIfInBounds_toArray]); (try simp only [List.set_cons_succ]); (try simp only [List.set_cons_zero])
            refine wpAnyH_take (i := 10) (oi := ⟨_, _, _, _, _, _⟩) (v := ?_) rfl (by kernel_rfl) (by kernel_rfl) (by kernel_rfl) (fun _ _ _ h => h) (Or.inl ⟨by rfl, ?_⟩) (by assumption) ?_
            rotate_left 1
            · intro w hSw; (try dsimp only at hSw); go_simp <;> with_reducible rfl
            (try simp only [Act.put]); (try simp only [List.setIfInBounds_toArray]); (try simp only [List.set_cons_succ]); (try simp only [List.set_cons_zero])
            refine wpAnyH_take (i := 11) (oi := ⟨_, _, _, _, _, _⟩) (v := ?_) rfl (by kernel_rfl) (by kernel_rfl) (by kernel_rfl) (fun _ _ _ h => h) (Or.inl ⟨by rfl, ?_⟩) (by assumption) ?_
            rotate_left 1
            · intro w hSw; (try dsimp only at hSw); go_simp <;> with_reducible rfl
            (try simp only [Act.put]); (try simp only [List.setIfInBounds_toArray]); (try simp only [List.set_cons_succ]); (try simp only [List.set_cons_zero])
            refine wpAnyH_ready (rs := [12]) (by kernel_rfl) (by simp) ?_
            refine AllReadyH.cons (o := ⟨_, _, _, _, _, _⟩) rfl (fun K hK => ?_) AllReadyH.nil
            go_simp
            refine (HC.out _ J).mono ?_
            rintro e V1 ⟨rfl, K9⟩
            replace J := J.trans K9
            clear K9
            refine hK.out _ _ ?_ (fun hHeld => ?_)
            · exact HP.out _ J
            clear hK K
            (try simp only [Act.put]); (try simp only [List.setIfInBounds_toArray]); (try simp only [List.set_cons_succ]); (try simp only [List.set_cons_zero])
            refine wpAnyH_take (i := 13) (oi := ⟨_, _, _, _, _, _⟩) (v := ?_) rfl (by kernel_rfl) (by kernel_rfl) (by kernel_rfl) (fun _ _ _ h => h) (Or.inl ⟨by rfl, ?_⟩) (by assumption) ?_
            rotate_left 1
            · intro w hSw; (try dsimp only at hSw); go_simp <;> with_reducible rfl
            (try simp only [Act.put]); (try simp only [List.setIfInBounds_toArray]); (try simp only [List.set_cons_succ]); (try simp only [List.set_cons_zero])
            refine wpAnyH_take (i := 14) (oi := ⟨_, _, _, _, _, _⟩) (v := ?_) rfl (by kernel_rfl) (by kernel_rfl) (by kernel_rfl) (fun _ _ _ h => h) (Or.inl ⟨by rfl, ?_⟩) (by assumption) ?_
            rotate_left 1
            · intro w hSw; (try dsimp only at hSw); go_simp <;> with_reducible rfl
            (try simp only [Act.put]); (try simp only [List.setIfInBounds_toArray]); (try simp only [List.set_cons_succ]); (try simp only [List.set_cons_zero])
            refine wpAnyH_done (by kernel_rfl) ?_ _
            go_wp2_with fail
            refine (HI.out i _ hlt (K1.trans J)).mono ?_
            rintro e w4 ⟨v, rfl, K4, hO4⟩
            have hst2 := HST.out
            rw [if_pos (by simp [HQ.out, HE.out])] at hst2
            have HST2 := Lib.hid hst2; have HO4 := Lib.hid hO4
            clear hst2 hO4 HST
            cases hr : extR n (stL (l.map (·.c))) tg k i with
            | none =>
              have HRR := Lib.hid hr; clear hr
              simp only [Option.isSome_none]
              go_wp2_with fail
              go_roundw
              case rel => exact ⟨i + 1, by omega, by go_num, (K1.trans J).trans K4, hrfl <| by rw [HG.out, HST2.out, HRR.out]; rfl⟩
              case measure => simp [RowKit.intOf]; omega
            | some p =>
              have ho := HO4.out p hr
              have HRR := Lib.hid hr; clear hr HO4
              simp only [Option.isSome_some]
              obtain ⟨ap, cp, rfl, rp⟩ := ho.rd
              have hlen := rp.len
              have hpl : p.length ≤ 1001 := by
                have := walk_len_ext HRR.out
                omega
              have KA := (Keeps.refl w4).alloc (.cells #[.int .i64 (u : Int)] 3)
              have hm := Own.made (e := 3) (sz := 1) (((K1.trans J).trans K4)) (il [u]) 1 (by decide) rfl
              have HM := Lib.hid hm; have HRP := Lib.hid (rp.keep KA)
              clear hm ho rp hlen
              go_wp2_with (at_builtin; refine wp_app tyI rfl _ _ rfl HM.out rfl rfl HRP.out (il_oneCell p) (by omega) ?_)
              intro v' w5 hO5 hgr
              have HO5 := Lib.hid hO5
              clear hO5 hgr
              go_wp2_with fail
              go_ret2
              refine ⟨v', ?_, HO5.out.2, fun p' hp' => ?_⟩
              · rw [HG.out, HST2.out, HRR.out]; rfl
              · rw [HG.out, HST2.out, HRR.out] at hp'
                cases hp'
                have := HO5.out
                rw [List.length_cons, Nat.add_comm]
                exact this
      · go_wp2_with fail
        go_ret2
        exact ⟨_, by rw [HG.out, gFrom_end hlt]; rfl, K1, fun p hp => by rw [HG.out, gFrom_end hlt] at hp; cases hp⟩
end Go.Proofs.YtnlohknlchgfgaaGreat
/- The reference's Route and Numbers. -/
namespace Go.Proofs.YtnlohknlchgfgaaGreat
open Go.RowKit Go.Lib Go.Shelf
def inR (n : Nat) (f t : Int) : Prop := 0 ≤ f ∧ f < n ∧ 0 ≤ t ∧ t < n
instance (n : Nat) (f t : Int) : Decidable (inR n f t) := by unfold inR; exact inferInstance
def routeS (L : List Cf) (f t : Int) : List Nat × Int :=
  if ¬ inR L.length f t then ([], 7) else if vldC L ≠ 0 then ([], vldC L) else match extL L.length (stL L) t.toNat f.toNat L.length 0 with | some r => (r, 0) | none => ([], 14)
def RetRt (w : World) (r : List Nat × Int) (e : Ending) (w' : World) : Prop := ∃ v, e = .returned (.tuple #[v, .int .i64 r.2]) ∧ Own 3 1 w w' v r.1.length (il r.1)
theorem routeS_out {L : List Cf} {f t : Int} (h : ¬ inR L.length f t) : routeS L f t = ([], 7) := by unfold routeS; rw [if_pos h]
theorem routeS_bad {L : List Cf} {f t : Int} (h : inR L.length f t) (hv : vldC L ≠ 0) : routeS L f t = ([], vldC L) := by unfold routeS; rw [if_neg (by simpa using h), if_pos hv]
theorem routeS_in {L : List Cf} {f t : Int} (h : inR L.length f t) (hv : vldC L = 0) : routeS L f t = match extL L.length (stL L) t.toNat f.toNat L.length 0 with | some r => (r, 0) | none => ([], 14) := by
  unfold routeS; rw [if_neg (by simpa using h), if_neg (by simp [hv])]
theorem extL_succ (n : Nat) (st : Nat → Nat → Bool) (tg s c k : Nat) : extL n st tg s (c + 1) k = match extR n st tg k s with | some r => some r | none => extL n st tg s c (k + 1) := by
  first | rfl | (rw [extL]; done) | (rw [extL]; cases extR n st tg k s <;> rfl)
theorem vldC_drop' {l : List Cf} {k : Nat} (h : k < l.length) : vldC (l.drop k) = if cvf (cat l k) ≠ 0 then cvf (cat l k) else vldC (l.drop (k + 1)) := by
  rw [show l.drop k = cat l k :: l.drop (k + 1) from getD_dropE l k cf00 h, vldC]
theorem vldC_end' {l : List Cf} {k : Nat} (h : ¬ k < l.length) : vldC (l.drop k) = 0 := by
  rw [List.drop_eq_nil_iff.2 (by omega)]; rfl
set_option maxRecDepth 20000 in
set_option maxHeartbeats 8000000 in
theorem rroute_any (a : Option Addr) (n c : Nat) (l : List CA) (f t : Int) (w : World) (h : Rd w a n c 6 (gl l)) (hl : RdL w l) (hn : n ≤ 1000) :
    Calls Tryz.prog 22 #[.slice a n c, .int .i64 f, .int .i64 t] w fun e w' => RetRt w (routeS (l.map (·.c)) f t) e w' := by
  have s1 := h.small
  have L1 := Lib.hid (gl_rdlen h)
  by_cases hin : inR n f t
  · obtain ⟨f0, f1, t0, t1⟩ := hin
    obtain ⟨fn, rfl⟩ : ∃ k : Nat, f = (k : Int) := ⟨f.toNat, by omega⟩
    obtain ⟨tn, rfl⟩ : ∃ k : Nat, t = (k : Int) := ⟨t.toNat, by omega⟩
    have hin : inR (l.map (·.c)).length (fn : Int) (tn : Int) := by rw [List.length_map, L1.out]; exact ⟨f0, f1, t0, t1⟩
    have HIN := Lib.hid hin
    have hfn : fn < n := by omega
    have HR := Lib.hid h; have HL := Lib.hid hl
    have ha := h.isSome (by omega)
    have q1 : ¬ (fn : Int) < 0 := by omega
    have q2 : ¬ (n : Int) ≤ (fn : Int) := by omega
    have q3 : ¬ (tn : Int) < 0 := by omega
    have q4 : ¬ (n : Int) ≤ (tn : Int) := by omega
    clear h hl hin f0 f1 t0 t1
    go_enter Tryz.func22, Tryz.ntmps22
    go_wp2_with fail
    go_loopw [8] (fun v wr => ∃ k : Nat, k ≤ n ∧ v = .int .i64 k ∧ Keeps w wr ∧ Hid (vldC (l.map (·.c)) = vldC ((l.map (·.c)).drop k))) (fun v _ => n - (RowKit.intOf v).toNat)
    case atStart => exact ⟨0, Nat.zero_le _, rfl, Keeps.refl _, rfl⟩
    case round =>
      obtain ⟨k, hk, rfl, K1, HI⟩ := hrel
      by_cases hlt : k < n
      · obtain ⟨g0, g1, g2, g3, g4, g5⟩ := gl_at (HR.out.keep K1) hlt
        have hmem := gA_mem (l := l) (i := k) (by have := L1.out; omega)
        have hcall := rvalidG_any (gA l k) wr ((HL.out _ hmem).keep K1)
        have hvd := vldC_drop' (l := l.map (·.c)) (k := k) (by rw [List.length_map]; have := L1.out; omega)
        rw [cat_map l k] at hvd
        unfold vg at hcall
        have HC := Lib.hid hcall; have HVD := Lib.hid hvd
        clear hcall hmem hvd
        generalize gA l k = x at *
        have hz : ∃ z, z = cvf x.c := ⟨_, rfl⟩
        obtain ⟨z, hz⟩ := hz
        rw [← hz] at HC HVD
        clear hz
        go_wp2_with fail
        refine HC.out.mono ?_
        rintro e w2 ⟨rfl, K2⟩
        clear g0 g1 g2 g3 g4 g5 HC
        rcases (Decidable.em (z = 0)).symm with he | he
        · have hb : (z != 0) = true := by simpa using he
          have HE := Lib.hid he
          clear he
          go_wp2_with fail
          go_ret2
          have e0 : vldC (l.map (·.c)) = z := by rw [HI.out, HVD.out, if_pos HE.out]
          have e1 := routeS_bad HIN.out (by rw [e0]; exact HE.out)
          exact ⟨_, by rw [e1, e0]; rfl, by rw [e1]; exact Own.nil _ _ (K1.trans K2)⟩
        · subst he
          go_wp2_with fail
          go_roundw
          case rel => exact ⟨k + 1, by omega, by go_num, K1.trans K2, hrfl <| by rw [HI.out, HVD.out, if_neg (by decide)]⟩
          case measure => simp [RowKit.intOf]; omega
      · have HQ : Hid (vldC (l.map (·.c)) = 0) := by rw [HI.out, vldC_end' (by rw [List.length_map]; have := L1.out; omega)]; exact rfl
        have HS : Hid (routeS (l.map (·.c)) fn tn = match extL n (stL (l.map (·.c))) tn fn n 0 with | some r => (r, 0) | none => ([], 14)) := by
          have := routeS_in HIN.out HQ.out
          rw [List.length_map, L1.out, Int.toNat_natCast, Int.toNat_natCast] at this
          exact this
        clear HI hk
        go_wp2_with fail
        go_loopw [10] (fun v wx => ∃ k : Nat, k ≤ n ∧ v = .int .i64 k ∧ Keeps wr wx ∧ Hid (extL n (stL (l.map (·.c))) tn fn n 0 = extL n (stL (l.map (·.c))) tn fn (n - k) k)) (fun v _ => n - (RowKit.intOf v).toNat)
        case atStart => exact ⟨0, Nat.zero_le _, rfl, Keeps.refl _, rfl⟩
        case round =>
          obtain ⟨m, hm, rfl, K2, HI⟩ := hrel
          by_cases hlt2 : m < n
          · have hc := rext_any a n c l tn m fn _ hfn (by omega) (HR.out.keep (K1.trans K2)) (HL.out.keep (K1.trans K2))
            have hst : extL n (stL (l.map (·.c))) tn fn (n - m) m = match extR n (stL (l.map (·.c))) tn m fn with | some r => some r | none => extL n (stL (l.map (·.c))) tn fn (n - (m + 1)) (m + 1) := by
              have e : n - m = (n - (m + 1)) + 1 := by omega
              rw [e]
              exact extL_succ _ _ _ _ _ _
            have HC := Lib.hid hc; have HST := Lib.hid hst
            clear hc hst
            go_wp2_with fail
            refine HC.out.mono ?_
            rintro e w4 ⟨v, rfl, K4, hO4⟩
            have HO4 := Lib.hid hO4
            clear hO4 HC
            cases hr : extR n (stL (l.map (·.c))) tn m fn with
            | none =>
              have HRR := Lib.hid hr; clear hr
              simp only [Option.isSome_none]
              go_wp2_with fail
              go_roundw
              case rel => exact ⟨m + 1, by omega, by go_num, K2.trans K4, hrfl <| by rw [HI.out, HST.out, HRR.out]⟩
              case measure => simp [RowKit.intOf]; omega
            | some p =>
              have ho := HO4.out p hr
              have HRR := Lib.hid hr; have HO := Lib.hid (ho.since (K1.trans K2)); clear hr HO4 ho
              simp only [Option.isSome_some]
              go_wp2_with fail
              go_ret2
              have e1 : routeS (l.map (·.c)) fn tn = (p, 0) := by rw [HS.out, HI.out, HST.out, HRR.out]
              exact ⟨_, by rw [e1]; rfl, by rw [e1]; exact HO.out⟩
          · go_wp2_with fail
            go_ret2
            have e1 : routeS (l.map (·.c)) fn tn = ([], 14) := by rw [HS.out, HI.out, show n - m = 0 by omega]; rfl
            exact ⟨_, by rw [e1]; rfl, by rw [e1]; exact Own.nil _ _ (K1.trans K2)⟩
  · have HO : Hid (routeS (l.map (·.c)) f t = ([], 7)) := routeS_out (by rw [List.length_map, L1.out]; exact hin)
    have hcs : f < 0 ∨ (¬ f < 0 ∧ (n : Int) ≤ f) ∨ (¬ f < 0 ∧ ¬ (n : Int) ≤ f ∧ t < 0) ∨ (¬ f < 0 ∧ ¬ (n : Int) ≤ f ∧ ¬ t < 0 ∧ (n : Int) ≤ t) := by unfold inR at hin; omega
    clear hin h hl
    rcases hcs with h1 | ⟨h1, h2⟩ | ⟨h1, h2, h3⟩ | ⟨h1, h2, h3, h4⟩
    all_goals
      go_enter Tryz.func22, Tryz.ntmps22
      go_wp2_with fail
      go_ret2
      exact ⟨_, by rw [HO.out]; rfl, by rw [HO.out]; exact Own.nil _ _ (Keeps.refl _)⟩
theorem im_at {w : World} {a : Option Addr} {n c : Nat} {l : List Nat} (h : Rd w a n c 1 (il l)) {i : Nat} (hi : i < n) : w.cell? (adr a i) = some (.int .i64 ((im l i : Nat) : Int)) :=
  h.cell i _ (il_at l i (by have := h.len; rw [length_il] at this; omega))
set_option maxRecDepth 20000 in
theorem rNumbers_any (a : Option Addr) (c : Nat) (b : Option Addr) (d : Nat) (l : List Nat) (w : World) (h : Rd w a l.length c 1 (il l)) (h2 : Rd w b l.length d 1 (il l)) :
    Calls Tryz.prog 23 #[.slice a l.length c, .slice b l.length d] w fun e w' => e = .returned (.bool true) ∧ Keeps w w' := by
  have s1 := h.small
  have HR := Lib.hid h; have HR2 := Lib.hid h2
  clear h h2
  go_enter Tryz.func23, Tryz.ntmps23
  go_wp2_with fail
  go_loopw [5] (fun v wr => ∃ k : Nat, k ≤ l.length ∧ v = .int .i64 k ∧ Keeps w wr) (fun v _ => l.length - (RowKit.intOf v).toNat)
  case atStart => exact ⟨0, Nat.zero_le _, rfl, Keeps.refl _⟩
  case round =>
    obtain ⟨k, hk, rfl, K1⟩ := hrel
    by_cases hlt : k < l.length
    · have hp : ∀ W', Keeps wr W' → (W'.cell? (adr a k) = some (.int .i64 ((im l k : Nat) : Int))) ∧ (W'.cell? (adr b k) = some (.int .i64 ((im l k : Nat) : Int))) := fun W' J => ⟨im_at ((HR.out.keep K1).keep J) hlt, im_at ((HR2.out.keep K1).keep J) hlt⟩
      have ha := HR.out.isSome (by omega); have hb := HR2.out.isSome (by omega)
      have HP := Lib.hid hp; clear hp
      generalize im l k = x at *
      go_wp2_with fail
      have J : Keeps wr wr.drew := (Keeps.refl wr).drew
      refine wp_region_held_drew (S := (fun w' => (w'.cell? (adr a k) = some (.int .i64 (x : Int))) ∧ (w'.cell? (adr b k) = some (.int .i64 (x : Int))))) (by kernel_rfl) ?_ (fun hHeld => ?_)
      · exact HP.out _ J
      generalize wr.drew = V0 at *
      refine wpAnyH_take (i := 0) (oi := ⟨_, _, _, _, _, _⟩) (v := ?_) rfl (by kernel_rfl) (by kernel_rfl) (by kernel_rfl) (fun _ _ _ h => h) (Or.inl ⟨by rfl, ?_⟩) (by assumption) ?_
      rotate_left 1
      · intro w hSw; (try dsimp only at hSw); go_simp <;> with_reducible rfl
      (try simp only [Act.put]); (try simp only [List.setIfInBounds_toArray]); (try simp only [List.set_cons_succ]); (try simp only [List.set_cons_zero])
      refine wpAnyH_take (i := 1) (oi := ⟨_, _, _, _, _, _⟩) (v := ?_) rfl (by kernel_rfl) (by kernel_rfl) (by kernel_rfl) (fun _ _ _ h => h) (Or.inl ⟨by rfl, ?_⟩) (by assumption) ?_
      rotate_left 1
      · intro w hSw; (try dsimp only at hSw); go_simp <;> with_reducible rfl
      (try simp only [Act.put]); (try simp only [List.setIfInBounds_toArray]); (try simp only [List.set_cons_succ]); (try simp only [List.set_cons_zero])
      refine wpAnyH_take (i := 2) (oi := ⟨_, _, _, _, _, _⟩) (v := ?_) rfl (by kernel_rfl) (by kernel_rfl) (by kernel_rfl) (fun _ _ _ h => h) (Or.inl ⟨by rfl, ?_⟩) (by assumption) ?_
      rotate_left 1
      · intro w hSw; (try dsimp only at hSw); go_simp <;> with_reducible rfl
      (try simp only [Act.put]); (try simp only [List.setIfInBounds_toArray]); (try simp only [List.set_cons_succ]); (try simp only [List.set_cons_zero])
      refine wpAnyH_take (i := 3) (oi := ⟨_, _, _, _, _, _⟩) (v := ?_) rfl (by kernel_rfl) (by kernel_rfl) (by kernel_rfl) (fun _ _ _ h => h) (Or.inl ⟨by rfl, ?_⟩) (by assumption) ?_
      rotate_left 1
      · intro w hSw; (try dsimp only at hSw); go_simp <;> with_reducible rfl
      (try simp only [Act.put]); (try simp only [List.setIfInBounds_toArray]); (try simp only [List.set_cons_succ]); (try simp only [List.set_cons_zero])
      refine wpAnyH_take (i := 4) (oi := ⟨_, _, _, _, _, _⟩) (v := ?_) rfl (by kernel_rfl) (by kernel_rfl) (by kernel_rfl) (fun _ _ _ h => h) (Or.inl ⟨by rfl, ?_⟩) (by assumption) ?_
      rotate_left 1
      · intro w hSw; (try dsimp only at hSw); go_simp <;> with_reducible rfl
      (try simp only [Act.put]); (try simp only [List.setIfInBounds_toArray]); (try simp only [List.set_cons_succ]); (try simp only [List.set_cons_zero])
      refine wpAnyH_take (i := 5) (oi := ⟨_, _, _, _, _, _⟩) (v := ?_) rfl (by kernel_rfl) (by kernel_rfl) (by kernel_rfl) (fun _ _ _ h => h) (Or.inl ⟨by rfl, ?_⟩) (by assumption) ?_
      rotate_left 1
      · intro w hSw; (try dsimp only at hSw); go_simp <;> with_reducible rfl
      (try simp only [Act.put]); (try simp only [List.setIfInBounds_toArray]); (try simp only [List.set_cons_succ]); (try simp only [List.set_cons_zero])
      refine wpAnyH_take (i := 6) (oi := ⟨_, _, _, _, _, _⟩) (v := ?_) rfl (by kernel_rfl) (by kernel_rfl) (by kernel_rfl) (fun _ _ _ h => h) (Or.inl ⟨by rfl, ?_⟩) (by assumption) ?_
      rotate_left 1
      · intro w hSw; (try dsimp only at hSw); go_simp <;> with_reducible rfl
      (try simp only [Act.put]); (try simp only [List.setIfInBounds_toArray]); (try simp only [List.set_cons_succ]); (try simp only [List.set_cons_zero])
      refine wpAnyH_take (i := 7) (oi := ⟨_, _, _, _, _, _⟩) (v := ?_) rfl (by kernel_rfl) (by kernel_rfl) (by kernel_rfl) (fun _ _ _ h => h) (Or.inl ⟨by rfl, ?_⟩) (by assumption) ?_
      rotate_left 1
      · intro w hSw; (try dsimp only at hSw); go_simp <;> with_reducible rfl
      (try simp only [Act.put]); (try simp only [List.setIfInBounds_toArray]); (try simp only [List.set_cons_succ]); (try simp only [List.set_cons_zero])
      refine wpAnyH_take (i := 8) (oi := ⟨_, _, _, _, _, _⟩) (v := ?_) rfl (by kernel_rfl) (by kernel_rfl) (by kernel_rfl) (fun _ _ _ h => h) (Or.inl ⟨by rfl, ?_⟩) (by assumption) ?_
      rotate_left 1
      · intro w hSw; (try dsimp only at hSw); go_simp <;> with_reducible rfl
      (try simp only [Act.put]); (try simp only [List.setIfInBounds_toArray]); (try simp only [List.set_cons_succ]); (try simp only [List.set_cons_zero])
      refine wpAnyH_done (by kernel_rfl) ?_ _
      go_wp2_with fail
      go_roundw
      case rel => exact ⟨k + 1, by omega, by go_num, K1.trans J⟩
      case measure => simp [RowKit.intOf]; omega
    · go_wp2_with fail
      go_ret
      exact ⟨rfl, K1⟩
end Go.Proofs.YtnlohknlchgfgaaGreat
