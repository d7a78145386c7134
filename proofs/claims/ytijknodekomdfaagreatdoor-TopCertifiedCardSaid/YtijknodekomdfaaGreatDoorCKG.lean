/- Texts joined into one, what is needed of them (a program of ours). -/
import Derived.Test.YtijknodekomdfaaGreatDoorCKE
import Derived.Test.YtijknodekomdfaaGreatDoorCKB
import Derived.Maps.AppendAt
import Derived.Outline
import Derived.Test.YtijknodekomdfaaGreatDoorCKF
namespace Go.Proofs.YtijknodekomdfaaGreatDoor
open Go.RowKit Go.Lib

/-- the set of the members whose bits are set, by the numbers -/
def embB : List Nat → Nat → S
  | [], _ => 0#16
  | a :: r, n => (if n % 2 = 1 then 1#16 <<< a else 0#16) ||| embB r (n / 2)
theorem u_bit (n : U) (i : Nat) : (n >>> i) &&& 1#32 = 1#32 ↔ n.toNat >>> i % 2 = 1 := by
  rw [← BitVec.toNat_inj, BitVec.toNat_and, BitVec.toNat_ushiftRight]
  show (n.toNat >>> i) &&& 1 = 1 ↔ _
  rw [Nat.and_one_is_mod]
theorem embG_eq (n : U) : ∀ (l : List Nat) (i : Nat) (out : S), embG n l i out = out ||| embB l (n.toNat >>> i)
  | [], i, out => by simp [embG, embB]
  | a :: r, i, out => by
    rw [embG, embG_eq n r (i + 1), embB, Nat.shiftRight_succ]
    by_cases h : n.toNat >>> i % 2 = 1
    · rw [if_pos ((u_bit n i).2 h), if_pos h, BitVec.or_assoc]
    · rw [if_neg (fun e => h ((u_bit n i).1 e)), if_neg h]; simp
theorem emb_eq (mem : List Nat) (n : U) : emb mem n = embB mem n.toNat := by
  unfold emb; rw [embG_eq]; simp
/-- the number whose bits say which members are in x -/
def comp : List Nat → S → Nat
  | [], _ => 0
  | a :: r, x => (if x.getLsbD a = true then 1 else 0) + 2 * comp r x
theorem chooseL_eq (s : S) (k : Nat) (hk : k ≤ (members s).length) : chooseL s k = ((List.range (2 ^ (members s).length)).filter (fun x => cnt (BitVec.ofNat 16 x) == k)).map (embB (members s)) := by
  have hm := members_len s
  have := gosR_all ⟨(members s).length, by omega⟩ ⟨k, by omega⟩ hk
  simp only at this
  unfold chooseL
  rw [← this, List.map_map]
  exact List.map_congr_left fun x _ => emb_eq _ _
theorem small_bit {s : S} (h : small s) {i : Nat} (hb : s.getLsbD i = true) : i < 12 := by
  rcases Nat.lt_or_ge i 12 with h1 | h1
  · exact h1
  · exfalso
    have h2 : s.toNat < 2 ^ i := Nat.lt_of_lt_of_le h (Nat.pow_le_pow_right (n := 2) (by decide) h1)
    have h3 : s.toNat.testBit i = false := Nat.testBit_lt_two_pow h2
    have h4 : s.toNat.testBit i = true := hb
    rw [h3] at h4; cases h4
theorem sub_le {x s : S} (h : sub x s = true) : x.toNat ≤ s.toNat := by
  unfold sub at h
  rw [beq_iff_eq] at h
  have e : x &&& s = x := by
    apply BitVec.eq_of_getLsbD_eq
    intro i hi
    have := (sub_iff x s).1 (by unfold sub; rw [beq_iff_eq]; exact h) i hi
    rw [BitVec.getLsbD_and]
    cases hx : x.getLsbD i with
    | false => rfl
    | true => simp [this hx]
  have := congrArg BitVec.toNat e
  rw [BitVec.toNat_and] at this
  rw [← this]
  exact Nat.and_le_right
end Go.Proofs.YtijknodekomdfaaGreatDoor
namespace Go.Proofs.YtijknodekomdfaaGreatDoor
open Go.RowKit Go.Lib Go.Shelf
attribute [local go_sem] Oper.semAt_some

theorem chooseL_len' {s : S} {k : Nat} (hk : k ≤ (members s).length) : (chooseL s k).length ≤ 4096 := by
  rw [chooseL_eq s k hk, List.length_map]
  refine Nat.le_trans (List.length_filter_le _ _) ?_
  rw [List.length_range]
  exact Nat.pow_le_pow_right (n := 2) (j := 12) (by decide) (members_len s)
theorem subsTo_len' {s : S} (hs : small s) : ∀ k, k ≤ cnt s + 1 → (subsTo s k).length ≤ k * 4096
  | 0, _ => by simp [subsTo]
  | k + 1, h => by
    have h1 := subsTo_len' hs k (by omega)
    have h2 : (chooseL s k).length ≤ 4096 := chooseL_len' (by rw [members_cnt hs]; omega)
    rw [subsTo, List.length_append]; omega
theorem subsetsL_len' {s : S} (hs : small s) : (subsetsL s).length ≤ 60000 := by
  have h1 := subsTo_len' hs (cnt s + 1) (Nat.le_refl _)
  have h2 : cnt s ≤ 12 := by rw [← members_cnt hs]; exact members_len s
  have h3 : (cnt s + 1) * 4096 ≤ 13 * 4096 := Nat.mul_le_mul_right _ (by omega)
  unfold subsetsL; omega
theorem KpO.cell {n₀ Bo : Nat} {W W' : World} (h : KpO n₀ Bo W W') {p : Addr} {v : Value} (hp : p.block < n₀) (hne : p.block ≠ Bo) (hc : W.cell? p = some v) : W'.cell? p = some v :=
  (World.cell?_of_block (h.same _ hp hne)).trans hc
theorem BoxC.kpo {w w' : World} {n₀ Bo B : Nat} {nm : ByteArray} {kd : Int} {M : S} {ar : Option Addr} {nr cr : Nat} {aw : Option Addr} {nw cw : Nat} {af : Option Addr} {nf cf : Nat} (h : BoxC w B nm kd M ar nr cr aw nw cw af nf cf) (k : KpO n₀ Bo w w') (h1 : B < n₀) (h2 : B ≠ Bo) : BoxC w' B nm kd M ar nr cr aw nw cw af nf cf :=
  ⟨k.cell h1 h2 h.c0, k.cell h1 h2 h.c1, k.cell h1 h2 h.c2, k.cell h1 h2 h.c3, k.cell h1 h2 h.c4, k.cell h1 h2 h.c5⟩
theorem kpoK {n₀ Bo : Nat} {w X Y : World} {row : Option Nat} (h : KpO n₀ Bo w X) (hn : n₀ ≤ X.heap.size) (hg : X.grownBy Y row) (hr : ∀ r, row = some r → n₀ ≤ r ∧ ∃ o : Obj, X.heap[r]? = some o ∧ o.isCells = false) : KpO n₀ Bo w Y :=
  ⟨Nat.le_trans h.size hg.size, fun k hk hne => (hg.block k (by omega) (fun e => by have := (hr k e.symm).1; omega)).trans (h.same k hk hne)⟩
theorem cv_small {kd : Int} {M : S} {R Q : List S} {F : List F2} (h : cvS kd M R Q F = 0) : small M := by
  unfold cvS at h
  have hb := sv_bound M
  by_cases h1 : (kd != 1 && kd != 2) = true
  · rw [if_pos h1] at h; exact absurd h (by decide)
  · rw [if_neg h1] at h
    by_cases h2 : (sv M / 4096 != 0) = true
    · rw [if_pos h2] at h; exact absurd h (by decide)
    · have h3 : sv M / 4096 = 0 := by simpa using h2
      have h4 : sv M = (M.toNat : Int) := rfl
      show M.toNat < 4096
      omega
theorem tv_cv {kd : Int} {M : S} {R Q : List S} {F m : List F2} (h : tvS kd M R Q F m = 0) : cvS kd M R Q F = 0 ∧ fvS m = 0 := by
  unfold tvS at h
  by_cases h1 : cvS kd M R Q F = 0
  · rw [if_neg (by simp [h1])] at h; exact ⟨h1, h⟩
  · rw [if_pos h1] at h; exact absurd h h1

/-- the minimal sets that a client accepts, as Commits gathers them -/
def cmStep (wt : S) (byz R : List S) (acc : List S) (s : S) : List S := if accS acc s = true then acc else if accT s wt byz R = true then acc ++ [s] else acc
def cmFold (wt : S) (byz R : List S) (l : List S) : List S := l.foldl (cmStep wt byz R) []
theorem cmFold_snoc (wt : S) (byz R l : List S) (x : S) : cmFold wt byz R (l ++ [x]) = cmStep wt byz R (cmFold wt byz R l) x := by simp [cmFold, List.foldl_append]
theorem cmStep_le (wt : S) (byz R acc : List S) (s : S) : (cmStep wt byz R acc s).length ≤ acc.length + 1 := by unfold cmStep; split; simp; split <;> simp
theorem cmFoldl_le (wt : S) (byz R l : List S) : ∀ acc : List S, (l.foldl (cmStep wt byz R) acc).length ≤ acc.length + l.length := by
  induction l with
  | nil => intro acc; simp
  | cons x xs ih => intro acc; rw [List.foldl_cons]; have := ih (cmStep wt byz R acc x); have := cmStep_le wt byz R acc x; simp only [List.length_cons]; omega
theorem cmFold_le (wt : S) (byz R l : List S) : (cmFold wt byz R l).length ≤ l.length := by have := cmFoldl_le wt byz R l []; simpa [cmFold] using this
def comS (kd : Int) (wt M : S) (R Q : List S) (F m : List F2) : List S × Int :=
  if tvS kd M R Q F m ≠ 0 then ([], tvS kd M R Q F m) else if 400 < (cmFold wt (byzS M m) R (subsetsL M)).length then ([], 3) else (cmFold wt (byzS M m) R (subsetsL M), 0)
theorem comResults {W : World} {tmps : Array Value} {v e : Value} (t1 : tmps.getD 6 undef = v) (t2 : tmps.getD 7 undef = e) :
    (results Tryz.f40 tmps).run Tryz.prog W = .ok (.tuple #[v, e]) W := by
  simp only [Array.getD_eq_getD_getElem?] at t1 t2
  simp [results, Tryz.f40, t1, t2]

set_option maxRecDepth 100000 in
set_option maxHeartbeats 6000000 in
theorem commits_any {nm : ByteArray} [NmOk nm] (kd : Int) (wt M : S) {ar : Option Addr} {cr : Nat} {R : List S} {aw : Option Addr} {cw : Nat} {Q : List S} {af : Option Addr} {cf : Nat} {F : List F2} (a : Option Addr) (n c : Nat) (m : List F2) (w : World) (hT : Tab w) (h : RdC w ar cr R aw cw Q af cf F) (hm : Rd w a n c 2 (fl m)) (hn : n ≤ 1000000) :
    Calls Tryz.prog 40 #[.agg #[.string nm, .int .i64 kd, .int .u16 (sv M), .slice ar R.length cr, .slice aw Q.length cw, .slice af F.length cf], .int .u16 (sv wt), .slice a n c] w fun e w' => RetS w (comS kd wt M R Q F m) e w' := by
  have hdd : ∀ j : Nat, (Fence.wide.depth.isSome = true → 1 ≤ j) := fun j h => by cases h
  obtain ⟨i0, hi, hz0, hz1, hz2⟩ := info_parts infoS
  have K0 := (Keeps.refl w).alloc (.cells #[.string nm, .int .i64 kd, .int .u16 (sv M), .slice ar R.length cr, .slice aw Q.length cw, .slice af F.length cf] 36)
  have hb := BoxC.new w 36 nm kd M ar R.length cr aw Q.length cw af F.length cf
  obtain ⟨W1, hW1⟩ : ∃ W0, W0 = w.alloc (.cells #[.string nm, .int .i64 kd, .int .u16 (sv M), .slice ar R.length cr, .slice aw Q.length cw, .slice af F.length cf] 36) := ⟨_, rfl⟩
  have hsz : W1.heap.size = w.heap.size + 1 := by rw [hW1, World.size_alloc]
  rw [← hW1] at hb K0
  have k2 := (Keeps.refl W1).alloc (.cells #[.int .u16 (sv wt)] 31)
  have hx : (W1.alloc (.cells #[.int .u16 (sv wt)] 31)).cell? ⟨w.heap.size + 1, 0, none⟩ = some (.int .u16 (sv wt)) := by rw [← hsz, World.cell?_alloc_at _ _ _ _ rfl]; rfl
  obtain ⟨W2, hW2⟩ : ∃ W2, W2 = W1.alloc (.cells #[.int .u16 (sv wt)] 31) := ⟨_, rfl⟩
  have hsz2 : W2.heap.size = w.heap.size + 2 := by rw [hW2, World.size_alloc, hsz]
  rw [← hW2] at hx k2
  replace hb := hb.keep k2
  replace K0 := K0.trans k2
  have h1 := fun W (k : Keeps w W) => tvalid_any (nm := nm) kd M a n c m W (h.keep k) (hm.keep k)
  have h2 := fun W (k : Keeps w W) => byzantine_any nm kd M (ar := ar) (cr := cr) (R := R) (aw := aw) (cw := cw) (Q := Q) (af := af) (cf := cf) (F := F) a n c m W (hm.keep k) hn
  have h3 := fun W (k : Keeps w W) s A N C hz => acceptsT_any nm kd M wt s A N C (byzS M m) W (h.keep k) hz
  have e0 : comS kd wt M R Q F m = if tvS kd M R Q F m ≠ 0 then ([], tvS kd M R Q F m) else if 400 < (cmFold wt (byzS M m) R (subsetsL M)).length then ([], 3) else (cmFold wt (byzS M m) R (subsetsL M), 0) := rfl
  have hsm : tvS kd M R Q F m = 0 → small M := fun h => cv_small (tv_cv h).1
  have H1 := Lib.hid h1; have H2 := Lib.hid h2; have H3 := Lib.hid h3; have E0 := Lib.hid e0; have HSM := Lib.hid hsm
  have HI1 := Lib.hid hi; have HI2 := Lib.hid hz0; have HI3 := Lib.hid hz1; have HI4 := Lib.hid hz2
  clear h1 h2 h3 e0 hsm hi hz0 hz1 hz2 h hm
  generalize comS kd wt M R Q F m = res at *
  generalize tvS kd M R Q F m = er at *
  generalize byzS M m = byz at *
  generalize R.length = nr at *
  generalize Q.length = nq at *
  generalize F.length = nf at *
  refine (callsIn_wide (n := 8)).1 ?_
  refine callsIn_of_wp_marks Tryz.func40 rfl trivial ?_ rfl
  simp only [Tryz.ntmps40, List.size_toArray, List.length_cons, List.length_nil, Nat.reduceAdd, Nat.reduceSub, Array.replicate_succ, Array.replicate_zero, List.push_toArray, List.append_toArray, List.nil_append, List.cons_append]
  gi_wp2
  rw [← hW1, ← hW2]
  clear hW1 hW2 hsz
  refine ⟨trivial, ?_⟩
  refine (callsIn_wide.2 (H1.out _ K0)).mono ?_
  rintro e w3 ⟨rfl, Kv⟩
  have K1 := K0.trans Kv
  have szv := Kv.size
  replace hb := hb.keep Kv
  replace hx := Kv.cell hx
  clear K0 H1 k2
  by_cases her : er = 0
  rotate_left
  · have hres : res = ([], er) := by rw [E0.out, if_pos her]
    have hbb : (er != 0) = true := by simpa using her
    have HRS := Lib.hid hres
    clear hres her
    gi_wp2
    refine ⟨_, comResults rfl rfl, ?_⟩
    rw [HRS.out]
    exact ⟨_, rfl, Own.nil _ _ K1⟩
  subst her
  have hsmall := HSM.out rfl
  have hlen := subsetsL_len' hsmall
  obtain ⟨c0, c1, c2, c3, c4, c5⟩ := hb
  gi_wp2
  refine ⟨trivial, ?_⟩
  refine (callsIn_wide.2 (H2.out _ K1)).mono ?_
  rintro e w4 ⟨v4, rfl, hO⟩
  obtain ⟨a4, cc4, rfl, hR⟩ := hO.rd
  have Kx := hO.2
  have szx := Kx.size
  have KA : Keeps w4 ((w4.alloc (.cells #[.slice a4 byz.length cc4] 25)).alloc (.cells #[.slice none 0 0] 25)) := ((Keeps.refl w4).alloc _).alloc _
  have b9 := (Boxed.new w4 25 (.slice a4 byz.length cc4)).alloc (.cells #[.slice none 0 0] 25)
  have b10 := Boxed.new (w4.alloc (.cells #[.slice a4 byz.length cc4] 25)) 25 (.slice none 0 0)
  rw [World.size_alloc] at b10
  have k5 := Kx.trans KA
  have d2 := k5.cell c2
  have HO := Lib.hid hO.1
  have HB := Lib.hid (BoxC.mk c0 c1 c2 c3 c4 c5)
  clear c0 c1 c2 c3 c4 c5 hO hR H2
  gi_wp2
  refine ⟨trivial, ?_⟩
  refine (callsIn_wide.2 (subsets_any _ _)).mono ?_
  rintro e wc ⟨rfl, hwc⟩
  have hszc : wc.heap.size = w4.heap.size + 1 + 1 + 1 := by rw [hwc]; simp
  have kAc : Keeps w4 wc := hwc ▸ KA.alloc _
  have bS : Boxed wc (w4.heap.size + 1 + 1) 31 (.int .u16 (sv M)) := by
    have := Boxed.new ((w4.alloc (.cells #[.slice a4 byz.length cc4] 25)).alloc (.cells #[.slice none 0 0] 25)) 31 (.int .u16 (sv M))
    simp only [World.size_alloc] at this
    exact hwc ▸ this
  replace b9 : Boxed wc w4.heap.size 25 _ := hwc ▸ b9.alloc _
  replace b10 : Boxed wc (w4.heap.size + 1) 25 _ := hwc ▸ b10.alloc _
  have kvc := Kx.trans kAc
  have kwc := K1.trans kvc
  have hBc := HB.out.keep kvc
  have hxc := kvc.cell hx
  have hyc := kAc.own HO.out
  clear hwc d2 k5 KA
  have hRall : ∀ wr : World, KpO wc.heap.size (w4.heap.size + 1) wc wr → Rd wr a4 byz.length cc4 1 (sl byz) ∧ BoxC wr w.heap.size nm kd M ar nr cr aw nq cw af nf cf ∧ wr.cell? ⟨w.heap.size + 1, 0, none⟩ = some (.int .u16 (sv wt)) ∧ wr.cell? ⟨w4.heap.size, 0, none⟩ = some (.slice a4 byz.length cc4) := fun wr hk => by
    refine ⟨?_, hBc.kpo hk (by omega) (by omega), hk.cell (by show w.heap.size + 1 < _; omega) (by show w.heap.size + 1 ≠ _; omega) hxc, hk.cell (by show w4.heap.size < _; omega) (by show w4.heap.size ≠ _; omega) b9.cell⟩
    have hrow := own_same (W' := wr) hyc (fun r hr => by
      have hlt := (HO.out.lt r hr).2
      exact hk.same r (by omega) (by omega))
    obtain ⟨a', c', he, hr⟩ := own_rd hrow
    cases he
    exact hr
  have HRA := Lib.hid hRall
  clear hRall hBc hxc hyc b9
  have hnum : 0 < w.heap.size := hT.lt
  gi_wp2
  refine wpIn_rangeFunc_ownG rfl (by omega) (gf := 164) (lb := #[.pointer (some ⟨w4.heap.size + 1 + 1, 0, none⟩)]) rfl trivial (enters_of Tryz.func164 (by kernel_rfl) rfl)
    (subsets_stops 7 w.heap.size (w4.heap.size + 1 + 1) M hsmall wc (hT.keep kwc) hT.lt kwc.size bS) KpS.trans ?hkb (Below.refl _ _) (fun _ => rfl)
    (fun pre W => (∃ v, Boxed W (w4.heap.size + 1) 25 v ∧ W.ownsRow wc.heap.size 31 1 v (cmFold wt byz R pre).length (sl (cmFold wt byz R pre))) ∧ KpO wc.heap.size (w4.heap.size + 1) wc W ∧ Below w.heap.size w W ∧ wc.heap.size ≤ W.heap.size)
    (fun cd pre W => False)
    ?hI ?hIx ?h0 ?a1 ?assign ?body ?done ?stop
  case a1 => exact fun x => { tmps := #[.agg #[.string nm, .int .i64 kd, .int .u16 (sv M), .slice ar nr cr, .slice aw nq cw, .slice af nf cf], .int .u16 (sv wt), .slice a n c, .pointer (some ⟨w.heap.size, 0, none⟩), .pointer (some ⟨w.heap.size + 1, 0, none⟩), undef, .slice none 0 0, .int .i64 0, .int .i64 0, .pointer (some ⟨w4.heap.size, 0, none⟩), .pointer (some ⟨w4.heap.size + 1, 0, none⟩), .int .u16 (sv x), .agg #[.string nm, .int .i64 kd, .int .u16 (sv M), .slice ar nr cr, .slice aw nq cw, .slice af nf cf], .slice a n c, .int .i64 0, .int .i64 0, .bool false, undef, .agg #[.string nm, .int .i64 kd, .int .u16 (sv M), .slice ar nr cr, .slice aw nq cw, .slice af nf cf], .slice a n c, .slice a4 byz.length cc4, .pointer (some ⟨w.heap.size, 2, none⟩), .int .u16 (sv M), .func (.func 164) #[] #[.pointer (some ⟨w4.heap.size + 1 + 1, 0, none⟩)], .int .u16 (sv x), undef, undef, undef, undef, undef, undef, undef, undef, undef, undef, undef, undef, undef, undef, undef, undef, undef, undef, undef], defers := [] }
  case assign =>
    intro l' x W K hK
    unfold vs
    gi_wp2
    exact hK
  case hkb => exact fun W l' o o' h1 h2 h3 h4 => kpS_b kwc.size (by omega) W l' o o' h1 h2 h3 h4
  case hI =>
    rintro s A B row ⟨⟨v, hv, hrow⟩, hk, h4, h5⟩ hg hr
    refine ⟨⟨v, boxK hv hg hr, hrow.kept hg ?_⟩, kpoK hk h5 hg hr, belK h4 kwc.size hg hr, Nat.le_trans h5 hg.size⟩
    rcases hrow.2 with ⟨rfl, _⟩ | ⟨g, cap, cur, rfl, _, hgb, _⟩
    · exact .inl rfl
    · refine .inr fun e' => ?_
      obtain ⟨_, o, ho, hc⟩ := hr g (by simpa [Value.ownBlock] using e'.symm)
      rw [hgb] at ho; cases ho; cases hc
  case hIx =>
    rintro cd s A B row hf
    exact hf.elim
  case h0 => exact ⟨⟨_, b10, World.ownsRow_nil _ _ _ _⟩, KpO.refl _ _ _, kwc, Nat.le_refl _⟩
  case body =>
    rintro l' pre x W ⟨⟨v, hv, hrow⟩, hk, hB, hwcW⟩ hpl
    obtain ⟨va, vc, rfl, hvr⟩ := own_rd hrow
    have hst := cmFold_snoc wt byz R pre x
    have hfl := cmFold_le wt byz R pre
    have hac : (cmFold wt byz R pre).length ≤ 1000000 := by omega
    generalize cmFold wt byz R pre = acc at *
    obtain ⟨hz, hbx, hwx, hbb⟩ := HRA.out W hk
    obtain ⟨c0, c1, c2, c3, c4, c5⟩ := hbx
    have hcall := accepts_any va acc.length vc acc x W hvr
    have hcall2 := fun W2 (k : Keeps W W2) => H3.out W2 (Keeps.trans hB k) x a4 byz.length cc4 (hz.keep k)
    have HST := Lib.hid hst; have HROW := Lib.hid hrow; have HAC := Lib.hid hac; have HC1 := Lib.hid hcall; have HC2 := Lib.hid hcall2
    clear hst hvr hrow hfl hpl hac hcall hcall2 hz
    have e0 := hv.cell
    gi_wp2
    refine ⟨trivial, ?_⟩
    refine (CallsIn.inRound l' (callsIn_wide.2 HC1.out)).mono ?_
    rintro e W2 ⟨rfl, kW2⟩
    replace c0 := kW2.cell c0; replace c1 := kW2.cell c1; replace c2 := kW2.cell c2; replace c3 := kW2.cell c3; replace c4 := kW2.cell c4; replace c5 := kW2.cell c5
    replace hwx := kW2.cell hwx; replace hbb := kW2.cell hbb
    have hsz := hB.size
    clear e0
    cases hcv : accS acc x
    · gi_wp2
      refine ⟨trivial, ?_⟩
      refine (CallsIn.inRound l' (callsIn_wide.2 (HC2.out _ kW2))).mono ?_
      rintro e W3 ⟨rfl, kW3⟩
      have kW := kW2.trans kW3
      have hv2 := boxedKeep hv kW
      have kk2 : Below w.heap.size w W3 := Keeps.trans hB kW
      have hsz2 := kk2.size
      have HROW2 := Lib.hid (kW.own HROW.out)
      have HV2 := Lib.hid hv2
      have hc2 := hv2.cell; have hf2 := hv2.frozen
      clear c0 c1 c2 c3 c4 c5 hwx hbb kW2 kW3
      cases hta : accT x wt byz R
      · have hst : cmFold wt byz R (pre ++ [x]) = acc := by rw [HST.out]; unfold cmStep; rw [if_neg (by simp [hcv]), if_neg (by simp [hta])]
        have HS := Lib.hid hst; clear hst
        gi_wp2
        refine ⟨keepsFrom kW _, KpS.of kW hsz, ?_⟩
        dsimp only
        rw [HS.out]
        exact ⟨⟨_, HV2.out, HROW2.out⟩, hk.trans (KpO.of kW hwcW), kk2, Nat.le_trans hwcW kW.size⟩
      · have hst : cmFold wt byz R (pre ++ [x]) = acc ++ [x] := by rw [HST.out]; unfold cmStep; rw [if_neg (by simp [hcv]), if_pos hta]
        have HS := Lib.hid hst; clear hst
        have hi := HI1.out; have hz0 := HI2.out; have hz1 := HI3.out; have hz2 := HI4.out
        have hb1 : acc.length + 1 ≤ maxLen := by have := HAC.out; unfold maxLen; omega
        have hb2 : (acc.length + 1) * 2 ≤ 140737488355328 := by have := HAC.out; omega
        have hn2 : wc.heap.size ≤ W3.heap.size := Nat.le_trans hwcW kW.size
        have hwc2 : wc.heap.size ≤ (W3.alloc (.cells #[.int .u16 (sv x)] 31)).heap.size := by rw [World.size_alloc]; omega
        have HB1 := Lib.hid hb1; have HB2 := Lib.hid hb2; have HWC := Lib.hid hwc2; clear hb1 hb2 hwc2
        have happ : ∀ v' w1, w1.ownsRow wc.heap.size 31 1 v' (acc.length + 1) (sl acc ++ [.int .u16 (sv x)]) → (W3.alloc (.cells #[.int .u16 (sv x)] 31)).grownBy w1 (Value.slice va acc.length vc).ownBlock →
            Boxed w1 (w4.heap.size + 1) 25 (.slice va acc.length vc) ∧ Hid (
            Boxed (w1.setCell ⟨w4.heap.size + 1, 0, none⟩ v') (w4.heap.size + 1) 25 v' ∧ (w1.setCell ⟨w4.heap.size + 1, 0, none⟩ v').ownsRow wc.heap.size 31 1 v' (acc.length + 1) (sl acc ++ [.int .u16 (sv x)]) ∧
            KeepsFrom wc.heap.size W (w1.setCell ⟨w4.heap.size + 1, 0, none⟩ v') ∧ KpS w.heap.size (w4.heap.size + 1 + 1) W (w1.setCell ⟨w4.heap.size + 1, 0, none⟩ v') ∧ Below w.heap.size w (w1.setCell ⟨w4.heap.size + 1, 0, none⟩ v') ∧
            KpO wc.heap.size (w4.heap.size + 1) wc (w1.setCell ⟨w4.heap.size + 1, 0, none⟩ v') ∧ wc.heap.size ≤ (w1.setCell ⟨w4.heap.size + 1, 0, none⟩ v').heap.size) := by
          intro v' w1 hown' hgrow
          obtain ⟨hv1, hv3, _, hk2, hb2⟩ := hv2.appended (by decide) (ownWeak HROW2.out kwc.size) hsz2 (by omega) (ownWeak hown' kwc.size) hgrow
          refine ⟨hv1, hv3, hown'.kept (grownBy_setCell' w1 _ v') (.inr (hv1.not_row (by decide) hown').symm), (keepsFrom kW _).trans (hk2.from _), (KpS.of kW hsz).trans (kpApp hv2 HROW2.out (by omega) (by omega) hgrow hb2), kk2.trans hb2, (hk.trans (KpO.of kW hwcW)).trans (kpoApp HROW2.out hn2 hgrow), Nat.le_trans hn2 hb2.size⟩
        have HAPP := Lib.hid happ; clear happ
        gi_wp2_with (gi_at_builtin; refine wpListIn_append_own _ rfl _ _ 25 rfl wc.heap.size 31 i0 (.int .u16 0) 1 2 Tryz.underlying25 hi hz0 hz1 hz2 rfl (by decide) _ _ _ rfl (HROW2.out.alloc _) ⟨W3.heap.size, 0, none⟩ 1 1 [.int .u16 (sv x)] rfl rfl (cell_one_new _ _ _) (by simp [Value.oneCell']) HB1.out HB2.out HWC.out ?_; intro v' w1 hown' hgrow _; obtain ⟨hq, hfin⟩ := HAPP.out v' w1 hown' hgrow; obtain ⟨g', cap', rfl⟩ := ownsRow_succ hown'; have hc1 := hq.cell; have hf1 := hq.frozen; have HHG := Lib.hid hgrow; clear hgrow; have HHO := Lib.hid hown'; clear hown')
        obtain ⟨p1, p2, p3, p4, p5, p6, p9⟩ := hfin.out
        refine ⟨p3, p4, ?_⟩
        dsimp only
        rw [HS.out]
        refine ⟨⟨_, p1, ?_⟩, p6, p5, p9⟩
        rw [sl_append, List.length_append]; exact p2
    · have hv2 := boxedKeep hv kW2
      have kk2 : Below w.heap.size w W2 := Keeps.trans hB kW2
      have HROW2 := Lib.hid (kW2.own HROW.out)
      have HV2 := Lib.hid hv2
      have hst : cmFold wt byz R (pre ++ [x]) = acc := by rw [HST.out]; unfold cmStep; rw [if_pos hcv]
      gi_wp2
      refine ⟨trivial, ?_⟩
      have HS := Lib.hid hst; clear hst
      gi_wp2
      refine ⟨keepsFrom kW2 _, KpS.of kW2 hsz, ?_⟩
      dsimp only
      rw [HS.out]
      exact ⟨⟨_, HV2.out, HROW2.out⟩, hk.trans (KpO.of kW2 hwcW), kk2, Nat.le_trans hwcW kW2.size⟩
  case done =>
    rintro D ys W hD rfl ⟨⟨v, hv, hrow⟩, hk, hB, hwcW⟩ hK
    obtain ⟨va, vc, rfl, hvr⟩ := own_rd hrow
    have eO := hv.cell
    have hres := E0.out
    rw [if_neg (by simp)] at hres
    generalize cmFold wt byz R (subsetsL M) = acc at *
    have HROW := Lib.hid hrow; have HE := Lib.hid hres
    clear hrow hvr hres
    have hr : ∀ r, some D = some r → w.heap.size ≤ r ∧ ∃ o : Obj, W.heap[r]? = some o ∧ o.isCells = false := fun r e => by cases e; exact ⟨Nat.le_trans kwc.size hD, _, hK, rfl⟩
    by_cases h4 : 400 < acc.length
    · have h5 : (400 : Int) < (acc.length : Int) := by omega
      have HR : Hid (res = ([], 3)) := by show _ = _; rw [HE.out, if_pos h4]
      gi_wp2
      refine ⟨by simp, .inl ⟨_, _, rfl, run_takeDeferred hK, ?_⟩⟩
      refine ⟨_, comResults rfl rfl, ?_⟩
      rw [HR.out]
      exact ⟨_, rfl, Own.nil _ _ (belK hB (Nat.le_refl _) (grownBy_putObj' _ D _) hr)⟩
    · have h5 : ¬ (400 : Int) < (acc.length : Int) := by omega
      have HR : Hid (res = (acc, 0)) := by show _ = _; rw [HE.out, if_neg h4]
      gi_wp2
      refine ⟨by simp, .inl ⟨_, _, rfl, run_takeDeferred hK, ?_⟩⟩
      refine ⟨_, comResults rfl rfl, ?_⟩
      rw [HR.out]
      exact ⟨_, rfl, ownsRow_putObj (ownWeak HROW.out kwc.size) _ hK rfl, belK hB (Nat.le_refl _) (grownBy_putObj' _ D _) hr⟩
  case stop =>
    rintro D cd pre W hD hpre hf hK
    exact hf.elim
end Go.Proofs.YtijknodekomdfaaGreatDoor
