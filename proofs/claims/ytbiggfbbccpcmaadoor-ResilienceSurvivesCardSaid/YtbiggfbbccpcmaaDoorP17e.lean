/- resilience.Influence. -/
import Derived.Stop.RegionWithIn
import Derived.Laws.OwnMore
import Derived.Test.YtbiggfbbccpcmaaDoorP17d
namespace Go.Proofs.YtbiggfbbccpcmaaDoor
open Go.RowKit Go.Lib Go.Shelf
attribute [local go_sem] Oper.semAt_some

/-- server i decides for a set -/
def decides (m : List S) (i : Nat) (s : S) : Bool := !accS m s && (((s >>> i) &&& 1#16 == 0#16) && accS m (s ||| (1#16 <<< i)))
def inflC (m : List S) (pre : List S) (i : Nat) : Nat := pre.countP (decides m i)
def inflL (m : List S) (n : Nat) (pre : List S) : List Nat := (List.range n).map (inflC m pre)
/-- in the midst of a round: the first i numbers are those of the longer list -/
def inflM (m : List S) (n : Nat) (pre : List S) (x : S) (i : Nat) : List Nat := (List.range n).map fun j => if j < i then inflC m (pre ++ [x]) j else inflC m pre j
theorem inflC_snoc (m pre : List S) (x : S) (i : Nat) : inflC m (pre ++ [x]) i = inflC m pre i + if decides m i x then 1 else 0 := by
  unfold inflC; rw [List.countP_append]; simp [List.countP_cons]
theorem inflM_zero (m : List S) (n : Nat) (pre : List S) (x : S) : inflM m n pre x 0 = inflL m n pre := by simp [inflM, inflL]
theorem inflM_full (m : List S) (n : Nat) (pre : List S) (x : S) : inflM m n pre x n = inflL m n (pre ++ [x]) := by
  unfold inflM inflL
  refine List.map_congr_left fun j hj => ?_
  rw [if_pos (List.mem_range.1 hj)]
theorem inflM_acc (m : List S) (n : Nat) (pre : List S) (x : S) (h : accS m x = true) : inflL m n (pre ++ [x]) = inflL m n pre := by
  unfold inflL
  refine List.map_congr_left fun j _ => ?_
  rw [inflC_snoc]
  have : decides m j x = false := by unfold decides; rw [h]; rfl
  rw [this]; simp
theorem inflM_at (m : List S) (n : Nat) (pre : List S) (x : S) (i : Nat) (h : i < n) : im (inflM m n pre x i) i = inflC m pre i := by
  simp [im, inflM, h]
theorem inflM_skip (m : List S) (n : Nat) (pre : List S) (x : S) (i : Nat) (h : decides m i x = false) : inflM m n pre x (i + 1) = inflM m n pre x i := by
  unfold inflM
  refine List.map_congr_left fun j _ => ?_
  by_cases h1 : j < i
  · rw [if_pos h1, if_pos (by omega)]
  · by_cases h2 : j = i
    · subst h2; rw [if_pos (by omega), if_neg h1, inflC_snoc, h]; simp
    · rw [if_neg (by omega), if_neg h1]
theorem inflM_add (m : List S) (n : Nat) (pre : List S) (x : S) (i : Nat) (h : decides m i x = true) : inflM m n pre x (i + 1) = (inflM m n pre x i).set i (inflC m pre i + 1) := by
  apply List.ext_getElem?
  intro j
  rw [List.getElem?_set]
  unfold inflM
  simp only [List.getElem?_map, List.length_map, List.length_range]
  by_cases h2 : i = j
  · subst h2
    by_cases hn : i < n
    · simp [hn, inflC_snoc, h]
    · simp [hn]
  · simp only [h2, if_false]
    by_cases hn : j < n
    · simp only [List.getElem?_range hn, Option.map_some]
      by_cases h1 : j < i
      · rw [if_pos h1, if_pos (by omega)]
      · rw [if_neg h1, if_neg (by omega)]
    · simp [hn]
theorem inflM_len (m : List S) (n : Nat) (pre : List S) (x : S) (i : Nat) : (inflM m n pre x i).length = n := by simp [inflM]
theorem inflL_len (m : List S) (n : Nat) (pre : List S) : (inflL m n pre).length = n := by simp [inflL]
theorem inflC_le (m pre : List S) (i : Nat) : inflC m pre i ≤ pre.length := List.countP_le_length

theorem full_small' : ∀ k : Fin 13, (fullS k.val).toNat < 4096 := by decide
theorem full_small (k : Nat) (h : k ≤ 12) : small (fullS k) := full_small' ⟨k, by omega⟩
theorem subsTo_len {s : S} (hs : small s) : ∀ k, k ≤ cnt s + 1 → (subsTo s k).length ≤ k * 4096
  | 0, _ => by simp [subsTo]
  | k + 1, h => by
    have h1 := subsTo_len hs k (by omega)
    have h2 : (chooseL s k).length ≤ 4096 := chooseL_len (by rw [members_cnt hs]; omega)
    rw [subsTo, List.length_append]; omega
theorem subsetsL_len {s : S} (hs : small s) : (subsetsL s).length ≤ 60000 := by
  have h1 := subsTo_len hs (cnt s + 1) (Nat.le_refl _)
  have h2 : cnt s ≤ 12 := by rw [← members_cnt hs]; exact members_len s
  have h3 : (cnt s + 1) * 4096 ≤ 13 * 4096 := Nat.mul_le_mul_right _ (by omega)
  unfold subsetsL; omega
def inflErr (l : List S) (n : Int) : List Nat × Int := if (amongErr l n).2 ≠ 0 then ([], (amongErr l n).2) else (inflL l n.toNat (subsetsL (fullS n.toNat)), 0)

theorem info64 : (Tryd.prog.info? 2).map (fun i => (i.zero, i.size, i.bytes)) = some (some (.int .i64 0), 1, 8) := by kernel_rfl
theorem made0 (k : Nat) : (madeCells (Value.int .i64 0).cells (k * 1)).toList = il (List.replicate k 0) := by
  rw [show (Value.int .i64 0).cells = #[.int .i64 0] from rfl, Nat.mul_one, toList_madeCells_one]
  simp [il, List.map_replicate]
theorem rowBound {pre : List S} {s : S} (h : pre.length < (subsetsL s).length) (h2 : (subsetsL s).length ≤ 60000) : pre.length ≤ 60000 := by omega
theorem infl_nil (m : List S) (k : Nat) : inflL m k [] = List.replicate k 0 := by
  apply List.ext_getElem?
  intro j
  by_cases h : j < k
  · simp [inflL, h]; rfl
  · simp [inflL, h]
theorem makeN (k : Nat) (hk : k ≤ 12) (base : Nat) (w : World) (hb : base ≤ w.heap.size) : ∃ w', (Instr.makeSlice 39 (.int .i64 (k : Int)) (.int .i64 (k : Int))).run Tryd.prog w = .ok (.slice (some ⟨w.heap.size, 0, none⟩) k k) w' ∧
    w'.ownsRow base 2 1 (.slice (some ⟨w.heap.size, 0, none⟩) k k) k (il (List.replicate k 0)) ∧ Keeps w w' ∧ w'.heap.size = w.heap.size + 1 := by
  obtain ⟨i0, hi, hz0, hz1, hz2⟩ := info_parts info64
  have hr := run_makeSlice (P := Tryd.prog) w 39 2 i0 (.int .i64 0) Tryd.underlying39 hi hz0 .i64 .i64 k k (by omega) (Int.le_refl _) (by rw [hz1]; omega) (by rw [hz2]; omega) (by omega)
  simp only [Int.toNat_natCast, hz1] at hr
  refine ⟨_, hr, ?_, (Keeps.refl w).alloc _, by rw [World.size_alloc]⟩
  rw [← made0 k]
  exact World.ownsRow_lit w _ k hb (by unfold maxLen; omega) (size_madeCells _ _)

theorem inflResults {W : World} {tmps : Array Value} {v e : Value} (t1 : tmps.getD 4 undef = v) (t2 : tmps.getD 5 undef = e) :
    (results Tryd.f20 tmps).run Tryd.prog W = .ok (.tuple #[v, e]) W := by
  simp only [Array.getD_eq_getD_getElem?] at t1 t2
  simp [results, Tryd.f20, t1, t2]
theorem ne1 {a b : Nat} (h : a ≠ b) : some a ≠ some b := fun e => h (Option.some.inj e)
theorem kpSet {V : World} {n₀ B g i n cap base : Nat} {v : Value} {xs : List Value} (h : V.ownsRow base 2 1 (.slice (some ⟨g, 0, none⟩) n cap) n xs) (hn : n₀ ≤ g) (hB : B ≠ g) : KpS n₀ B V (V.setCell ⟨g, i, none⟩ v) := by
  refine ⟨Below.setCell (Below.refl n₀ V) hn v, fun k cs hk => Below.heap_setCell _ _ _ k ?_, fun o ho => (Below.heap_setCell _ _ _ B hB).trans ho⟩
  rintro rfl
  rcases h.2 with ⟨h', _⟩ | ⟨g', cap', cur, h', _, hg, _⟩
  · simp at h'
  · simp only [Value.slice.injEq, Option.some.injEq, Addr.mk.injEq, and_true, true_and] at h'
    obtain ⟨rfl, rfl⟩ := h'
    rw [hg] at hk; cases hk

set_option maxRecDepth 100000 in
set_option maxHeartbeats 4000000 in
theorem influence_any (a : Option Addr) (m c : Nat) (l : List S) (n : Int) (w : World) (hT : Tab w) (h : Rd w a m c 1 (sl l)) (hm : m ≤ 1000000) :
    Calls Tryd.prog 20 #[.slice a m c, .int .i64 n] w fun e w' => ∃ v, e = .returned (.tuple #[v, .int .i64 (inflErr l n).2]) ∧ Own 2 1 w w' v (inflErr l n).1.length (il (inflErr l n).1) := by
  have ha := fun W (k : Keeps w W) => among_any a m c l n W (h.keep k)
  have hmi := fun (he : (amongErr l n).2 = 0) W (k : Keeps w W) => minimal_any a m c l W (h.keep k) hm
  have hok := fun (he : (amongErr l n).2 = 0) => least_ok (among_valid he).1
  have hav := fun (he : (amongErr l n).2 = 0) => among_valid he
  have hdd : ∀ j : Nat, (Fence.wide.depth.isSome = true → 1 ≤ j) := fun j h => by cases h
  have hw : inflErr l n = if (amongErr l n).2 ≠ 0 then ([], (amongErr l n).2) else (inflL l n.toNat (subsetsL (fullS n.toNat)), 0) := rfl
  unfold RetE at ha
  generalize amongErr l n = r at *
  obtain ⟨s, er⟩ := r
  simp only at *
  have HA := Lib.hid ha; have HW := Lib.hid hw
  clear ha hw
  refine (callsIn_wide (n := 8)).1 ?_
  refine callsIn_of_wp_marks Tryd.func20 rfl trivial ?_ rfl
  simp only [Tryd.ntmps20, List.size_toArray, List.length_cons, List.length_nil, Nat.reduceAdd, Nat.reduceSub, Array.replicate_succ, Array.replicate_zero, List.push_toArray, List.append_toArray, List.nil_append, List.cons_append]
  gi_wp2
  have k0 : Keeps w (w.alloc (.cells #[.int .i64 n] 3)) := (Keeps.refl w).alloc _
  have b3 : Boxed (w.alloc (.cells #[.int .i64 n] 3)) w.heap.size 3 (.int .i64 n) := Boxed.new w _ _
  refine ⟨trivial, ?_⟩
  refine (callsIn_wide.2 (HA.out _ k0)).mono ?_
  rintro e wa ⟨rfl, k1⟩
  have ka := k0.trans k1
  have hwa : w.heap.size < wa.heap.size := by have := k1.size; rw [World.size_alloc] at this; omega
  replace b3 := boxedKeep b3 k1
  have KA := Lib.hid ka
  clear k0 k1 ka
  by_cases hz : er = 0
  · subst hz
    obtain ⟨hv, n0, n1, rfl, hsp⟩ := hav rfl
    obtain ⟨k, rfl⟩ : ∃ j : Nat, n = j := ⟨n.toNat, by omega⟩
    rw [Int.toNat_natCast] at *
    have hk : k ≤ 12 := by omega
    have h1 := hmi rfl
    rw [hok rfl] at h1
    unfold RetS at h1
    simp only at h1
    have H1 := Lib.hid h1
    clear hmi hok hav h1
    gi_wp2
    refine ⟨trivial, ?_⟩
    refine (callsIn_wide.2 (H1.out _ KA.out)).mono ?_
    rintro e wb ⟨v2, rfl, hO⟩
    obtain ⟨a2, c2, rfl, hR⟩ := hO.rd
    have kb := KA.out.trans hO.2
    replace b3 := boxedKeep b3 hO.2
    have c3 := (b3.alloc (.cells #[.slice a2 l.length c2] 23)).cell
    have b8 := Boxed.new wb 23 (.slice a2 l.length c2)
    obtain ⟨wm, hrun, hrow0, kmk, szm⟩ := makeN k hk (wb.heap.size + 1) (wb.alloc (.cells #[.slice a2 l.length c2] 23)) (by simp)
    rw [World.size_alloc] at hrun hrow0
    have hszm : wm.heap.size = wb.heap.size + 1 + 1 := by rw [szm, World.size_alloc]
    clear szm
    gi_wp2
    refine ⟨trivial, ?_⟩
    refine (callsIn_wide.2 (subsets_any _ _)).mono ?_
    rintro e wc ⟨rfl, hwc⟩
    have kmc : Keeps wm wc := hwc ▸ ((Keeps.refl wm).alloc _).alloc _
    have kbm : Keeps wb wm := ((Keeps.refl wb).alloc _).trans kmk
    have b9 : Boxed wc (wb.heap.size + 1 + 1) 39 (.slice (some ⟨wb.heap.size + 1, 0, none⟩) k k) := by
      have := Boxed.new wm 39 (.slice (some ⟨wb.heap.size + 1, 0, none⟩) k k)
      rw [hszm] at this
      exact hwc ▸ this.alloc _
    have bS : Boxed wc (wb.heap.size + 1 + 1 + 1) 31 (.int .u16 (sv (fullS k))) := by
      have := Boxed.new (wm.alloc (.cells #[.slice (some ⟨wb.heap.size + 1, 0, none⟩) k k] 39)) 31 (.int .u16 (sv (fullS k)))
      rw [World.size_alloc, hszm] at this
      exact hwc ▸ this
    have hszc : wc.heap.size = wb.heap.size + 1 + 1 + 1 + 1 := by rw [hwc]; simp; omega
    clear hwc
    replace b3 := boxedKeep b3 (kbm.trans kmc)
    replace b8 := boxedKeep b8 (kmk.trans kmc)
    have hrowc := kmc.own hrow0
    have hrow2 := (kbm.trans kmc).own hO.1
    have hne : (Value.slice a2 l.length c2).ownBlock = none ∨ (Value.slice a2 l.length c2).ownBlock ≠ some (wb.heap.size + 1) := by
      cases ho : (Value.slice a2 l.length c2).ownBlock with
      | none => exact .inl rfl
      | some b => exact .inr (fun e => by have := (hO.1.lt b ho).2; cases e; omega)
    have kwc := kb.trans (kbm.trans kmc)
    have hszw := KA.out.size
    have hszab := hO.2.size
    have hlt3 := b3.lt
    have hw3 : w.heap.size < wa.heap.size := hwa
    rw [← infl_nil l k] at hrowc
    have hsmall : small (fullS k) := full_small k hk
    have hlen : (subsetsL (fullS k)).length ≤ 60000 := subsetsL_len hsmall
    clear hrow0 hrun
    have hnum : 0 < w.heap.size := hT.lt
    gi_wp2
    refine wpIn_rangeFunc_ownG rfl (by omega) (gf := 68) (lb := #[.pointer (some ⟨wb.heap.size + 1 + 1 + 1, 0, none⟩)]) rfl trivial (enters_of Tryd.func68 (by kernel_rfl) rfl)
      (subsets_stops 7 w.heap.size (wb.heap.size + 1 + 1 + 1) (fullS k) hsmall wc (hT.keep kwc) hT.lt kwc.size bS) KpS.trans ?hkb (Below.refl _ _) (fun _ => rfl)
      (fun pre W => W.ownsRow (wb.heap.size + 1) 2 1 (.slice (some ⟨wb.heap.size + 1, 0, none⟩) k k) k (il (inflL l k pre)) ∧ W.ownsRow wa.heap.size 31 1 (.slice a2 l.length c2) l.length (sl l) ∧ Boxed W w.heap.size 3 (.int .i64 k) ∧ Boxed W wb.heap.size 23 (.slice a2 l.length c2) ∧ Boxed W (wb.heap.size + 1 + 1) 39 (.slice (some ⟨wb.heap.size + 1, 0, none⟩) k k) ∧ Below w.heap.size w W ∧ wc.heap.size ≤ W.heap.size)
      (fun cd pre W => False)
      ?hI ?hIx ?h0 ?a1 ?assign ?body ?done ?stop
    case hkb => exact fun W l' o o' h1 h2 h3 h4 => kpS_b kwc.size (by omega) W l' o o' h1 h2 h3 h4
    case a1 => exact fun x => { tmps := #[.slice a m c, .int .i64 k, undef, .pointer (some ⟨w.heap.size, 0, none⟩), .slice none 0 0, .int .i64 0, .int .u16 (sv (fullS k)), .int .i64 0, .pointer (some ⟨wb.heap.size, 0, none⟩), .pointer (some ⟨wb.heap.size + 1 + 1, 0, none⟩), .int .u16 (sv x), undef, .tuple #[.int .u16 (sv (fullS k)), .int .i64 0], .slice a m c, .int .i64 k, .tuple #[.int .u16 (sv (fullS k)), .int .i64 0], .int .u16 (sv (fullS k)), .int .i64 0, .int .i64 0, .bool false, undef, .tuple #[.slice a2 l.length c2, .int .i64 0], .slice a m c, .tuple #[.slice a2 l.length c2, .int .i64 0], .slice a2 l.length c2, .int .i64 0, .int .i64 0, .bool false, undef, .int .i64 k, .slice (some ⟨wb.heap.size + 1, 0, none⟩) k k, .int .u16 (sv (fullS k)), .func (.func 68) #[] #[.pointer (some ⟨wb.heap.size + 1 + 1 + 1, 0, none⟩)], .int .u16 (sv x), undef, undef, undef, undef, undef, undef, undef, undef, undef, undef, undef, undef, undef, undef, undef, undef, undef, undef, undef, undef, undef, undef, undef, undef, undef, undef, undef, undef], defers := [] }
    case assign =>
      intro l' x W K hK
      unfold vs
      gi_wp2
      exact hK
    case hI =>
      rintro s A B row ⟨h1, h2, h3, h4, h5, h6, h7⟩ hg hr
      have apart : ∀ {e : TypeId} {sz base n : Nat} {v : Value} {xs : List Value}, A.ownsRow base e sz v n xs → v.ownBlock = none ∨ v.ownBlock ≠ row := by
        intro e sz base n v xs hrow
        rcases hrow.2 with ⟨rfl, _⟩ | ⟨g, cap, cur, rfl, _, hgb, _⟩
        · exact .inl rfl
        · refine .inr fun e' => ?_
          obtain ⟨_, o, ho, hc⟩ := hr g (by simpa [Value.ownBlock] using e'.symm)
          rw [hgb] at ho; cases ho; cases hc
      exact ⟨h1.kept hg (apart h1), h2.kept hg (apart h2), boxK h3 hg hr, boxK h4 hg hr, boxK h5 hg hr, belK h6 kwc.size hg hr, Nat.le_trans h7 hg.size⟩
    case hIx =>
      rintro cd s A B row hf
      exact hf.elim
    case h0 => exact ⟨hrowc, hrow2, b3, b8, b9, kwc, Nat.le_refl _⟩
    case body =>
      rintro l' pre x W ⟨h1, h2, h3, h4, h5, h6, h7⟩ hpl
      have hpl2 : pre.length ≤ 60000 := by have : pre.length < (subsetsL (fullS k)).length := hpl; omega
      obtain ⟨a', c', he, hRl⟩ := own_rd h2
      cases he
      have hacc := accepts_any a2 _ c2 l x W hRl
      have c8 := h4.cell
      have HA2 := Lib.hid hacc
      have HROW := Lib.hid h1; have HROW2 := Lib.hid h2; have HPL := Lib.hid hpl2
      clear hacc h1 h2 hRl hpl hpl2
      gi_wp2
      refine ⟨trivial, ?_⟩
      refine (CallsIn.inRound l' (callsIn_wide.2 HA2.out)).mono ?_
      rintro e W2 ⟨rfl, kW⟩
      have hsz := h6.size
      replace h3 := boxedKeep h3 kW
      replace h4 := boxedKeep h4 kW
      replace h5 := boxedKeep h5 kW
      have kk : Below w.heap.size w W2 := Keeps.trans h6 kW
      have hr1 := kW.own HROW.out
      have hr2 := kW.own HROW2.out
      have hs2 := kW.size
      cases hq : accS l x with
      | true =>
        have e1 := inflM_acc l k pre x hq
        rw [← e1] at hr1
        have HR1 := Lib.hid hr1; have HR2 := Lib.hid hr2
        clear e1 hr1 hr2 hq
        gi_wp2
        exact ⟨keepsFrom kW _, KpS.of kW hsz, HR1.out, HR2.out, h3, h4, h5, kk, by omega⟩
      | false =>
        rw [← inflM_zero l k pre x] at hr1
        have HR1 := Lib.hid hr1; have HR2 := Lib.hid hr2; have HQ := Lib.hid hq
        clear hr1 hr2 hq
        have c3 := h3.cell
        gi_wp2
        gi_loopw [38] (fun v wx => ∃ i : Nat, i ≤ k ∧ v = .int .i64 i ∧ wx.ownsRow (wb.heap.size + 1) 2 1 (.slice (some ⟨wb.heap.size + 1, 0, none⟩) k k) k (il (inflM l k pre x i)) ∧ wx.ownsRow wa.heap.size 31 1 (.slice a2 l.length c2) l.length (sl l) ∧ Boxed wx w.heap.size 3 (.int .i64 k) ∧ Boxed wx wb.heap.size 23 (.slice a2 l.length c2) ∧ Boxed wx (wb.heap.size + 1 + 1) 39 (.slice (some ⟨wb.heap.size + 1, 0, none⟩) k k) ∧ Below w.heap.size w wx ∧ wc.heap.size ≤ wx.heap.size ∧ KeepsFrom wc.heap.size W wx ∧ KpS w.heap.size (wb.heap.size + 1 + 1 + 1) W wx) (fun v _ => k - (intOf v).toNat)
        case atStart => exact ⟨0, Nat.zero_le _, rfl, HR1.out, HR2.out, h3, h4, h5, kk, by omega, keepsFrom kW _, KpS.of kW hsz⟩
        case round =>
          obtain ⟨i, hi, rfl, q1, q2, q3, q4, q5, q6, q7, q8, q9⟩ := hrel
          have hend : ∀ (j : Nat) V, Keeps wr V → j ≤ k → wr.ownsRow (wb.heap.size + 1) 2 1 (.slice (some ⟨wb.heap.size + 1, 0, none⟩) k k) k (il (inflM l k pre x j)) → ∃ i : Nat, i ≤ k ∧ Value.int .i64 (j : Int) = .int .i64 i ∧ V.ownsRow (wb.heap.size + 1) 2 1 (.slice (some ⟨wb.heap.size + 1, 0, none⟩) k k) k (il (inflM l k pre x i)) ∧ V.ownsRow wa.heap.size 31 1 (.slice a2 l.length c2) l.length (sl l) ∧ Boxed V w.heap.size 3 (.int .i64 k) ∧ Boxed V wb.heap.size 23 (.slice a2 l.length c2) ∧ Boxed V (wb.heap.size + 1 + 1) 39 (.slice (some ⟨wb.heap.size + 1, 0, none⟩) k k) ∧ Below w.heap.size w V ∧ wc.heap.size ≤ V.heap.size ∧ KeepsFrom wc.heap.size W V ∧ KpS w.heap.size (wb.heap.size + 1 + 1 + 1) W V := fun j V K hj hr =>
            ⟨j, hj, rfl, K.own hr, K.own q2, boxedKeep q3 K, boxedKeep q4 K, boxedKeep q5 K, Keeps.trans q6 K, Nat.le_trans q7 K.size, q8.trans (keepsFrom K _), q9.trans (KpS.of K q6.size)⟩
          by_cases hlt : i < k
          · have hi15 : i ≤ 15 := by omega
            have ii0 : (0 : Int) ≤ (i : Int) := by omega
            cases hb : ((x >>> i) &&& 1#16 == 0#16) with
            | false =>
              have hdc : decides l i x = false := by unfold decides; rw [hb]; simp
              have hfin := fun V K => hend (i + 1) V K (by omega) (by rw [inflM_skip l k pre x i hdc]; exact q1)
              have FIN := Lib.hid hfin
              clear q1 q2 q3 q4 q5 q6 q7 q8 q9 hdc hend hfin
              gi_wp2
              gi_region_with (refine ⟨trivial, ?_⟩)
              all_goals gi_wp2
              all_goals exact ⟨FIN.out _ ((Keeps.refl _).drew), by simp [intOf]; omega⟩
            | true =>
              have hW0 : ∀ V, Keeps wr V → Calls Tryd.prog 50 #[.slice a2 l.length c2, .int .u16 (sv (x ||| (1#16 <<< i)))] V fun e w' => e = .returned (.bool (accS l (x ||| (1#16 <<< i)))) ∧ Keeps V w' := fun V K => by
                obtain ⟨a', c', he, hRl⟩ := own_rd (K.own q2)
                cases he
                exact accepts_any a2 _ c2 l _ V hRl
              have c8 := q4.cell
              have hd0 : decides l i x = accS l (x ||| (1#16 <<< i)) := by unfold decides; rw [HQ.out, hb]; rfl
              cases hq2 : accS l (x ||| (1#16 <<< i)) with
              | false =>
                rw [hq2] at hW0 hd0
                have hfin := fun V K => hend (i + 1) V K (by omega) (by rw [inflM_skip l k pre x i hd0]; exact q1)
                have FIN := Lib.hid hfin
                have HW0 := Lib.hid hW0
                clear q1 q2 q3 q4 q5 q6 q7 q8 q9 hd0 hW0 hq2 hend hfin
                gi_wp2
                gi_region_with (refine ⟨trivial, ?_⟩; refine (CallsIn.inRound l' (callsIn_wide.2 (HW0.out _ (by first | exact Keeps.refl _ | exact (Keeps.refl _).drew)))).mono ?_; rintro e W3 ⟨rfl, kW3⟩)
                all_goals gi_wp2
                all_goals exact ⟨FIN.out _ (((Keeps.refl _).drew).trans kW3), by simp [intOf]; omega⟩
              | true =>
                rw [hq2] at hW0 hd0
                have hfin : ∀ V, Keeps wr V → V.cell? ⟨wb.heap.size + 1 + 1, 0, none⟩ = some (.slice (some ⟨wb.heap.size + 1, 0, none⟩) k k) ∧ V.cell? ⟨wb.heap.size + 1, i, none⟩ = some (.int .i64 (inflC l pre i)) ∧ V.frozen? ⟨wb.heap.size + 1, i, none⟩ = false ∧ (∃ i_1 : Nat, i_1 ≤ k ∧ Value.int .i64 ((i : Int) + 1) = .int .i64 i_1 ∧ (V.setCell ⟨wb.heap.size + 1, i, none⟩ (.int .i64 ((inflC l pre i : Int) + 1))).ownsRow (wb.heap.size + 1) 2 1 (.slice (some ⟨wb.heap.size + 1, 0, none⟩) k k) k (il (inflM l k pre x i_1)) ∧ (V.setCell ⟨wb.heap.size + 1, i, none⟩ (.int .i64 ((inflC l pre i : Int) + 1))).ownsRow wa.heap.size 31 1 (.slice a2 l.length c2) l.length (sl l) ∧ Boxed (V.setCell ⟨wb.heap.size + 1, i, none⟩ (.int .i64 ((inflC l pre i : Int) + 1))) w.heap.size 3 (.int .i64 k) ∧ Boxed (V.setCell ⟨wb.heap.size + 1, i, none⟩ (.int .i64 ((inflC l pre i : Int) + 1))) wb.heap.size 23 (.slice a2 l.length c2) ∧ Boxed (V.setCell ⟨wb.heap.size + 1, i, none⟩ (.int .i64 ((inflC l pre i : Int) + 1))) (wb.heap.size + 1 + 1) 39 (.slice (some ⟨wb.heap.size + 1, 0, none⟩) k k) ∧ Below w.heap.size w (V.setCell ⟨wb.heap.size + 1, i, none⟩ (.int .i64 ((inflC l pre i : Int) + 1))) ∧ wc.heap.size ≤ (V.setCell ⟨wb.heap.size + 1, i, none⟩ (.int .i64 ((inflC l pre i : Int) + 1))).heap.size ∧ KeepsFrom wc.heap.size W (V.setCell ⟨wb.heap.size + 1, i, none⟩ (.int .i64 ((inflC l pre i : Int) + 1))) ∧ KpS w.heap.size (wb.heap.size + 1 + 1 + 1) W (V.setCell ⟨wb.heap.size + 1, i, none⟩ (.int .i64 ((inflC l pre i : Int) + 1)))) := fun V K => by
                  have row := K.own q1
                  have st := row.stored i (.int .i64 ((inflC l pre i : Int) + 1))
                  have est : (il (inflM l k pre x i)).set i (.int .i64 ((inflC l pre i : Int) + 1)) = il (inflM l k pre x (i + 1)) := by
                    rw [inflM_add l k pre x i hd0]; simp [il, List.map_set]
                  rw [est] at st
                  refine ⟨(boxedKeep q5 K).cell, ?_, row.frozenAt i, i + 1, by omega, by go_num, st.1, (K.own q2).kept st.2 hne, (boxedKeep q3 K).kept st.2 (ne1 (by omega)), (boxedKeep q4 K).kept st.2 (ne1 (by omega)), (boxedKeep q5 K).kept st.2 (ne1 (by omega)), Below.setCell (Keeps.trans q6 K) (by simp; omega) _, Nat.le_trans (Nat.le_trans q7 K.size) st.2.size, (q8.trans (keepsFrom K _)).trans ((KeepsOthers.setCell _ _ _).from _), (q9.trans (KpS.of K q6.size)).trans (kpSet row (by omega) (by omega))⟩
                  rw [row.cellAt i (by omega), il_at _ i (by rw [inflM_len]; exact hlt), inflM_at _ _ _ _ _ hlt]
                have FIN := Lib.hid hfin
                have HW0 := Lib.hid hW0
                have hcle := Nat.le_trans (inflC_le l pre i) HPL.out
                clear q1 q2 q3 q4 q5 q6 q7 q8 q9 hd0 hW0 hq2 hend hfin
                gi_wp2
                gi_region_with (refine ⟨trivial, ?_⟩; refine (CallsIn.inRound l' (callsIn_wide.2 (HW0.out _ (by first | exact Keeps.refl _ | exact (Keeps.refl _).drew)))).mono ?_; rintro e W3 ⟨rfl, kW3⟩; obtain ⟨z1, z2, z3, -⟩ := FIN.out _ (((Keeps.refl _).drew).trans kW3))
                all_goals gi_wp2
                all_goals exact ⟨(FIN.out _ (((Keeps.refl _).drew).trans kW3)).2.2.2, by simp [intOf]; omega⟩
          · have hik : i = k := by omega
            have hfull : inflM l k pre x i = inflL l k (pre ++ [x]) := by rw [hik]; exact inflM_full l k pre x
            rw [hfull] at q1
            have Q1 := Lib.hid q1; have Q2 := Lib.hid q2
            clear q1 q2 hfull hik hend
            gi_wp2
            exact ⟨q8, q9, Q1.out, Q2.out, q3, q4, q5, q6, q7⟩
    case done =>
      rintro D ys W hD rfl ⟨h1, h2, h3, h4, h5, h6, h7⟩ hK
      have c9 := h5.cell
      have HR : Hid (inflErr l k = (inflL l k (subsetsL (fullS k)), 0)) := by show _ = _; rw [HW.out, if_neg (by simp)]
      have HROW := Lib.hid h1
      have hr : ∀ r, some D = some r → w.heap.size ≤ r ∧ ∃ o : Obj, W.heap[r]? = some o ∧ o.isCells = false := fun r e => by cases e; exact ⟨Nat.le_trans kwc.size hD, _, hK, rfl⟩
      clear h1
      gi_wp2
      refine ⟨by simp, .inl ⟨_, _, rfl, run_takeDeferred hK, ?_⟩⟩
      refine ⟨_, inflResults rfl rfl, ?_⟩
      rw [HR.out]
      refine ⟨_, rfl, ?_, belK h6 (Nat.le_refl _) (grownBy_putObj' _ D _) hr⟩
      have := ownsRow_putObj (ownWeak HROW.out (show w.heap.size ≤ wb.heap.size + 1 by omega)) (.deferred none) hK rfl
      rw [inflL_len]
      exact this
    case stop =>
      rintro D cd pre W hD hpre hf hK
      exact hf.elim
  · have hzb : (er != 0) = true := by simpa using hz
    have HR : Hid (inflErr l n = ([], er)) := by show inflErr l n = _; rw [HW.out, if_pos hz]
    clear hz hmi hok hav
    gi_wp2
    refine ⟨_, inflResults rfl rfl, ?_⟩
    rw [HR.out]
    exact ⟨_, rfl, Own.nil _ _ KA.out⟩
end Go.Proofs.YtbiggfbbccpcmaaDoor
