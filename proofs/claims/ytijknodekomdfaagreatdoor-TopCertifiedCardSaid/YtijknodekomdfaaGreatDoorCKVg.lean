/- Texts joined into one, what is needed of them (a program of ours). -/
import Derived.Test.YtijknodekomdfaaGreatDoorCKVf
namespace Go.Proofs.YtijknodekomdfaaGreatDoor
open Go.RowKit Go.Lib Go.Shelf

theorem info_int : (Tryz.prog.info? 3).map (fun i => (i.zero, i.size, i.bytes)) = some (some (.int .i64 0), 1, 8) := by kernel_rfl
theorem il_set (l : List Nat) (k v : Nat) : il (l.set k v) = (il l).set k (.int .i64 v) := by simp [il, List.map_set]
theorem parL_snoc (n : Nat) (ns : List CH) (i : Nat) (h : i < ns.length) : parL n (ns.take (i + 1)) = (refsC (chA ns i)).foldl incL (parL n (ns.take i)) := by
  unfold parL
  rw [take_chA ns i h, List.flatMap_append, List.foldl_append]
  simp
theorem Blk.x3 {w : World} {B : Nat} {T : TypeId} {v0 v1 v2 : Value} (h : Blk w B T #[v0, v1, v2]) : (w.cell? ⟨B, 0, none⟩ = some v0 ∧ w.cell? ⟨B, 1, none⟩ = some v1 ∧ w.cell? ⟨B, 2, none⟩ = some v2) := ⟨h.cell 0 rfl, h.cell 1 rfl, h.cell 2 rfl⟩
theorem made0I (k : Nat) : (madeCells (Value.int .i64 0).cells (k * 1)).toList = il (List.replicate k 0) := by
  rw [show (Value.int .i64 0).cells = #[.int .i64 0] from rfl, Nat.mul_one, toList_madeCells_one]
  simp [il, List.map_replicate]
theorem makeI (k : Nat) (hk : k ≤ 8191) (w : World) : ∃ w', (Instr.makeSlice 191 (.int .i64 (k : Int)) (.int .i64 (k : Int))).run Tryz.prog w = .ok (.slice (some ⟨w.heap.size, 0, none⟩) k k) w' ∧
    Own 3 1 w w' (.slice (some ⟨w.heap.size, 0, none⟩) k k) k (il (List.replicate k 0)) := by
  obtain ⟨i0, hi, hz0, hz1, hz2⟩ := info_parts info_int
  have hr := run_makeSlice (P := Tryz.prog) w 191 3 i0 (.int .i64 0) Tryz.underlying191 hi hz0 .i64 .i64 k k (by omega) (Int.le_refl _) (by rw [hz1]; omega) (by rw [hz2]; omega) (by omega)
  simp only [Int.toNat_natCast, hz1] at hr
  refine ⟨_, hr, ?_, (Keeps.refl w).alloc _⟩
  rw [← made0I k]
  exact World.ownsRow_lit w _ k (Nat.le_refl _) (by unfold maxLen; omega) (size_madeCells _ _)
theorem refs_len : ∀ (l : List CH), (l.flatMap refsC).length ≤ 2 * l.length
  | [] => by simp
  | x :: r => by
    have := refs_len r
    rw [List.flatMap_cons, List.length_append, List.length_cons]
    have h2 : (refsC x).length ≤ 2 := by unfold refsC; split <;> simp
    omega
theorem im_inc (pl : List Nat) (k y : Nat) : im (incL pl k) y ≤ im pl y + 1 := by
  unfold im incL
  by_cases hy : y < pl.length
  · by_cases e : k = y
    · subst e
      rw [List.getD, List.getElem?_set_self hy, Option.getD_some]
      exact Nat.le_refl _
    · rw [List.getD, List.getElem?_set_ne e, ← List.getD]
      omega
  · rw [List.getD, List.getElem?_eq_none (by rw [List.length_set]; omega)]
    simp
theorem il_inc (pl : List Nat) (k : Nat) : il (incL pl k) = (il pl).set k (.int .i64 ((im pl k + 1 : Nat) : Int)) := by
  unfold incL im
  rw [il_set]
theorem own_atI {e : TypeId} {w0 w : World} {g n cap : Nat} {l : List Nat} (h : Own e 1 w0 w (.slice (some ⟨g, 0, none⟩) n cap) n (il l)) {k : Nat} (hk : k < n) : w.cell? ⟨g, k, none⟩ = some (.int .i64 ((im l k : Nat) : Int)) ∧ w.frozen? ⟨g, k, none⟩ = false := by
  have hl : l.length = n := by have := h.1.1; simpa [il] using this
  refine ⟨?_, h.1.frozenAt k⟩
  rw [h.1.cellAt k (by omega), il_at l k (by omega)]
theorem own_inc {e : TypeId} {w0 w : World} {g n cap : Nat} {l : List Nat} (h : Own e 1 w0 w (.slice (some ⟨g, 0, none⟩) n cap) n (il l)) (k : Nat) {v : Int} (hv : v = ((im l k : Nat) : Int) + 1) : Own e 1 w0 (w.setCell ⟨g, k, none⟩ (.int .i64 v)) (.slice (some ⟨g, 0, none⟩) n cap) n (il (incL l k)) := by
  subst hv
  rw [il_inc]
  exact own_put1' h k _
set_option maxRecDepth 20000 in
set_option maxHeartbeats 4000000 in
theorem formed_any (a : Option Addr) (c : Nat) (ns : List CH) (root : Nat) (w : World) (h : Rd w a ns.length c 3 (chl ns)) (hF : Formed ns root) :
    Calls Tryz.prog 137 #[.agg #[.slice a ns.length c, .int .i64 root]] w fun e w' => e = .returned (.bool true) ∧ Keeps w w' := by
  obtain ⟨fl, fm, fo, fp⟩ := hF
  have hok : ∀ i, i < ns.length → nodeOk i (chA ns i) := fo
  have hp0 : parL ns.length (ns.take 0) = List.replicate ns.length 0 := rfl
  have hps : ∀ i, i < ns.length → parL ns.length (ns.take (i + 1)) = (refsC (chA ns i)).foldl incL (parL ns.length (ns.take i)) := fun i hi => parL_snoc _ ns i hi
  have hpl : ∀ i, (parL ns.length (ns.take i)).length = ns.length := fun i => parL_len _ _
  have hpf : ∀ i, i < ns.length → im (parL ns.length (ns.take ns.length)) i = if i < root then 1 else 0 := fun i hi => by
    unfold im
    rw [List.take_length, parL_at _ _ _ hi, fp i hi]
  have hpb : ∀ i k, i ≤ ns.length → k < ns.length → im (parL ns.length (ns.take i)) k ≤ 20000 := fun i k hi hk => by
    unfold im
    rw [parL_at _ _ _ hk]
    have h1 := List.count_le_length (a := k) (l := (ns.take i).flatMap refsC)
    have h2 := refs_len (ns.take i)
    rw [List.length_take] at h2
    omega
  have s1 := h.small
  have HR := Lib.hid h
  generalize hn : ns.length = n at *
  obtain ⟨f, hfe⟩ : ∃ f : Nat → List Nat, ∀ k, f k = parL n (ns.take k) := ⟨_, fun _ => rfl⟩
  simp only [← hfe] at hp0 hps hpl hpf hpb
  have HPB := Lib.hid hpb
  have HOK := Lib.hid hok; have HP0 := Lib.hid hp0; have HPS := Lib.hid hps; have HPL := Lib.hid hpl; have HPF := Lib.hid hpf
  have K1 := (Keeps.refl w).alloc (.cells #[.slice a n c, .int .i64 root] 126)
  have b1 := Blk.new w 126 #[.slice a n c, .int .i64 root]
  obtain ⟨c0, c1⟩ := b1.x2
  have B1 := Lib.hid b1; have HK1 := Lib.hid K1
  have hr : root < n := by omega
  have hr2 : n ≤ root + 1 := by omega
  clear h hok hp0 hps hpl hpf hpb hfe fo fp hn fl K1 b1
  go_enter Tryz.func137, Tryz.ntmps137
  go_upto_region 4 with fail
  generalize w.alloc (.cells #[.slice a n c, .int .i64 root] 126) = W1 at *
  obtain ⟨W2, hrun, ho⟩ := makeI n fm W1
  have HO := Lib.hid ho
  have hg : W1.heap.size ≠ w.heap.size := by have := B1.out.lt; omega
  have e1 : decide ((n : Int) < 1) = false := by simp; omega
  have e2 : decide (8191 < (n : Int)) = false := by simp; omega
  have e3 : decide ((root : Int) < 0) = false := by simp
  have e4 : decide (n ≤ root) = false := by simp; omega
  clear ho
  go_upto_region 5 with fail
  simp only [e1, e2, e3, e4, Bool.or_self]
  have HG := Lib.hid hg
  clear e1 e2 e3 e4 hrun c0 c1 hg
  have c0 : W2.cell? ⟨w.heap.size, 0, none⟩ = some (.slice a n c) := (B1.out.keep HO.out.2).cell 0 rfl
  have c1 : W2.cell? ⟨w.heap.size, 1, none⟩ = some (.int .i64 root) := (B1.out.keep HO.out.2).cell 1 rfl
  rw [← HP0.out] at HO
  generalize hgz : W1.heap.size = g at *
  clear hgz
  go_wp2_with fail
  clear c0 c1
  go_loopw [36] (fun u wr => ∃ i : Nat, i ≤ n ∧ u = .int .i64 i ∧ Own 3 1 W1 wr (.slice (some ⟨g, 0, none⟩) n n) n (il (f i))) (fun u _ => n - (RowKit.intOf u).toNat)
  case atStart => exact ⟨0, Nat.zero_le _, rfl, HO.out⟩
  case round =>
    clear HO
    obtain ⟨i, hi, rfl, hO⟩ := hrel
    have HO := Lib.hid hO
    clear hO
    by_cases hlt : i < n
    · obtain ⟨g0, g1, g2⟩ := chl_at (HR.out.keep (HK1.out.trans HO.out.2)) hlt
      have hao := HR.out.isSome (by omega)
      have hok := HOK.out i hlt
      have hps := HPS.out i hlt
      generalize chA ns i = z at *
      obtain ⟨sr, x, y⟩ := z
      unfold nodeOk at hok
      unfold refsC at hps
      dsimp only at g0 g1 g2 hok hps
      rcases hok with ⟨h1, rfl, rfl⟩ | ⟨h1, h2, h3, h4⟩
      · rw [if_pos (by omega)] at hps
        have HPS2 := Lib.hid hps
        clear hps
        rcases h1 with rfl | rfl
        all_goals
          go_wp2_with fail
          go_roundw
          case rel => exact ⟨i + 1, by omega, by go_num, by rw [HPS2.out]; exact HO.out.alloc _⟩
          case measure => simp [RowKit.intOf]; omega
      · rw [if_neg (by omega)] at hps
        have HPS2 := Lib.hid hps
        have d1 : (sr == -1) = false := by simp; omega
        have d2 : (sr == -2) = false := by simp; omega
        clear hps
        have hgl := (HO.out.1.lt g rfl).2
        have hl1 := Blk.new (wr.alloc (.cells #[.int .i64 sr, .int .i64 x, .int .i64 y] 206)) 3 #[.int .i64 x, .int .i64 y]
        rw [World.size_alloc] at hl1
        have ho1 := (HO.out.alloc (.cells #[.int .i64 sr, .int .i64 x, .int .i64 y] 206)).alloc (.cells #[.int .i64 x, .int .i64 y] 3)
        have HL1 := Lib.hid hl1; have HO1 := Lib.hid ho1
        clear hl1 ho1
        go_wp2_with fail
        generalize (wr.alloc (.cells #[.int .i64 sr, .int .i64 x, .int .i64 y] 206)).alloc (.cells #[.int .i64 x, .int .i64 y] 3) = W4 at *
        have HGL : Hid (g ≠ wr.heap.size + 1) := Lib.hid (by omega)
        generalize wr.heap.size + 1 = L at *
        clear g0 g1 g2 d1 d2 hgl
        go_loopw [73] (fun u wq => ∃ j : Nat, j ≤ 2 ∧ u = .int .i64 j ∧ Blk wq L 3 #[.int .i64 x, .int .i64 y] ∧ Own 3 1 W1 wq (.slice (some ⟨g, 0, none⟩) n n) n (il (([x, y].take j).foldl incL (f i)))) (fun u _ => 2 - (RowKit.intOf u).toNat)
        case atStart => exact ⟨0, by omega, rfl, HL1.out, HO1.out⟩
        case round =>
          obtain ⟨j, hj, rfl, hL, hO2⟩ := hrel
          rcases (show j = 0 ∨ j = 1 ∨ j = 2 by omega) with rfl | rfl | rfl
          · have d0 : wr.cell? ⟨L, 0, none⟩ = some (.int .i64 x) := hL.cell 0 rfl
            obtain ⟨d1, d2⟩ := own_atI hO2 (k := x) (by omega)
            have hq : im (f i) x ≤ 20000 := HPB.out i x hi (by omega)
            have HL2 := Lib.hid hL; have HO3 : Hid (Own 3 1 W1 wr (.slice (some ⟨g, 0, none⟩) n n) n (il (f i))) := Lib.hid hO2
            have d1' : wr.cell? ⟨g, x, none⟩ = some (.int .i64 ((im (f i) x : Nat) : Int)) := d1
            obtain ⟨q, hqe⟩ : ∃ q, q = im (f i) x := ⟨_, rfl⟩
            rw [← hqe] at d1' hq
            have HQ := Lib.hid hqe
            clear hL hO2 d1 hqe
            go_wp2_with fail
            go_roundw
            case rel => exact ⟨1, by omega, rfl, HL2.out.setOther (fun e => HGL.out e.symm) x _, own_inc HO3.out x (by rw [← HQ.out])⟩
            case measure => simp [RowKit.intOf]
          · have d0 : wr.cell? ⟨L, 1, none⟩ = some (.int .i64 y) := hL.cell 1 rfl
            obtain ⟨d1, d2⟩ := own_atI hO2 (k := y) (by omega)
            have hq : im (incL (f i) x) y ≤ 20001 := by have h1 := HPB.out i y hi (by omega); have h2 := im_inc (f i) x y; omega
            have HL2 := Lib.hid hL; have HO3 : Hid (Own 3 1 W1 wr (.slice (some ⟨g, 0, none⟩) n n) n (il (incL (f i) x))) := Lib.hid hO2
            have d1' : wr.cell? ⟨g, y, none⟩ = some (.int .i64 ((im (incL (f i) x) y : Nat) : Int)) := d1
            obtain ⟨q, hqe⟩ : ∃ q, q = im (incL (f i) x) y := ⟨_, rfl⟩
            rw [← hqe] at d1' hq
            have HQ := Lib.hid hqe
            clear hL hO2 d1 hqe
            go_wp2_with fail
            go_roundw
            case rel => exact ⟨2, by omega, rfl, HL2.out.setOther (fun e => HGL.out e.symm) y _, own_inc HO3.out y (by rw [← HQ.out])⟩
            case measure => simp [RowKit.intOf]
          · have HO3 : Hid (Own 3 1 W1 wr (.slice (some ⟨g, 0, none⟩) n n) n (il (f (i + 1)))) := Lib.hid (by rw [HPS2.out]; exact hO2)
            clear hL hO2
            go_wp2_with fail
            go_roundw
            case rel => exact ⟨i + 1, by omega, by go_num, HO3.out⟩
            case measure => simp [RowKit.intOf]; omega
    · obtain rfl : i = n := by omega
      go_wp2_with fail
      go_loopw [94] (fun u wq => ∃ j : Nat, j ≤ i ∧ u = .int .i64 j ∧ Keeps wr wq) (fun u _ => i - (RowKit.intOf u).toNat)
      case atStart => exact ⟨0, Nat.zero_le _, rfl, Keeps.refl _⟩
      case round =>
        obtain ⟨j, hj, rfl, K⟩ := hrel
        by_cases hlj : j < i
        · obtain ⟨d1, _⟩ := own_atI (HO.out.keep K) hlj
          rw [HPF.out j hlj] at d1
          have c1 : wr.cell? ⟨w.heap.size, 1, none⟩ = some (.int .i64 root) := (B1.out.keep (HO.out.2.trans K)).cell 1 rfl
          have HK := Lib.hid K
          clear K
          by_cases hjr : j < root
          · rw [if_pos hjr] at d1
            have b0 : ((j : Int) == (root : Int)) = false := by simp; omega
            go_wp2_with fail
            go_roundw
            case rel => exact ⟨j + 1, by omega, by go_num, HK.out⟩
            case measure => simp [RowKit.intOf]; omega
          · obtain rfl : j = root := by omega
            rw [if_neg hjr] at d1
            go_wp2_with fail
            go_roundw
            case rel => exact ⟨j + 1, by omega, by go_num, HK.out⟩
            case measure => simp [RowKit.intOf]; omega
        · have HK := Lib.hid K
          clear K
          go_wp2_with fail
          go_ret
          exact ⟨rfl, (HK1.out.trans HO.out.2).trans HK.out⟩
end Go.Proofs.YtijknodekomdfaaGreatDoor
