/- Texts joined into one (wip/bin/pack.py): D39H, D39I, D39J. -/
import Derived.Test.YtbcfkgolhklkaaaDoorKK
import Derived.Test.YtbcfkgolhklkaaaDoorKY
import Derived.Deep.RegionHeld3
import Derived.Test.YtbcfkgolhklkaaaDoorKZ
import Derived.Test.YtbcfkgolhklkaaaDoorKR
/- Chapter 39, the reference: good, Delivered, Consistent, Total. -/
namespace Go.Proofs.YtbcfkgolhklkaaaDoor
open Go.RowKit Go.Lib Go.Shelf

theorem honN_succ (byz : S) (l : List NA) (k : Nat) (h : k < l.length) : honN byz (l.take (k + 1)) = honN byz (l.take k) ++ (if honB byz (naA l k).x = true then [] else [naA l k]) := by
  rw [take_naA l k h]
  unfold honN
  rw [List.filter_append]
  cases hq : honB byz (naA l k).x <;> simp [hq]
theorem honN_len (byz : S) (l : List NA) : (honN byz l).length ≤ l.length := List.length_filter_le _ _
set_option maxHeartbeats 2000000 in
theorem rgood_any (w : World) (N : Int) (byz : S) (source : Int) (an : Option Addr) (cn : Nat) (nas : List NA) (gv : Value) (hn : Rd w an nas.length cn 9 (nl nas)) (hl : nas.length ≤ 1000000) (hid : ∀ z ∈ nas, 0 ≤ z.x.id ∧ z.x.id < 16) :
    Calls Tryd.prog 70 #[vCast N byz source (.slice an nas.length cn) gv] w fun e w' => ∃ v, e = .returned v ∧ Own 46 9 w w' v (honN byz nas).length (nl (honN byz nas)) := by
  have hs : ∀ (W : World) o, (W.alloc o).heap.size = W.heap.size + 1 := fun W o => World.size_alloc ..
  have kA := (Keeps.refl w).alloc (.cells #[.int .i64 N, .int .u16 (sv byz), .int .i64 source, .slice an nas.length cn, gv] 32)
  have hX := Blk.new w 32 #[.int .i64 N, .int .u16 (sv byz), .int .i64 source, .slice an nas.length cn, gv]
  have HK := Lib.hid kA; have HX := Lib.hid hX; have HN := Lib.hid (hn.keep kA)
  have HID := Lib.hid hid
  clear hX hn hid
  unfold vCast
  clear kA
  go_enter Tryd.func70, Tryd.ntmps70
  go_wp2_with fail
  generalize w.alloc (.cells #[.int .i64 N, .int .u16 (sv byz), .int .i64 source, .slice an nas.length cn, gv] 32) = w1 at *
  generalize w.heap.size = P1 at *
  clear hs
  go_loopw [3, 4] (fun s3 s4 wr => ∃ (k : Nat) (o : List NA), k ≤ nas.length ∧ s4 = .int .i64 k ∧ Own 46 9 w1 wr s3 o.length (nl o) ∧ Hid (honN byz (nas.take k) = o) ∧ Hid (o.length ≤ k)) (fun _ s4 _ => nas.length - (RowKit.intOf s4).toNat)
  case atStart => exact ⟨0, [], Nat.zero_le _, rfl, .nil _ _ (Keeps.refl _), Lib.hid rfl, Lib.hid (Nat.le_refl _)⟩
  case round =>
    obtain ⟨k, o, hk, rfl, hO, HO, HL⟩ := hrel
    have K := hO.2
    obtain ⟨x0, x1, x2, x3, x4⟩ := c5 (HX.out.keep K)
    by_cases hlt : k < nas.length
    · obtain ⟨p0, p1, p2, p3, p4, p5, p6, p7, p8⟩ := nl_at (HN.out.keep K) hlt
      have hao := (HN.out.keep K).isSome (by omega)
      have hz := HID.out _ (naA_mem hlt)
      have HS := Lib.hid (honN_succ byz nas k hlt)
      generalize naA nas k = z at *
      obtain ⟨d, hd⟩ : ∃ d : Nat, z.x.id = (d : Int) := ⟨z.x.id.toNat, by omega⟩
      have hd16 : d < 16 := by omega
      have hhas := fun W => (has7_any byz d hd16 W).mono fun _ _ h => And.intro h.1 h.2.symm
      have hhb : honB byz z.x = ((byz >>> d) &&& 1#16 == 1#16) := by
        unfold honB
        rw [hd, bit1_S, show decide (0 ≤ (d : Int) ∧ (d : Int) < 16) = true from decide_eq_true ⟨by omega, by omega⟩]
        rfl
      have HOO := Lib.hid hO
      have hL1 := HL.out
      have HLB : Hid (o.length + 1 ≤ 10000000) := Lib.hid (by omega)
      clear hz hL1 K hO
      generalize ((byz >>> d) &&& 1#16 == 1#16) = hb at hhas hhb
      rw [hd] at p0
      cases hb with
      | true =>
        have HH : Hid (honN byz (nas.take (k + 1)) = o) := Lib.hid (by rw [HS.out, hhb, HO.out]; simp)
        have HC := Lib.hid hhas
        clear hhas hhb hd HO HS
        go_wp2_with (go_quiet ((go_at_call 47; exact Calls.quiet_of_same (HC.out _))))
        clear x0 x1 x2 x3 x4 p0 p1 p2 p3 p4 p5 p6 p7 p8
        go_roundw
        case rel => exact ⟨k + 1, o, by omega, by go_num, HOO.out.keep ((Keeps.refl _).drewN _), HH, Lib.hid (by have := HL.out; omega)⟩
        case measure => simp [RowKit.intOf]; omega
      | false =>
        have HH : Hid (honN byz (nas.take (k + 1)) = o ++ [z]) := Lib.hid (by rw [HS.out, hhb, HO.out]; simp)
        have HC := Lib.hid hhas
        have HD := Lib.hid hd
        have hrn := fun W => (rd_new 46 9 W (nl [z]) 1 (by decide) rfl : Rd _ _ 1 1 9 _)
        have HRN := Lib.hid hrn
        have HE : Hid (eN z = nl [z]) := Lib.hid (nl_one z).symm
        clear hhas hhb hd HO HS hrn
        go_wp2_with (first | (go_quiet ((go_at_call 47; exact Calls.quiet_of_same (HC.out _)))) | (at_builtin; refine wp_app ty_nl rfl _ _ rfl ((HOO.out.keep ((Keeps.refl _).drewN _)).alloc _) rfl rfl (rd_new 46 9 _ (nl [{ z with x := { z.x with id := (d : Int) } }]) 1 (by decide) rfl) (nl_cells _) HLB.out ?_))
        have hze : ({ z with x := { z.x with id := (d : Int) } } : NA) = z := by
          have := HD.out
          obtain ⟨⟨i1, i2, i3, i4, i5, i6, i7, i8, i9⟩, j2, j3, j4, j5⟩ := z
          dsimp only at this
          subst this
          rfl
        rw [hze]
        clear hze
        intro v' w5 hO5 _
        rw [← nl_append] at hO5
        have HOF := Lib.hid hO5
        clear hO5
        go_wp2_with fail
        clear x0 x1 x2 x3 x4 p0 p1 p2 p3 p4 p5 p6 p7 p8
        go_roundw
        case rel => exact ⟨k + 1, o ++ [z], by omega, by go_num, by rw [List.length_append]; exact HOF.out, HH, Lib.hid (by rw [List.length_append, List.length_singleton]; have := HL.out; omega)⟩
        case measure => simp [RowKit.intOf]; omega
    · have e1 : k = nas.length := by omega
      have HE : Hid (honN byz nas = o) := Lib.hid (by rw [← HO.out, e1, List.take_length])
      clear e1 HO
      have HO := Lib.hid hO
      clear hO K
      go_wp2_with fail
      go_ret
      exact ⟨_, rfl, by rw [HE.out]; exact HO.out.since HK.out⟩
set_option maxHeartbeats 1000000 in
theorem rdelivered_any (w : World) (N : Int) (byz : S) (source : Int) (an : Option Addr) (cn : Nat) (nas : List NA) (gv : Value) (hn : Rd w an nas.length cn 9 (nl nas)) (hl : nas.length ≤ 1000000) (hid : ∀ z ∈ nas, 0 ≤ z.x.id ∧ z.x.id < 16) :
    Calls Tryd.prog 28 #[vCast N byz source (.slice an nas.length cn) gv] w fun e w' => ∃ v, e = .returned v ∧ Own 9 1 w w' v (delL byz (nas.map NA.x)).length (stl (delL byz (nas.map NA.x))) := by
  have kA := (Keeps.refl w).alloc (.cells #[.int .i64 N, .int .u16 (sv byz), .int .i64 source, .slice an nas.length cn, gv] 32)
  have hX := Blk.new w 32 #[.int .i64 N, .int .u16 (sv byz), .int .i64 source, .slice an nas.length cn, gv]
  obtain ⟨x0, x1, x2, x3, x4⟩ := c5 hX
  have hh := rgood_any (w.alloc (.cells #[.int .i64 N, .int .u16 (sv byz), .int .i64 source, .slice an nas.length cn, gv] 32)) N byz source an cn nas gv (hn.keep kA) hl hid
  unfold vCast at hh
  have hHl : (honN byz nas).length ≤ 1000000 := Nat.le_trans (List.length_filter_le _ _) hl
  rw [← delN_x]
  generalize honN byz nas = H at hh hHl ⊢
  have HH := Lib.hid hh; have HK := Lib.hid kA
  clear hh kA hn hX hid
  unfold vCast
  go_enter Tryd.func28, Tryd.ntmps28
  go_wp2_with fail
  refine HH.out.mono ?_
  rintro e w1 ⟨v, rfl, hO⟩
  obtain ⟨ah, ch, rfl, hr⟩ := hO.rd
  have HR := Lib.hid hr
  have HK1 := Lib.hid (HK.out.trans hO.2)
  clear hr hO HH HK x0 x1 x2 x3 x4
  go_wp2_with fail
  go_loopw [3, 5] (fun s3 s9 wr => ∃ (k : Nat) (o : List Str), k ≤ H.length ∧ s9 = .int .i64 k ∧ Own 9 1 w1 wr s3 o.length (stl o) ∧ Hid (delN (H.take k) = o) ∧ Hid (o.length ≤ k)) (fun _ s9 _ => H.length - (RowKit.intOf s9).toNat)
  case atStart => exact ⟨0, [], Nat.zero_le _, rfl, .nil _ _ (Keeps.refl _), Lib.hid rfl, Lib.hid (Nat.le_refl _)⟩
  case round =>
    obtain ⟨k, o, hk, rfl, hO, HD, HL⟩ := hrel
    have K := hO.2
    by_cases hlt : k < H.length
    · obtain ⟨p0, p1, p2, p3, p4, p5, p6, p7, p8⟩ := nl_at (HR.out.keep K) hlt
      rw [adr_plus _ _ _ (by decide)] at p5 p6
      have hao := (HR.out.keep K).isSome (by omega)
      have HDS := Lib.hid (delN_succ H k hlt)
      generalize naA H k = z at *
      have HO := Lib.hid hO
      have HLB : Hid (o.length + 1 ≤ 10000000) := Lib.hid (by have := HL.out; omega)
      clear hO K
      cases hq : z.x.hasD with
      | false =>
        have HDT : Hid (delN (H.take (k + 1)) = o) := Lib.hid (by rw [HDS.out, hq, HD.out]; simp)
        clear HDS
        rw [hq] at p6
        go_wp2_with (go_quiet (fail))
        clear p0 p1 p2 p3 p4 p5 p6 p7 p8 hq
        go_roundw
        case rel => exact ⟨k + 1, o, by omega, by go_num, HO.out, HDT, Lib.hid (by have := HL.out; omega)⟩
        case measure => simp [RowKit.intOf]; omega
      | true =>
        have HDT : Hid (delN (H.take (k + 1)) = o ++ [z.x.delivered]) := Lib.hid (by rw [HDS.out, hq, HD.out]; simp)
        clear HDS HD
        rw [hq] at p6
        clear hq
        go_wp2_with (first | (at_builtin; refine wp_app ty_st rfl _ _ rfl (HO.out.alloc _) rfl rfl (rd_new 9 1 _ (stl [z.x.delivered]) 1 (by decide) rfl) (stl_cells _) HLB.out ?_))
        intro v' w2 hO1 hgr
        rw [← stl_append] at hO1
        have HOF := Lib.hid hO1
        clear hO1 hgr
        go_wp2_with fail
        clear p0 p1 p2 p3 p4 p5 p6 p7 p8
        go_roundw
        case rel => exact ⟨k + 1, o ++ [z.x.delivered], by omega, by go_num, by rw [List.length_append]; exact HOF.out, HDT, Lib.hid (by rw [List.length_append, List.length_singleton]; have := HL.out; omega)⟩
        case measure => simp [RowKit.intOf]; omega
    · have e1 : k = H.length := by omega
      have HE : Hid (delN H = o) := Lib.hid (by rw [← HD.out, e1, List.take_length])
      clear e1 HD K
      have HO := Lib.hid hO
      clear hO
      go_wp2_with fail
      go_ret
      exact ⟨_, rfl, by rw [HE.out]; exact HO.out.since HK1.out⟩
/-! ### Consistent -/
theorem consB_step (x : Str) (t : List Str) (k : Nat) (h : k < (x :: t).length) : (((x :: t).drop k).all fun y => decide (y = x)) = (decide (stA (x :: t) k = x) && (((x :: t).drop (k + 1)).all fun y => decide (y = x))) := by
  rw [drop_stA _ k h, List.all_cons]
set_option maxHeartbeats 1000000 in
theorem rconsistent_any (w : World) (N : Int) (byz : S) (source : Int) (an : Option Addr) (cn : Nat) (nas : List NA) (gv : Value) (hn : Rd w an nas.length cn 9 (nl nas)) (hl : nas.length ≤ 1000000) (hid : ∀ z ∈ nas, 0 ≤ z.x.id ∧ z.x.id < 16) :
    Calls Tryd.prog 30 #[vCast N byz source (.slice an nas.length cn) gv] w fun e w' => e = .returned (.bool (consB (delL byz (nas.map NA.x)))) ∧ Keeps w w' := by
  have kA := (Keeps.refl w).alloc (.cells #[.int .i64 N, .int .u16 (sv byz), .int .i64 source, .slice an nas.length cn, gv] 32)
  have hX := Blk.new w 32 #[.int .i64 N, .int .u16 (sv byz), .int .i64 source, .slice an nas.length cn, gv]
  obtain ⟨x0, x1, x2, x3, x4⟩ := c5 hX
  have hh := rdelivered_any (w.alloc (.cells #[.int .i64 N, .int .u16 (sv byz), .int .i64 source, .slice an nas.length cn, gv] 32)) N byz source an cn nas gv (hn.keep kA) hl hid
  unfold vCast at hh
  have hHl : (delL byz (nas.map NA.x)).length ≤ 1000000 := by
    rw [← delN_x]; exact Nat.le_trans (delN_len _) (Nat.le_trans (List.length_filter_le _ _) hl)
  generalize delL byz (nas.map NA.x) = L at hh hHl ⊢
  have HH := Lib.hid hh; have HK := Lib.hid kA
  clear hh kA hn hX hid
  unfold vCast
  go_enter Tryd.func30, Tryd.ntmps30
  go_wp2_with fail
  refine HH.out.mono ?_
  rintro e w1 ⟨v, rfl, hO⟩
  obtain ⟨ah, ch, rfl, hr⟩ := hO.rd
  have HK1 := Lib.hid (HK.out.trans hO.2)
  clear hO HH HK x0 x1 x2 x3 x4
  obtain ⟨M, hM⟩ : ∃ M, M = L.length := ⟨_, rfl⟩
  rw [← hM] at hr hHl
  rw [← hM]
  have HR := Lib.hid hr
  have HM := Lib.hid hM
  clear hr hM
  cases L with
  | nil =>
    have h0 : M = 0 := HM.out
    subst h0
    go_wp2_with fail
    go_loopw [4] (fun u wr => u = .int .i64 1 ∧ Keeps w wr) (fun _ _ => 0)
    case atStart => exact ⟨rfl, HK1.out⟩
    case round =>
      obtain ⟨rfl, K⟩ := hrel
      go_wp2_with fail
      go_ret
      exact ⟨rfl, K⟩
  | cons x t =>
    have hMp : 0 < M := by rw [HM.out]; simp
    go_wp2_with fail
    go_loopw [4] (fun u wr => ∃ k : Nat, 1 ≤ k ∧ k ≤ M ∧ u = .int .i64 k ∧ Keeps w1 wr ∧ Hid (consB (x :: t) = (((x :: t).drop k).all fun y => decide (y = x)))) (fun u _ => M - (RowKit.intOf u).toNat)
    case atStart => exact ⟨1, Nat.le_refl _, hMp, rfl, Keeps.refl _, Lib.hid (by unfold consB; simp)⟩
    case round =>
      obtain ⟨k, hk1, hk, rfl, K, HE⟩ := hrel
      by_cases hlt : k < M
      · have g1 := stl_at (HR.out.keep K) hlt
        have g0 := stl_at (HR.out.keep K) (i := 0) (by omega)
        rw [show stA (x :: t) 0 = x from rfl] at g0
        have hao := (HR.out.keep K).isSome (by omega)
        have hst := consB_step x t k (HM.out ▸ hlt)
        have HST := Lib.hid hst
        clear hst
        have hp0 : (0 : Int) < (M : Int) := by omega
        generalize stA (x :: t) k = y at *
        by_cases hxy : y = x
        · have HXY := Lib.hid hxy
          subst hxy
          go_wp2_with (go_quiet (fail))
          go_roundw
          case rel => exact ⟨k + 1, by omega, by omega, by go_num, K.drewN _, Lib.hid (by rw [HE.out, HST.out]; simp)⟩
          case measure => simp [RowKit.intOf]; omega
        · have hb : decide (y = x) = false := decide_eq_false hxy
          have HF : Hid (consB (x :: t) = false) := Lib.hid (by rw [HE.out, HST.out]; simp [hxy])
          clear HE HST
          go_wp2_with (go_quiet (fail))
          go_ret
          exact ⟨by rw [HF.out]; rfl, HK1.out.trans (K.drewN _)⟩
      · have HT : Hid (consB (x :: t) = true) := Lib.hid (by rw [HE.out, List.drop_of_length_le (by have := HM.out; omega)]; rfl)
        have HKK := Lib.hid K
        clear K HE
        go_wp2_with fail
        go_ret
        exact ⟨by rw [HT.out]; rfl, HK1.out.trans HKK.out⟩
set_option maxHeartbeats 1000000 in
theorem rtotal_any (w : World) (N : Int) (byz : S) (source : Int) (an : Option Addr) (cn : Nat) (nas : List NA) (gv : Value) (hn : Rd w an nas.length cn 9 (nl nas)) (hl : nas.length ≤ 1000000) (hid : ∀ z ∈ nas, 0 ≤ z.x.id ∧ z.x.id < 16) :
    Calls Tryd.prog 32 #[vCast N byz source (.slice an nas.length cn) gv] w fun e w' => e = .returned (.bool (totB byz (nas.map NA.x))) ∧ Keeps w w' := by
  have kA := (Keeps.refl w).alloc (.cells #[.int .i64 N, .int .u16 (sv byz), .int .i64 source, .slice an nas.length cn, gv] 32)
  have hX := Blk.new w 32 #[.int .i64 N, .int .u16 (sv byz), .int .i64 source, .slice an nas.length cn, gv]
  obtain ⟨x0, x1, x2, x3, x4⟩ := c5 hX
  have hh := rdelivered_any (w.alloc (.cells #[.int .i64 N, .int .u16 (sv byz), .int .i64 source, .slice an nas.length cn, gv] 32)) N byz source an cn nas gv (hn.keep kA) hl hid
  have hg := fun W (k : Keeps (w.alloc (.cells #[.int .i64 N, .int .u16 (sv byz), .int .i64 source, .slice an nas.length cn, gv] 32)) W) => rgood_any W N byz source an cn nas gv ((hn.keep kA).keep k) hl hid
  unfold vCast at hh hg
  unfold totB
  rw [← honN_x, List.length_map]
  have hHl : (delL byz (nas.map NA.x)).length ≤ 1000000 := by
    rw [← delN_x]; exact Nat.le_trans (delN_len _) (Nat.le_trans (List.length_filter_le _ _) hl)
  have hGl : (honN byz nas).length ≤ 1000000 := Nat.le_trans (List.length_filter_le _ _) hl
  generalize delL byz (nas.map NA.x) = L at hh hHl ⊢
  generalize honN byz nas = H at hg hGl ⊢
  have HH := Lib.hid hh; have HK := Lib.hid kA; have HG := Lib.hid hg; have HX := Lib.hid hX
  clear hh kA hn hX hid hg
  unfold vCast
  go_enter Tryd.func32, Tryd.ntmps32
  go_wp2_with fail
  refine HH.out.mono ?_
  rintro e w1 ⟨v, rfl, hO⟩
  obtain ⟨ah, ch, rfl, hr⟩ := hO.rd
  have HK1 := Lib.hid (HK.out.trans hO.2)
  have HG1 := Lib.hid (HG.out w1 hO.2)
  obtain ⟨y0, y1, y2, y3, y4⟩ := c5 (HX.out.keep hO.2)
  clear hr hO HH HK x0 x1 x2 x3 x4 HG HX
  by_cases h0 : L.length = 0
  · have hb : ((L.length : Int) == 0) = true := by rw [h0]; rfl
    have HR : Hid ((decide (L.length = 0) || decide (L.length = H.length)) = true) := Lib.hid (by simp [h0])
    clear h0
    go_wp2_with fail
    go_ret
    exact ⟨by rw [HR.out]; rfl, HK1.out⟩
  · have hb : ((L.length : Int) == 0) = false := by rw [beq_eq_false_iff_ne]; omega
    have HR : Hid ((decide (L.length = 0) || decide (L.length = H.length)) = ((L.length : Int) == (H.length : Int))) := Lib.hid (by
      rw [decide_eq_false h0, Bool.false_or, Bool.eq_iff_iff, decide_eq_true_eq, beq_iff_eq]; omega)
    clear h0
    go_wp2_with fail
    refine HG1.out.mono ?_
    rintro e w2 ⟨v, rfl, hO⟩
    obtain ⟨ag, cg, rfl, hr⟩ := hO.rd
    have HK2 := Lib.hid (HK1.out.trans hO.2)
    clear hr hO
    go_wp2_with fail
    go_ret
    exact ⟨by rw [HR.out]; rfl, HK2.out⟩
end Go.Proofs.YtbcfkgolhklkaaaDoor
/- Chapter 39, the reference: Equal answers true at runs that hold the same. -/
namespace Go.Proofs.YtbcfkgolhklkaaaDoor
open Go.RowKit Go.Lib Go.Shelf

set_option maxHeartbeats 1000000 in
theorem rheard_same (a1 : Option Addr) (c1 : Nat) (a2 : Option Addr) (c2 : Nat) (l : List Hd) (w : World) (h1 : Rd w a1 l.length c1 2 (hl l)) (h2 : Rd w a2 l.length c2 2 (hl l)) :
    Calls Tryd.prog 87 #[.slice a1 l.length c1, .slice a2 l.length c2] w fun e w' => e = .returned (.bool true) ∧ Keeps w w' := by
  have s1 := h1.small
  have H1 := Lib.hid h1; have H2 := Lib.hid h2
  clear h1 h2
  generalize hm : l.length = m at *
  have HM := Lib.hid hm
  clear hm
  go_enter Tryd.func87, Tryd.ntmps87
  go_wp2_with fail
  go_loopw [5] (fun u wr => ∃ k : Nat, k ≤ m ∧ u = .int .i64 k ∧ Keeps w wr) (fun u _ => m - (RowKit.intOf u).toNat)
  case atStart => exact ⟨0, Nat.zero_le _, rfl, Keeps.refl _⟩
  case round =>
    obtain ⟨k, hk, rfl, K⟩ := hrel
    by_cases hlt : k < m
    · obtain ⟨p0, p1⟩ := hl_at (H1.out.keep K) hlt
      obtain ⟨q0, q1⟩ := hl_at (H2.out.keep K) hlt
      have hao := (H1.out.keep K).isSome (by omega)
      have hao2 := (H2.out.keep K).isSome (by omega)
      generalize hdA l k = z at *
      go_wp2_with (go_quiet (fail))
      go_roundw
      case rel => exact ⟨k + 1, by omega, by go_num, K.drewN _⟩
      case measure => simp [RowKit.intOf]; omega
    · have HKK := Lib.hid K
      clear K
      go_wp2_with fail
      go_ret
      exact ⟨rfl, HKK.out⟩
set_option maxHeartbeats 1000000 in
theorem rcasts_same (a1 : Option Addr) (c1 : Nat) (a2 : Option Addr) (c2 : Nat) (l : List Ct) (w : World) (h1 : Rd w a1 l.length c1 4 (cl l)) (h2 : Rd w a2 l.length c2 4 (cl l)) :
    Calls Tryd.prog 61 #[.slice a1 l.length c1, .slice a2 l.length c2] w fun e w' => e = .returned (.bool true) ∧ Keeps w w' := by
  have s1 := h1.small
  have H1 := Lib.hid h1; have H2 := Lib.hid h2
  clear h1 h2
  generalize hm : l.length = m at *
  have HM := Lib.hid hm
  clear hm
  go_enter Tryd.func61, Tryd.ntmps61
  go_wp2_with fail
  go_loopw [5] (fun u wr => ∃ k : Nat, k ≤ m ∧ u = .int .i64 k ∧ Keeps w wr) (fun u _ => m - (RowKit.intOf u).toNat)
  case atStart => exact ⟨0, Nat.zero_le _, rfl, Keeps.refl _⟩
  case round =>
    obtain ⟨k, hk, rfl, K⟩ := hrel
    by_cases hlt : k < m
    · obtain ⟨p0, p1, p2, p3⟩ := cl_at (H1.out.keep K) hlt
      obtain ⟨q0, q1, q2, q3⟩ := cl_at (H2.out.keep K) hlt
      have hao := (H1.out.keep K).isSome (by omega)
      have hao2 := (H2.out.keep K).isSome (by omega)
      generalize ctA l k = z at *
      go_wp2_with (go_quiet (fail))
      go_roundw
      case rel => exact ⟨k + 1, by omega, by go_num, K.drewN _⟩
      case measure => simp [RowKit.intOf]; omega
    · have HKK := Lib.hid K
      clear K
      go_wp2_with fail
      go_ret
      exact ⟨rfl, HKK.out⟩
theorem c9x {W : World} {B : Nat} {T : TypeId} {v0 v1 v2 v3 v4 v5 v6 v7 v8 : Value} (h : Blk W B T #[v0, v1, v2, v3, v4, v5, v6, v7, v8]) : W.cell? ⟨B, 0, none⟩ = some v0 ∧ W.cell? ⟨B, 1, none⟩ = some v1 ∧ W.cell? ⟨B, 2, none⟩ = some v2 ∧ W.cell? ⟨B, 3, none⟩ = some v3 ∧ W.cell? ⟨B, 4, none⟩ = some v4 ∧ W.cell? ⟨B, 5, none⟩ = some v5 ∧ W.cell? ⟨B, 6, none⟩ = some v6 ∧ W.cell? ⟨B, 7, none⟩ = some v7 ∧ W.cell? ⟨B, 8, none⟩ = some v8 :=
  ⟨h.cell 0 rfl, h.cell 1 rfl, h.cell 2 rfl, h.cell 3 rfl, h.cell 4 rfl, h.cell 5 rfl, h.cell 6 rfl, h.cell 7 rfl, h.cell 8 rfl⟩
set_option maxHeartbeats 4000000 in
set_option maxRecDepth 20000 in
theorem rnode_same (y z : NA) (w : World) (h1 : RdH w y) (h2 : RdH w z) (hx : y.x = z.x) :
    Calls Tryd.prog 62 #[vn y, vn z] w fun e w' => e = .returned (.bool true) ∧ Keeps w w' := by
  obtain ⟨x, ae1, ce1, ar1, cr1⟩ := y
  obtain ⟨x2, ae2, ce2, ar2, cr2⟩ := z
  dsimp only at hx
  subst hx
  obtain ⟨e1, r1⟩ := h1
  obtain ⟨e2, r2⟩ := h2
  dsimp only at e1 r1 e2 r2
  obtain ⟨id, ec, hE, re, hR, de, hD, es, rs⟩ := x
  dsimp only at e1 r1 e2 r2
  unfold vn
  dsimp only
  have hs : ∀ (W : World) o, (W.alloc o).heap.size = W.heap.size + 1 := fun W o => World.size_alloc ..
  have k1 := (Keeps.refl w).alloc (.cells #[.int .i64 id, .string ec, .bool hE, .string re, .bool hR, .string de, .bool hD, .slice ae1 es.length ce1, .slice ar1 rs.length cr1] 46)
  have k2 := (Keeps.refl (w.alloc (.cells #[.int .i64 id, .string ec, .bool hE, .string re, .bool hR, .string de, .bool hD, .slice ae1 es.length ce1, .slice ar1 rs.length cr1] 46))).alloc (.cells #[.int .i64 id, .string ec, .bool hE, .string re, .bool hR, .string de, .bool hD, .slice ae2 es.length ce2, .slice ar2 rs.length cr2] 46)
  have b1 := (Blk.new w 46 #[.int .i64 id, .string ec, .bool hE, .string re, .bool hR, .string de, .bool hD, .slice ae1 es.length ce1, .slice ar1 rs.length cr1]).keep k2
  have b2 := Blk.new (w.alloc (.cells #[.int .i64 id, .string ec, .bool hE, .string re, .bool hR, .string de, .bool hD, .slice ae1 es.length ce1, .slice ar1 rs.length cr1] 46)) 46 #[.int .i64 id, .string ec, .bool hE, .string re, .bool hR, .string de, .bool hD, .slice ae2 es.length ce2, .slice ar2 rs.length cr2]
  rw [hs] at b2
  have J := k1.trans k2
  have HC1 := Lib.hid (rheard_same ae1 ce1 ae2 ce2 es _ (e1.keep J) (e2.keep J))
  have HC2 := Lib.hid (fun W (K : Keeps ((w.alloc (.cells #[.int .i64 id, .string ec, .bool hE, .string re, .bool hR, .string de, .bool hD, .slice ae1 es.length ce1, .slice ar1 rs.length cr1] 46)).alloc (.cells #[.int .i64 id, .string ec, .bool hE, .string re, .bool hR, .string de, .bool hD, .slice ae2 es.length ce2, .slice ar2 rs.length cr2] 46)) W) => rheard_same ar1 cr1 ar2 cr2 rs W ((r1.keep J).keep K) ((r2.keep J).keep K))
  obtain ⟨y0, y1, y2, y3, y4, y5, y6, y7, y8⟩ := c9x b1
  obtain ⟨z0, z1, z2, z3, z4, z5, z6, z7, z8⟩ := c9x b2
  have HJ := Lib.hid J; have HB1 := Lib.hid b1; have HB2 := Lib.hid b2
  clear J k1 k2 e1 e2 r1 r2 b1 b2 hs
  go_enter Tryd.func62, Tryd.ntmps62
  go_wp2_with fail
  refine HC1.out.mono ?_
  rintro e w1 ⟨rfl, k1⟩
  have HC3 := Lib.hid (HC2.out w1 k1)
  clear y0 y1 y2 y3 y4 y5 y6 y7 y8 z0 z1 z2 z3 z4 z5 z6 z7 z8
  obtain ⟨y0, y1, y2, y3, y4, y5, y6, y7, y8⟩ := c9x (HB1.out.keep k1)
  obtain ⟨z0, z1, z2, z3, z4, z5, z6, z7, z8⟩ := c9x (HB2.out.keep k1)
  have HK := Lib.hid (HJ.out.trans k1)
  clear k1 HC1 HC2 HB1 HB2 HJ
  go_wp2_with fail
  refine HC3.out.mono ?_
  rintro e w2 ⟨rfl, k2⟩
  have HK2 := Lib.hid (HK.out.trans k2)
  clear k2
  go_wp2_with fail
  go_ret
  exact ⟨rfl, HK2.out⟩
set_option maxHeartbeats 4000000 in
set_option maxRecDepth 20000 in
theorem requal_same (c : CD) (v1 v2 : Value) (w : World) (h1 : HasC w c v1) (h2 : HasC w c v2) :
    Calls Tryd.prog 15 #[v1, v2] w fun e w' => e = .returned (.bool true) ∧ Keeps w w' := by
  obtain ⟨an1, cn1, nas1, ag1, cg1, rfl, n1, f1, d1, m1⟩ := h1
  obtain ⟨an2, cn2, nas2, ag2, cg2, rfl, n2, f2, d2, m2⟩ := h2
  have hl : nas2.length = nas1.length := by have := congrArg List.length (m2.trans m1.symm); simpa using this
  obtain ⟨m, hm1⟩ : ∃ m, m = nas1.length := ⟨_, rfl⟩
  have hm2 : m = nas2.length := by omega
  rw [← hm1, ← hm2]
  rw [← hm1] at n1
  rw [← hm2] at n2
  have hs : ∀ (W : World) o, (W.alloc o).heap.size = W.heap.size + 1 := fun W o => World.size_alloc ..
  have k1 := (Keeps.refl w).alloc (.cells #[.int .i64 c.n, .int .u16 (sv c.byz), .int .i64 c.src, .slice an1 m cn1, .slice ag1 c.st.flight.length cg1] 32)
  have k2 := (Keeps.refl (w.alloc (.cells #[.int .i64 c.n, .int .u16 (sv c.byz), .int .i64 c.src, .slice an1 m cn1, .slice ag1 c.st.flight.length cg1] 32))).alloc (.cells #[.int .i64 c.n, .int .u16 (sv c.byz), .int .i64 c.src, .slice an2 m cn2, .slice ag2 c.st.flight.length cg2] 32)
  have b1 := (Blk.new w 32 #[.int .i64 c.n, .int .u16 (sv c.byz), .int .i64 c.src, .slice an1 m cn1, .slice ag1 c.st.flight.length cg1]).keep k2
  have b2 := Blk.new (w.alloc (.cells #[.int .i64 c.n, .int .u16 (sv c.byz), .int .i64 c.src, .slice an1 m cn1, .slice ag1 c.st.flight.length cg1] 32)) 32 #[.int .i64 c.n, .int .u16 (sv c.byz), .int .i64 c.src, .slice an2 m cn2, .slice ag2 c.st.flight.length cg2]
  rw [hs] at b2
  have J := k1.trans k2
  have HCA := Lib.hid (rcasts_same ag1 cg1 ag2 cg2 c.st.flight _ (f1.keep J) (f2.keep J))
  have HN1 := Lib.hid (n1.keep J); have HN2 := Lib.hid (n2.keep J)
  have HD1 := Lib.hid (fun z hz => (d1 z hz).keep J); have HD2 := Lib.hid (fun z hz => (d2 z hz).keep J)
  have HJ := Lib.hid J; have HB1 := Lib.hid b1; have HB2 := Lib.hid b2
  have HX : Hid (∀ k < m, (naA nas1 k).x = (naA nas2 k).x) := Lib.hid (fun k hk => by
    have e : (nas1.map NA.x)[k]? = (nas2.map NA.x)[k]? := by rw [m1, m2]
    rw [List.getElem?_map, List.getElem?_map, List.getElem?_eq_getElem (by omega : k < nas1.length), List.getElem?_eq_getElem (by omega : k < nas2.length)] at e
    simp only [Option.map_some, Option.some.injEq] at e
    unfold naA List.getD
    rw [List.getElem?_eq_getElem (by omega : k < nas1.length), List.getElem?_eq_getElem (by omega : k < nas2.length)]
    exact e)
  obtain ⟨y0, y1, y2, y3, y4⟩ := c5 b1
  obtain ⟨z0, z1, z2, z3, z4⟩ := c5 b2
  have hm := n1.small
  have HM1 := Lib.hid hm1; have HM2 := Lib.hid hm2
  unfold vCast
  clear J k1 k2 n1 n2 f1 f2 d1 d2 b1 b2 hs m1 m2 hl hm1 hm2
  go_enter Tryd.func15, Tryd.ntmps15
  go_wp2_with fail
  refine HCA.out.mono ?_
  rintro e w1 ⟨rfl, k1⟩
  clear y0 y1 y2 y3 y4 z0 z1 z2 z3 z4 HCA
  have HN1 := Lib.hid (HN1.out.keep k1); have HN2 := Lib.hid (HN2.out.keep k1); have HB1 := Lib.hid (HB1.out.keep k1); have HB2 := Lib.hid (HB2.out.keep k1); have HJ := Lib.hid (HJ.out.trans k1)
  have HD1 := Lib.hid (fun z hz => (HD1.out z hz).keep k1); have HD2 := Lib.hid (fun z hz => (HD2.out z hz).keep k1)
  obtain ⟨P1, hP1⟩ : ∃ P, P = w.heap.size := ⟨_, rfl⟩
  obtain ⟨P2, hP2⟩ : ∃ P, P = w.heap.size + 1 := ⟨_, rfl⟩
  rw [← hP2] at HB2 ⊢
  rw [← hP1] at HB1 ⊢
  clear k1 hP1 hP2
  go_wp2_with fail
  go_loopw [5] (fun u wr => ∃ k : Nat, k ≤ m ∧ u = .int .i64 k ∧ Keeps w1 wr) (fun u _ => m - (RowKit.intOf u).toNat)
  case atStart => exact ⟨0, Nat.zero_le _, rfl, Keeps.refl _⟩
  case round =>
    obtain ⟨k, hk, rfl, K⟩ := hrel
    have z3 := (HB2.out.keep K).cell 3 (v := .slice an2 m cn2) rfl
    have y3 := (HB1.out.keep K).cell 3 (v := .slice an1 m cn1) rfl
    by_cases hlt : k < m
    · have h1 := nl_at (HN1.out.keep K) hlt
      have h2 := nl_at (HN2.out.keep K) hlt
      have hao := (HN1.out.keep K).isSome (by omega)
      have hao2 := (HN2.out.keep K).isSome (by omega)
      have hx := HX.out k hlt
      have hr1 := fun W (J : Keeps wr W) => (HD1.out _ (naA_mem (HM1.out ▸ hlt))).keep (K.trans J)
      have hr2 := fun W (J : Keeps wr W) => (HD2.out _ (naA_mem (HM2.out ▸ hlt))).keep (K.trans J)
      generalize naA nas1 k = p at *
      generalize naA nas2 k = q at *
      have HRS := Lib.hid (fun W (J : Keeps wr W) => rnode_same p q W (hr1 W J) (hr2 W J) hx)
      have HS : Hid (∀ w', Keeps wr w' → w'.cell? ⟨P1, 3, none⟩ = some (.slice an1 m cn1) ∧ w'.cell? ⟨P2, 3, none⟩ = some (.slice an2 m cn2) ∧ w'.cell? (adr an1 (k * 9)) = some (.int .i64 p.x.id) ∧ w'.cell? ⟨(adr an1 (k * 9)).block, (adr an1 (k * 9)).off + 1, none⟩ = some (.string p.x.echoed) ∧ w'.cell? ⟨(adr an1 (k * 9)).block, (adr an1 (k * 9)).off + 2, none⟩ = some (.bool p.x.hasE) ∧ w'.cell? ⟨(adr an1 (k * 9)).block, (adr an1 (k * 9)).off + 3, none⟩ = some (.string p.x.readied) ∧ w'.cell? ⟨(adr an1 (k * 9)).block, (adr an1 (k * 9)).off + 4, none⟩ = some (.bool p.x.hasR) ∧ w'.cell? ⟨(adr an1 (k * 9)).block, (adr an1 (k * 9)).off + 5, none⟩ = some (.string p.x.delivered) ∧ w'.cell? ⟨(adr an1 (k * 9)).block, (adr an1 (k * 9)).off + 6, none⟩ = some (.bool p.x.hasD) ∧ w'.cell? ⟨(adr an1 (k * 9)).block, (adr an1 (k * 9)).off + 7, none⟩ = some (.slice p.ae p.x.echoes.length p.ce) ∧ w'.cell? ⟨(adr an1 (k * 9)).block, (adr an1 (k * 9)).off + 8, none⟩ = some (.slice p.ar p.x.readies.length p.cr) ∧ w'.cell? (adr an2 (k * 9)) = some (.int .i64 q.x.id) ∧ w'.cell? ⟨(adr an2 (k * 9)).block, (adr an2 (k * 9)).off + 1, none⟩ = some (.string q.x.echoed) ∧ w'.cell? ⟨(adr an2 (k * 9)).block, (adr an2 (k * 9)).off + 2, none⟩ = some (.bool q.x.hasE) ∧ w'.cell? ⟨(adr an2 (k * 9)).block, (adr an2 (k * 9)).off + 3, none⟩ = some (.string q.x.readied) ∧ w'.cell? ⟨(adr an2 (k * 9)).block, (adr an2 (k * 9)).off + 4, none⟩ = some (.bool q.x.hasR) ∧ w'.cell? ⟨(adr an2 (k * 9)).block, (adr an2 (k * 9)).off + 5, none⟩ = some (.string q.x.delivered) ∧ w'.cell? ⟨(adr an2 (k * 9)).block, (adr an2 (k * 9)).off + 6, none⟩ = some (.bool q.x.hasD) ∧ w'.cell? ⟨(adr an2 (k * 9)).block, (adr an2 (k * 9)).off + 7, none⟩ = some (.slice q.ae q.x.echoes.length q.ce) ∧ w'.cell? ⟨(adr an2 (k * 9)).block, (adr an2 (k * 9)).off + 8, none⟩ = some (.slice q.ar q.x.readies.length q.cr)) := Lib.hid (fun w' J => by
        obtain ⟨p0, p1, p2, p3, p4, p5, p6, p7, p8⟩ := h1
        obtain ⟨q0, q1, q2, q3, q4, q5, q6, q7, q8⟩ := h2
        exact ⟨J.cell y3, J.cell z3, J.cell p0, J.cell p1, J.cell p2, J.cell p3, J.cell p4, J.cell p5, J.cell p6, J.cell p7, J.cell p8, J.cell q0, J.cell q1, J.cell q2, J.cell q3, J.cell q4, J.cell q5, J.cell q6, J.cell q7, J.cell q8⟩)
      have HK := Lib.hid K
      clear h1 h2 hr1 hr2 hx K
      go_wp2_with fail
      clear y3 z3
      have J : Keeps wr wr.drew := (Keeps.refl wr).drew
      refine wp_region_held_drew (S := (fun w' => w'.cell? ⟨P1, 3, none⟩ = some (.slice an1 m cn1) ∧ w'.cell? ⟨P2, 3, none⟩ = some (.slice an2 m cn2) ∧ w'.cell? (adr an1 (k * 9)) = some (.int .i64 p.x.id) ∧ w'.cell? ⟨(adr an1 (k * 9)).block, (adr an1 (k * 9)).off + 1, none⟩ = some (.string p.x.echoed) ∧ w'.cell? ⟨(adr an1 (k * 9)).block, (adr an1 (k * 9)).off + 2, none⟩ = some (.bool p.x.hasE) ∧ w'.cell? ⟨(adr an1 (k * 9)).block, (adr an1 (k * 9)).off + 3, none⟩ = some (.string p.x.readied) ∧ w'.cell? ⟨(adr an1 (k * 9)).block, (adr an1 (k * 9)).off + 4, none⟩ = some (.bool p.x.hasR) ∧ w'.cell? ⟨(adr an1 (k * 9)).block, (adr an1 (k * 9)).off + 5, none⟩ = some (.string p.x.delivered) ∧ w'.cell? ⟨(adr an1 (k * 9)).block, (adr an1 (k * 9)).off + 6, none⟩ = some (.bool p.x.hasD) ∧ w'.cell? ⟨(adr an1 (k * 9)).block, (adr an1 (k * 9)).off + 7, none⟩ = some (.slice p.ae p.x.echoes.length p.ce) ∧ w'.cell? ⟨(adr an1 (k * 9)).block, (adr an1 (k * 9)).off + 8, none⟩ = some (.slice p.ar p.x.readies.length p.cr) ∧ w'.cell? (adr an2 (k * 9)) = some (.int .i64 q.x.id) ∧ w'.cell? ⟨(adr an2 (k * 9)).block, (adr an2 (k * 9)).off + 1, none⟩ = some (.string q.x.echoed) ∧ w'.cell? ⟨(adr an2 (k * 9)).block, (adr an2 (k * 9)).off + 2, none⟩ = some (.bool q.x.hasE) ∧ w'.cell? ⟨(adr an2 (k * 9)).block, (adr an2 (k * 9)).off + 3, none⟩ = some (.string q.x.readied) ∧ w'.cell? ⟨(adr an2 (k * 9)).block, (adr an2 (k * 9)).off + 4, none⟩ = some (.bool q.x.hasR) ∧ w'.cell? ⟨(adr an2 (k * 9)).block, (adr an2 (k * 9)).off + 5, none⟩ = some (.string q.x.delivered) ∧ w'.cell? ⟨(adr an2 (k * 9)).block, (adr an2 (k * 9)).off + 6, none⟩ = some (.bool q.x.hasD) ∧ w'.cell? ⟨(adr an2 (k * 9)).block, (adr an2 (k * 9)).off + 7, none⟩ = some (.slice q.ae q.x.echoes.length q.ce) ∧ w'.cell? ⟨(adr an2 (k * 9)).block, (adr an2 (k * 9)).off + 8, none⟩ = some (.slice q.ar q.x.readies.length q.cr))) (by kernel_rfl) ?_ (fun hHeld => ?_)
      · exact HS.out _ J
      generalize wr.drew = V0 at *
      refine wpAnyH_take (i := 0) (oi := ⟨_, _, _, _, _, _⟩) (v := ?_) rfl (by kernel_rfl) (by kernel_rfl) (by kernel_rfl) (fun _ _ _ h => h) (Or.inl ⟨by rfl, ?_⟩) (by assumption) ?_
      rotate_left 1
      · intro w hSw; (try dsimp only at hSw); go_simp <;> with_reducible rfl
      (try simp only [Act.put]); (try simp only [List.setIfInBounds_toArray]); (try simp only [List.set_cons_succ]); (try simp only [List.set_cons_zero])
      refine wpAnyH_take (i := 1) (oi := ⟨_, _, _, _, _, _⟩) (v := ?_) rfl (by kernel_rfl) (by kernel_rfl) (by kernel_rfl) (fun _ _ _ h => h) (Or.inl ⟨by rfl, ?_⟩) (by assumption) ?_
      rotate_left 1
      · intro w hSw; (try dsimp only at hSw); go_simp <;> with_reducible rfl
      (try simp only [Act.put]); (try simp only [List.setIfInBounds_toArray]); (try simp only [List.set_cons_succ]); (try simp only [List.set_cons_zero])
      refine wpAnyH_take (i := 2) (oi := ⟨_, _, _, _, _, _⟩) (v := ?_) rfl (by kernel_rfl) (by kernel_rfl) (by kernel_rfl) (fun _ _ _ h => h) (Or.inl ⟨by rfl, ?_⟩) (by assumption) ?_
      rotate_left 1
      · intro w hSw; (try dsimp only at hSw); go_simp <;> with_reducible rfl
      (try simp only [Act.put]); (try simp only [List.setIfInBounds_toArray]); (try simp only [List.set_cons_succ]); (try simp only [List.set_cons_zero])
      refine wpAnyH_take (i := 3) (oi := ⟨_, _, _, _, _, _⟩) (v := ?_) rfl (by kernel_rfl) (by kernel_rfl) (by kernel_rfl) (fun _ _ _ h => h) (Or.inl ⟨by rfl, ?_⟩) (by assumption) ?_
      rotate_left 1
      · intro w hSw; (try dsimp only at hSw); go_simp <;> with_reducible rfl
      (try simp only [Act.put]); (try simp only [List.setIfInBounds_toArray]); (try simp only [List.set_cons_succ]); (try simp only [List.set_cons_zero])
      refine wpAnyH_take (i := 4) (oi := ⟨_, _, _, _, _, _⟩) (v := ?_) rfl (by kernel_rfl) (by kernel_rfl) (by kernel_rfl) (fun _ _ _ h => h) (Or.inl ⟨by rfl, ?_⟩) (by assumption) ?_
      rotate_left 1
      · intro w hSw; (try dsimp only at hSw); go_simp <;> with_reducible rfl
      (try simp only [Act.put]); (try simp only [List.setIfInBounds_toArray]); (try simp only [List.set_cons_succ]); (try simp only [List.set_cons_zero])
      refine wpAnyH_take (i := 5) (oi := ⟨_, _, _, _, _, _⟩) (v := ?_) rfl (by kernel_rfl) (by kernel_rfl) (by kernel_rfl) (fun _ _ _ h => h) (Or.inl ⟨by rfl, ?_⟩) (by assumption) ?_
      rotate_left 1
      · intro w hSw; (try dsimp only at hSw); go_simp <;> with_reducible rfl
      (try simp only [Act.put]); (try simp only [List.setIfInBounds_toArray]); (try simp only [List.set_cons_succ]); (try simp only [List.set_cons_zero])
      refine wpAnyH_take (i := 6) (oi := ⟨_, _, _, _, _, _⟩) (v := ?_) rfl (by kernel_rfl) (by kernel_rfl) (by kernel_rfl) (fun _ _ _ h => h) (Or.inl ⟨by rfl, ?_⟩) (by assumption) ?_
      rotate_left 1
      · intro w hSw; (try dsimp only at hSw); go_simp <;> with_reducible rfl
      (try simp only [Act.put]); (try simp only [List.setIfInBounds_toArray]); (try simp only [List.set_cons_succ]); (try simp only [List.set_cons_zero])
      refine wpAnyH_take (i := 7) (oi := ⟨_, _, _, _, _, _⟩) (v := ?_) rfl (by kernel_rfl) (by kernel_rfl) (by kernel_rfl) (fun _ _ _ h => h) (Or.inl ⟨by rfl, ?_⟩) (by assumption) ?_
      rotate_left 1
      · intro w hSw; (try dsimp only at hSw); go_simp <;> with_reducible rfl
      (try simp only [Act.put]); (try simp only [List.setIfInBounds_toArray]); (try simp only [List.set_cons_succ]); (try simp only [List.set_cons_zero])
      refine wpAnyH_take (i := 8) (oi := ⟨_, _, _, _, _, _⟩) (v := ?_) rfl (by kernel_rfl) (by kernel_rfl) (by kernel_rfl) (fun _ _ _ h => h) (Or.inl ⟨by rfl, ?_⟩) (by assumption) ?_
      rotate_left 1
      · intro w hSw; (try dsimp only at hSw); go_simp <;> with_reducible rfl
      (try simp only [Act.put]); (try simp only [List.setIfInBounds_toArray]); (try simp only [List.set_cons_succ]); (try simp only [List.set_cons_zero])
      refine wpAnyH_take (i := 9) (oi := ⟨_, _, _, _, _, _⟩) (v := ?_) rfl (by kernel_rfl) (by kernel_rfl) (by kernel_rfl) (fun _ _ _ h => h) (Or.inl ⟨by rfl, ?_⟩) (by assumption) ?_
      rotate_left 1
      · intro w hSw; (try dsimp only at hSw); go_simp <;> with_reducible rfl
      (try simp only [Act.put]); (try simp only [List.setIfInBounds_toArray]); (try simp only [List.set_cons_succ]); (try simp only [List.set_cons_zero])
      refine wpAnyH_ready (rs := [10]) (by kernel_rfl) (by simp) ?_
      refine AllReadyH.cons (o := ⟨_, _, _, _, _, _⟩) rfl (fun K hK => ?_) AllReadyH.nil
      go_simp
      have hc := HRS.out V0 J
      unfold vn at hc
      refine hc.mono ?_
      rintro e V1 ⟨rfl, k1⟩
      clear hc
      replace J := J.trans k1
      clear k1
      refine hK.out _ _ ?_ (fun hHeld => ?_)
      · exact HS.out _ J
      clear hK K
      (try simp only [Act.put]); (try simp only [List.setIfInBounds_toArray]); (try simp only [List.set_cons_succ]); (try simp only [List.set_cons_zero])
      refine wpAnyH_take (i := 11) (oi := ⟨_, _, _, _, _, _⟩) (v := ?_) rfl (by kernel_rfl) (by kernel_rfl) (by kernel_rfl) (fun _ _ _ h => h) (Or.inl ⟨by rfl, ?_⟩) (by assumption) ?_
      rotate_left 1
      · intro w hSw; (try dsimp only at hSw); go_simp <;> with_reducible rfl
      (try simp only [Act.put]); (try simp only [List.setIfInBounds_toArray]); (try simp only [List.set_cons_succ]); (try simp only [List.set_cons_zero])
      refine wpAnyH_done (by kernel_rfl) ?_ _
      have HKF := Lib.hid (HK.out.trans J)
      clear J
      go_wp2_with fail
      go_roundw
      case rel => exact ⟨k + 1, by omega, by go_num, HKF.out⟩
      case measure => simp [RowKit.intOf]; omega
    · have HKK := Lib.hid K
      clear K
      go_wp2_with fail
      go_ret
      exact ⟨rfl, HJ.out.trans HKK.out⟩
end Go.Proofs.YtbcfkgolhklkaaaDoor
/- Chapter 39: the reference's reports at runs; ids; sizes. -/
namespace Go.Proofs.YtbcfkgolhklkaaaDoor
open Go.RowKit Go.Lib Go.Shelf

def IdC (c : CD) : Prop := ∀ x ∈ c.st.nodes, 0 ≤ x.id ∧ x.id < 16
theorem rdeliveredC_any (w : World) (c : CD) (v : Value) (hv : HasC w c v) (hnn : c.st.nodes.length ≤ 1000000) (hid : IdC c) :
    Calls Tryd.prog 28 #[v] w fun e w' => ∃ u, e = .returned u ∧ Own 9 1 w w' u (delC c).length (stl (delC c)) := by
  obtain ⟨an, cn, nas, ag, cg, rfl, h1, h2, h3, h4⟩ := hv
  have hid2 : ∀ z ∈ nas, 0 ≤ z.x.id ∧ z.x.id < 16 := fun z hz => hid z.x (by rw [← h4]; exact List.mem_map.2 ⟨z, hz, rfl⟩)
  unfold delC
  rw [← h4] at hnn ⊢
  rw [List.length_map] at hnn
  exact rdelivered_any w _ _ _ an cn nas _ h1 hnn hid2
theorem rconsistentC_any (w : World) (c : CD) (v : Value) (hv : HasC w c v) (hnn : c.st.nodes.length ≤ 1000000) (hid : IdC c) :
    Calls Tryd.prog 30 #[v] w fun e w' => e = .returned (.bool (consB (delC c))) ∧ Keeps w w' := by
  obtain ⟨an, cn, nas, ag, cg, rfl, h1, h2, h3, h4⟩ := hv
  have hid2 : ∀ z ∈ nas, 0 ≤ z.x.id ∧ z.x.id < 16 := fun z hz => hid z.x (by rw [← h4]; exact List.mem_map.2 ⟨z, hz, rfl⟩)
  unfold delC
  rw [← h4] at hnn ⊢
  rw [List.length_map] at hnn
  exact rconsistent_any w _ _ _ an cn nas _ h1 hnn hid2
theorem rtotalC_any (w : World) (c : CD) (v : Value) (hv : HasC w c v) (hnn : c.st.nodes.length ≤ 1000000) (hid : IdC c) :
    Calls Tryd.prog 32 #[v] w fun e w' => e = .returned (.bool (totB c.byz c.st.nodes)) ∧ Keeps w w' := by
  obtain ⟨an, cn, nas, ag, cg, rfl, h1, h2, h3, h4⟩ := hv
  have hid2 : ∀ z ∈ nas, 0 ≤ z.x.id ∧ z.x.id < 16 := fun z hz => hid z.x (by rw [← h4]; exact List.mem_map.2 ⟨z, hz, rfl⟩)
  rw [← h4] at hnn ⊢
  rw [List.length_map] at hnn
  exact rtotal_any w _ _ _ an cn nas _ h1 hnn hid2
/-! ### ids -/
theorem step_ids {f b : List S} {n : Nat} {byz : S} {lies : List Ct} {st : St} (hl : ∀ c ∈ lies, ∃ s : Nat, c.src = (s : Int) ∧ s < 16) (h : IdS st) (c : Nat) : IdS (stepS f b n byz lies st c) := by
  unfold stepS
  split
  · exact h
  split
  · exact deliv_ids h _
  · refine ⟨h.1, fun x hx => ?_⟩
    rcases List.mem_append.1 hx with hx | hx
    · exact h.2 x hx
    · rw [List.mem_singleton.1 hx]
      by_cases hj : c % (st.flight.length + lies.length) - st.flight.length < lies.length
      · exact hl _ (ctA_mem hj)
      · rw [List.getD, List.getElem?_eq_none (by omega)]; exact ⟨0, rfl, by decide⟩
theorem run_ids {f b : List S} {n : Nat} {byz : S} {lies : List Ct} (hl : ∀ c ∈ lies, ∃ s : Nat, c.src = (s : Int) ∧ s < 16) : ∀ (chs : List Nat) {st : St}, IdS st → IdS (runS f b n byz lies st chs)
  | [], _, h => h
  | c :: t, _, h => run_ids hl t (step_ids hl h c)
theorem start_ids {n : Nat} {byz : S} {source : Nat} (hn : n ≤ 8) (hs : source < n) (X : Str) : IdS (startS n byz source X 0) := by
  refine ⟨fun x hx => ?_, fun c hc => ?_⟩
  · obtain ⟨i, hi, rfl⟩ := List.mem_map.1 hx
    exact ⟨i, rfl, by have := List.mem_range.1 hi; omega⟩
  · unfold startS at hc
    dsimp only at hc
    split at hc
    · obtain ⟨i, _, rfl⟩ := (mem_toAll _ _).1 hc
      exact ⟨source, rfl, by omega⟩
    · simp at hc
theorem runS_idC {f b : List S} {n : Nat} {byz : S} {source : Nat} (hn : n ≤ 8) (hs : source < n) (chs : List Nat) : ∀ x ∈ (runS f b n byz (lieL n byz source strX strY) (startS n byz source strX 0) chs).nodes, 0 ≤ x.id ∧ x.id < 16 := fun x hx => by
  have h := run_ids (f := f) (b := b) (n := n) (byz := byz) (lies := lieL n byz source strX strY) (fun c hc => by obtain ⟨d, s, _, _, h1, h2, _⟩ := lieL_ok hc; exact ⟨s, h1, by omega⟩) chs (start_ids (byz := byz) hn hs strX)
  obtain ⟨s, h1, h2⟩ := h.1 x hx
  omega
/-! ### sizes -/
theorem minR_len (s : List S) : ∀ (t : List S) (i : Nat) (acc : List S), (minR s t i acc).length ≤ acc.length + t.length
  | [], i, acc => by simp [minR]
  | x :: t, i, acc => by
    unfold minR
    have h1 := minR_len s t (i + 1) (if loneR x i s 0 true = true then acc ++ [x] else acc)
    have h2 : (if loneR x i s 0 true = true then acc ++ [x] else acc).length ≤ acc.length + 1 := by split <;> simp
    rw [List.length_cons]
    omega
theorem refLeast_len9 (l : List S) : (refLeast l).length ≤ l.length := by
  have h1 := minR_len (sortR [] l) (sortR [] l) 0 []
  have h2 := sortR_length [] l
  unfold refLeast
  simp at h1 h2
  omega
theorem mdF_len (k : KA) : (mdF k).length ≤ 100000 := by
  unfold mdF
  split
  · exact Nat.le_trans (refLeast_len9 _) (Nat.le_trans (mdF0_len _ _ 6) (by omega))
  · exact Nat.le_trans (chTo_len _ _ _) (by omega)
theorem mdB_len (k : KA) : (mdB k).length ≤ 100000 := Nat.le_trans (mdB0_len _ _ 6) (by omega)
end Go.Proofs.YtbcfkgolhklkaaaDoor
