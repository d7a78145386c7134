/- Texts joined into one, what is needed of them (a program of ours). -/
import Derived.Test.YtijknodekomdfaaGreatDoorBKP
import Derived.Test.YtijknodekomdfaaGreatDoorBKTB
import Derived.Test.YtijknodekomdfaaGreatDoorBKC
namespace Go.Proofs.YtijknodekomdfaaGreatDoor
open Go.RowKit Go.Lib Go.Shelf

theorem small1_any (n : Nat) (hn : n = 1 ∨ n = 2) (w : World) : Calls Tryz.prog 238 #[.int .i64 n] w fun e w' => (∃ s : Str, e = .returned (.string s) ∧ s.size = 1) ∧ w = w' := by
  rcases hn with rfl | rfl
  all_goals
    go_enter Tryz.func238, Tryz.ntmps238
    go_wp2_with fail
    go_ret
    exact ⟨⟨_, rfl, by first | rfl | assumption | decide⟩, rfl⟩
theorem format1_any (n : Nat) (hn : n = 1 ∨ n = 2) (w : World) : Calls Tryz.prog 222 #[.int .i64 n, .int .i64 10] w fun e w' => (∃ s : Str, e = .returned (.string s) ∧ s.size = 1) ∧ w = w' := by
  have HC := Lib.hid (small1_any n hn w)
  have h1 : (0 : Int) ≤ (n : Int) := by omega
  have h2 : (n : Int) < 100 := by rcases hn with rfl | rfl <;> decide
  clear hn
  go_enter Tryz.func222, Tryz.ntmps222
  go_wp2_with fail
  refine HC.out.mono ?_
  rintro e w' ⟨⟨s, rfl, hs⟩, rfl⟩
  go_wp2_with fail
  go_ret
  exact ⟨⟨_, rfl, by first | rfl | assumption | decide⟩, rfl⟩
theorem itoa2_any (n : Nat) (hn : n = 1 ∨ n = 2) (w : World) : Calls Tryz.prog 195 #[.int .i64 n] w fun e w' => (∃ s : Str, e = .returned (.string s) ∧ s.size = 1) ∧ w = w' := by
  have HC := Lib.hid (format1_any n hn w)
  go_enter Tryz.func195, Tryz.ntmps195
  go_wp2_with fail
  refine HC.out.mono ?_
  rintro e w' ⟨⟨s, rfl, hs⟩, rfl⟩
  go_wp2_with fail
  go_ret
  exact ⟨⟨_, rfl, by first | rfl | assumption | decide⟩, rfl⟩
theorem itoa_any (n : Nat) (hn : n = 1 ∨ n = 2) (w : World) : Calls Tryz.prog 149 #[.int .i64 n] w fun e w' => (∃ s : Str, e = .returned (.string s) ∧ s.size = 1) ∧ w = w' := by
  have HC := Lib.hid (itoa2_any n hn w)
  go_enter Tryz.func149, Tryz.ntmps149
  go_wp2_with fail
  refine HC.out.mono ?_
  rintro e w' ⟨⟨s, rfl, hs⟩, rfl⟩
  go_wp2_with fail
  go_ret
  exact ⟨⟨_, rfl, by first | rfl | assumption | decide⟩, rfl⟩
structure OkF (n : Nat) (f : List S) : Prop where
  val : validS f = 0
  sup : (supS f >>> n == 0#16) = true
  ne : f.contains 0#16 = false
set_option maxHeartbeats 2000000 in
theorem scheck_any (n : Nat) (h1 : 1 ≤ n) (h2 : n ≤ 12) (fa : Option Addr) (fm fc : Nat) (f : List S) (ga : Option Addr) (gm gc : Nat) (g : List S) (B : Nat) (w : World) (hB : Blk w B 25 #[.slice fa fm fc, .slice ga gm gc])
    (hf : Rd w fa fm fc 1 (sl f)) (hg : Rd w ga gm gc 1 (sl g)) (of : OkF n f) (og : OkF n g) :
    Calls Tryz.prog 147 #[.int .i64 n, .slice (some ⟨B, 0, none⟩) 2 2] w fun e w' => e = .returned (.int .i64 0) ∧ Keeps w w' := by
  have HB := Lib.hid hB
  have HVF := Lib.hid (fun W (k : Keeps w W) => valid_any fa fm fc f W (hf.keep k))
  have HVG := Lib.hid (fun W (k : Keeps w W) => valid_any ga gm gc g W (hg.keep k))
  have HSF := Lib.hid (fun W (k : Keeps w W) => support_any fa fm fc f W (hf.keep k))
  have HSG := Lib.hid (fun W (k : Keeps w W) => support_any ga gm gc g W (hg.keep k))
  have HCF := Lib.hid (fun W (k : Keeps w W) => contains_s_any fa fm fc f 0#16 W (hf.keep k))
  have HCG := Lib.hid (fun W (k : Keeps w W) => contains_s_any ga gm gc g 0#16 W (hg.keep k))
  rw [of.val] at HVF; rw [og.val] at HVG; rw [of.ne] at HCF; rw [og.ne] at HCG
  have e1 : (supS f >>> n != 0#16) = false := by rw [bne, of.sup]; rfl
  have e2 : (supS g >>> n != 0#16) = false := by rw [bne, og.sup]; rfl
  have hmin : min n 16 = n := by omega
  clear hB hf hg of og
  generalize supS f = sf at *
  generalize supS g = sg at *
  go_enter Tryz.func147, Tryz.ntmps147
  go_wp2_with fail
  go_loopw [20] (fun u wr => ∃ k : Nat, k ≤ 2 ∧ u = .int .i64 k ∧ Keeps w wr) (fun u _ => 2 - (RowKit.intOf u).toNat)
  case atStart => exact ⟨0, Nat.zero_le _, rfl, Keeps.refl _⟩
  case round =>
    obtain ⟨k, hk, rfl, K⟩ := hrel
    by_cases hlt : k < 2
    · have c0 := (HB.out.keep K).cell 0 rfl
      have c1 := (HB.out.keep K).cell 1 rfl
      have HK := Lib.hid K
      clear K
      rcases (by omega : k = 0 ∨ k = 1) with rfl | rfl
      · go_wp2_with fail
        refine (HVF.out _ HK.out).mono ?_
        rintro e w2 ⟨rfl, k2⟩
        have HK2 := Lib.hid (HK.out.trans k2)
        clear k2 c0 c1
        go_wp2_with fail
        go_roundw
        case rel => exact ⟨1, by omega, by go_num, HK2.out⟩
        case measure => simp [RowKit.intOf]
      · go_wp2_with fail
        refine (HVG.out _ HK.out).mono ?_
        rintro e w2 ⟨rfl, k2⟩
        have HK2 := Lib.hid (HK.out.trans k2)
        clear k2 c0 c1
        go_wp2_with fail
        go_roundw
        case rel => exact ⟨2, by omega, by go_num, HK2.out⟩
        case measure => simp [RowKit.intOf]
    · have HK := Lib.hid K
      clear K
      go_wp2_with fail
      go_loopw [32] (fun u wr => ∃ k : Nat, k ≤ 2 ∧ u = .int .i64 k ∧ Keeps w wr) (fun u _ => 2 - (RowKit.intOf u).toNat)
      case atStart => exact ⟨0, Nat.zero_le _, rfl, HK.out⟩
      case round =>
        clear HK hlt hk
        obtain ⟨k, hk, rfl, K⟩ := hrel
        by_cases hlt : k < 2
        · have c0 := (HB.out.keep K).cell 0 rfl
          have c1 := (HB.out.keep K).cell 1 rfl
          have HK := Lib.hid K
          clear K
          rcases (by omega : k = 0 ∨ k = 1) with rfl | rfl
          · go_wp2_with fail
            refine (HSF.out _ HK.out).mono ?_
            rintro e w2 ⟨rfl, rfl⟩
            clear c0 c1
            go_wp2_with fail
            go_roundw
            case rel => exact ⟨1, by omega, by go_num, HK.out⟩
            case measure => simp [RowKit.intOf]
          · go_wp2_with fail
            refine (HSG.out _ HK.out).mono ?_
            rintro e w2 ⟨rfl, rfl⟩
            clear c0 c1
            go_wp2_with fail
            go_roundw
            case rel => exact ⟨2, by omega, by go_num, HK.out⟩
            case measure => simp [RowKit.intOf]
        · have HK := Lib.hid K
          clear K
          go_wp2_with fail
          go_loopw [44] (fun u wr => ∃ k : Nat, k ≤ 2 ∧ u = .int .i64 k ∧ Keeps w wr) (fun u _ => 2 - (RowKit.intOf u).toNat)
          case atStart => exact ⟨0, Nat.zero_le _, rfl, HK.out⟩
          case round =>
            clear HK hlt hk
            obtain ⟨k, hk, rfl, K⟩ := hrel
            by_cases hlt : k < 2
            · have c0 := (HB.out.keep K).cell 0 rfl
              have c1 := (HB.out.keep K).cell 1 rfl
              have HK := Lib.hid K
              clear K
              rcases (by omega : k = 0 ∨ k = 1) with rfl | rfl
              · go_wp2_with fail
                refine (HCF.out _ HK.out).mono ?_
                rintro e w2 ⟨rfl, rfl⟩
                clear c0 c1
                go_wp2_with fail
                go_roundw
                case rel => exact ⟨1, by omega, by go_num, HK.out⟩
                case measure => simp [RowKit.intOf]
              · go_wp2_with fail
                refine (HCG.out _ HK.out).mono ?_
                rintro e w2 ⟨rfl, rfl⟩
                clear c0 c1
                go_wp2_with fail
                go_roundw
                case rel => exact ⟨2, by omega, by go_num, HK.out⟩
                case measure => simp [RowKit.intOf]
            · have HK := Lib.hid K
              clear K
              go_wp2_with fail
              go_ret
              exact ⟨rfl, HK.out⟩
def OkQ (f : List S) : Prop := validS f = 0 ∧ f.contains 0#16 = false
theorem quorums_any (fa : Option Addr) (fm fc : Nat) (f : List S) (w : World) (h : Rd w fa fm fc 1 (sl f)) (o : OkQ f) :
    Calls Tryz.prog 223 #[.slice fa fm fc] w fun e w' => e = .returned (.int .i64 0) ∧ Keeps w w' := by
  have HV := Lib.hid (valid_any fa fm fc f w h)
  have HC := Lib.hid (fun W (k : Keeps w W) => contains_s_any fa fm fc f 0#16 W (h.keep k))
  rw [o.1] at HV; rw [o.2] at HC
  clear h o
  go_enter Tryz.func223, Tryz.ntmps223
  go_wp2_with fail
  refine HV.out.mono ?_
  rintro e w1 ⟨rfl, k1⟩
  have HK := Lib.hid k1
  clear k1
  go_wp2_with fail
  refine (HC.out _ HK.out).mono ?_
  rintro e w2 ⟨rfl, rfl⟩
  go_wp2_with fail
  go_ret
  exact ⟨rfl, HK.out⟩
theorem bothQ_any (fa : Option Addr) (fm fc : Nat) (f : List S) (ga : Option Addr) (gm gc : Nat) (g : List S) (w : World) (h : Rd w fa fm fc 1 (sl f)) (h2 : Rd w ga gm gc 1 (sl g)) (o : OkQ f) (o2 : OkQ g) :
    Calls Tryz.prog 196 #[.slice fa fm fc, .slice ga gm gc] w fun e w' => e = .returned (.int .i64 0) ∧ Keeps w w' := by
  have H1 := Lib.hid (quorums_any fa fm fc f w h o)
  have H2 := Lib.hid (fun W (k : Keeps w W) => quorums_any ga gm gc g W (h2.keep k) o2)
  clear h h2 o o2
  go_enter Tryz.func196, Tryz.ntmps196
  go_wp2_with fail
  refine H1.out.mono ?_
  rintro e w1 ⟨rfl, k1⟩
  have HK := Lib.hid k1
  clear k1
  go_wp2_with fail
  refine (H2.out _ HK.out).mono ?_
  rintro e w2 ⟨rfl, k2⟩
  have HK2 := Lib.hid (HK.out.trans k2)
  clear k2
  go_wp2_with fail
  go_ret
  exact ⟨rfl, HK2.out⟩
theorem fclPred (a b : S) (B1 B2 : Nat) (l : List S) (w : World) (h1 : w.cell? ⟨B1, 0, none⟩ = some (.int .u16 (sv a))) (h2 : w.cell? ⟨B2, 0, none⟩ = some (.int .u16 (sv b))) :
    PredK Tryz.prog 197 #[.pointer (some ⟨B1, 0, none⟩), .pointer (some ⟨B2, 0, none⟩)] vs (fun x => a &&& b &&& x == 0#16) l w := fun W x _ hk => by
  have c1 := hk.cell h1
  have c2 := hk.cell h2
  show Calls Tryz.prog 197 #[.int .u16 (sv x), .pointer (some ⟨B1, 0, none⟩), .pointer (some ⟨B2, 0, none⟩)] W _
  go_enter Tryz.func197, Tryz.ntmps197
  go_wp2_with fail
  go_ret
  exact ⟨rfl, Keeps.refl _⟩
/-- every two fast sets and every read set meet -/
def meet3 (f g : List S) : Prop := ∀ a ∈ g, ∀ b ∈ g, idxFrom (fun x => a &&& b &&& x == 0#16) f 0 = -1
set_option maxHeartbeats 2000000 in
theorem fclash_any (fa : Option Addr) (fm fc : Nat) (f : List S) (ga : Option Addr) (gm gc : Nat) (g : List S) (w : World) (h : Rd w fa fm fc 1 (sl f)) (h2 : Rd w ga gm gc 1 (sl g)) (o : OkQ f) (o2 : OkQ g) (hm : meet3 f g) :
    Calls Tryz.prog 155 #[.slice fa fm fc, .slice ga gm gc] w fun e w' => e = .returned (.tuple #[.int .u16 0, .int .u16 0, .int .u16 0, .int .i64 13]) ∧ Keeps w w' := by
  have HB := Lib.hid (bothQ_any fa fm fc f ga gm gc g w h h2 o o2)
  have HF := Lib.hid h; have HG := Lib.hid h2; have HM := Lib.hid hm; have L := Lib.hid h2.lenS
  have sg := h2.small
  have eg : ∀ args w, (callFunc 197 args).run Tryz.prog w = .ok (.enter 197 args) w := enters_of Tryz.func197 (by kernel_rfl) rfl
  have HEG := Lib.hid eg
  clear h h2 o o2 hm eg
  go_enter Tryz.func155, Tryz.ntmps155
  go_wp2_with fail
  refine HB.out.mono ?_
  rintro e w1 ⟨rfl, k1⟩
  have HK1 := Lib.hid k1
  clear HB k1
  go_wp2_with fail
  go_loopw [22] (fun u wr => ∃ i : Nat, i ≤ gm ∧ u = .int .i64 i ∧ Keeps w wr) (fun u _ => gm - (RowKit.intOf u).toNat)
  case atStart => exact ⟨0, Nat.zero_le _, rfl, HK1.out⟩
  case round =>
    obtain ⟨i, hi, rfl, K⟩ := hrel
    by_cases hlt : i < gm
    · have g0 := (HG.out.keep K).at hlt
      have hao := HG.out.isSome (by omega)
      have HA := Lib.hid (show at_ g i ∈ g from at_mem (by have := L.out; omega))
      generalize at_ g i = a at *
      have kA := (Keeps.refl wr).alloc (.cells #[.int .u16 (sv a)] 31)
      have HBA := Lib.hid (Blk.new wr 31 #[.int .u16 (sv a)])
      have HK := Lib.hid (K.trans kA)
      clear K kA
      go_upto_region 7 with fail
      generalize wr.alloc (.cells #[.int .u16 (sv a)] 31) = w2 at *
      generalize wr.heap.size = BA at *
      clear g0
      go_wp2_with fail
      go_loopw [28] (fun u wr => ∃ j : Nat, j ≤ gm ∧ u = .int .i64 j ∧ Keeps w wr ∧ Keeps w2 wr) (fun u _ => gm - (RowKit.intOf u).toNat)
      case atStart => exact ⟨0, Nat.zero_le _, rfl, HK.out, Keeps.refl _⟩
      case round =>
        obtain ⟨j, hj, rfl, K, K2⟩ := hrel
        by_cases hlj : j < gm
        · have g0 := (HG.out.keep K).at hlj
          have HAB := Lib.hid (show at_ g j ∈ g from at_mem (by have := L.out; omega))
          generalize at_ g j = b at *
          have kB := (Keeps.refl wr).alloc (.cells #[.int .u16 (sv b)] 31)
          have hBB := Blk.new wr 31 #[.int .u16 (sv b)]
          have hBA := (HBA.out.keep K2).keep kB
          have hix := indexFuncS_any fa fm fc f _ 197 #[.pointer (some ⟨BA, 0, none⟩), .pointer (some ⟨wr.heap.size, 0, none⟩)] (fun x => a &&& b &&& x == 0#16) ((HF.out.keep K).keep kB) HEG.out (fclPred a b BA wr.heap.size f _ (hBA.cell 0 rfl) (hBB.cell 0 rfl))
          rw [HM.out a HA.out b HAB.out] at hix
          have HIX := Lib.hid hix
          have HKA := Lib.hid (K.trans kB); have HKB := Lib.hid (K2.trans kB)
          clear K K2 kB hBB hBA hix
          go_wp2_with fail
          refine HIX.out.mono ?_
          rintro e w3 ⟨rfl, k3⟩
          have HKA := Lib.hid (HKA.out.trans k3); have HKB := Lib.hid (HKB.out.trans k3)
          clear k3 HIX g0
          go_wp2_with fail
          go_roundw
          case rel => exact ⟨j + 1, by omega, by go_num, HKA.out, HKB.out⟩
          case measure => simp [RowKit.intOf]; omega
        · have HKA := Lib.hid K
          clear K K2
          go_wp2_with fail
          go_roundw
          case rel => exact ⟨i + 1, by omega, by go_num, HKA.out⟩
          case measure => simp [RowKit.intOf]; omega
    · have HKA := Lib.hid K
      clear K
      go_wp2_with fail
      (try simp only [Exit.inBlock, Exit.then]); refine bodyPost_ret (results_4 rfl _ _ _) rfl ⟨rfl, HKA.out⟩
theorem fsafe_any (fa : Option Addr) (fm fc : Nat) (f : List S) (ga : Option Addr) (gm gc : Nat) (g : List S) (w : World) (h : Rd w fa fm fc 1 (sl f)) (h2 : Rd w ga gm gc 1 (sl g)) (o : OkQ f) (o2 : OkQ g) (hm : meet3 f g) :
    Calls Tryz.prog 85 #[.slice fa fm fc, .slice ga gm gc] w fun e w' => e = .returned (.bool true) ∧ Keeps w w' := by
  have HC := Lib.hid (fclash_any fa fm fc f ga gm gc g w h h2 o o2 hm)
  clear h h2 o o2 hm
  go_enter Tryz.func85, Tryz.ntmps85
  go_wp2_with fail
  refine HC.out.mono ?_
  rintro e w1 ⟨rfl, k1⟩
  have HK := Lib.hid k1
  clear k1
  go_wp2_with fail
  go_ret
  exact ⟨rfl, HK.out⟩
end Go.Proofs.YtijknodekomdfaaGreatDoor
namespace Go.Proofs.YtijknodekomdfaaGreatDoor
open Go.RowKit Go.Lib Go.Shelf

theorem info_ev : (Tryz.prog.info? 214).map (fun i => (i.zero, i.size, i.bytes)) = some (some (.agg #[.int .i64 0, .int .i64 0, .int .i64 0, .string ⟨#[]⟩]), 4, 40) := by kernel_rfl
theorem ty_ev : STy Tryz.prog 135 214 4 40 := STy.of Tryz.underlying135 info_ev rfl (by decide) (by decide)
set_option maxHeartbeats 1000000 in
theorem satk_safe (n : Nat) (h1 : 1 ≤ n) (h2 : n ≤ 12) (fa : Option Addr) (fm fc : Nat) (f : List S) (ga : Option Addr) (gm gc : Nat) (g : List S) (w : World) (hf : Rd w fa fm fc 1 (sl f)) (hg : Rd w ga gm gc 1 (sl g)) (of : OkF n f) (og : OkF n g) (hd : disR f g = (0#16, 0#16, 13)) :
    Calls Tryz.prog 82 #[.slice fa fm fc, .slice ga gm gc, .int .i64 n] w fun e w' => e = .returned (.tuple #[.slice none 0 0, .int .i64 13]) ∧ Keeps w w' := by
  have kB := (Keeps.refl w).alloc (.cells #[.slice fa fm fc, .slice ga gm gc] 25)
  have hB := Blk.new w 25 #[.slice fa fm fc, .slice ga gm gc]
  have HCK := Lib.hid (scheck_any n h1 h2 fa fm fc f ga gm gc g w.heap.size _ hB (hf.keep kB) (hg.keep kB) of og)
  have HK0 := Lib.hid kB
  have HDJ := Lib.hid (fun W (k : Keeps w W) => disjoint_any fa fm fc f ga gm gc g W (hf.keep k) (hg.keep k))
  rw [hd] at HDJ
  unfold RetP at HDJ
  clear kB hB hf hg of og hd h1 h2
  go_enter Tryz.func82, Tryz.ntmps82
  go_wp2_with fail
  refine HCK.out.mono ?_
  rintro e w1 ⟨rfl, k1⟩
  have HK := Lib.hid (HK0.out.trans k1)
  clear k1 HCK
  go_wp2_with fail
  refine (HDJ.out _ HK.out).mono ?_
  rintro e w2 ⟨rfl, rfl⟩
  go_wp2_with fail
  go_ret2
  exact ⟨rfl, HK.out⟩
set_option maxHeartbeats 4000000 in
theorem satk_ok (n : Nat) (h1 : 1 ≤ n) (h2 : n ≤ 12) (fa : Option Addr) (fm fc : Nat) (f : List S) (ga : Option Addr) (gm gc : Nat) (g : List S) (w : World) (hT : Tab w) (hf : Rd w fa fm fc 1 (sl f)) (hg : Rd w ga gm gc 1 (sl g)) (of : OkF n f) (og : OkF n g) (r z : S) (hd : disR f g = (r, z, 0))
    (hl : 0 < fm) (s0 : small (at_ f 0)) (sr : small r) (sz : small z) (m0 : (members (at_ f 0)).length = 2) (mr : (members r).length = 2) (mz : (members z).length = 2) :
    Calls Tryz.prog 82 #[.slice fa fm fc, .slice ga gm gc, .int .i64 n] w fun e w' => ∃ a c, e = .returned (.tuple #[.slice a 8 c, .int .i64 0]) ∧ Keeps w w' := by
  have kB := (Keeps.refl w).alloc (.cells #[.slice fa fm fc, .slice ga gm gc] 25)
  have hB := Blk.new w 25 #[.slice fa fm fc, .slice ga gm gc]
  have HCK := Lib.hid (scheck_any n h1 h2 fa fm fc f ga gm gc g w.heap.size _ hB (hf.keep kB) (hg.keep kB) of og)
  have HK0 := Lib.hid kB
  have HDJ := Lib.hid (fun W (k : Keeps w W) => disjoint_any fa fm fc f ga gm gc g W (hf.keep k) (hg.keep k))
  rw [hd] at HDJ
  unfold RetP at HDJ
  have HM0 := Lib.hid (fun W (k : Keeps w W) => members_any (at_ f 0) W (hT.keep k) s0)
  have HMR := Lib.hid (fun W (k : Keeps w W) => members_any r W (hT.keep k) sr)
  have HMZ := Lib.hid (fun W (k : Keeps w W) => members_any z W (hT.keep k) sz)
  have HF := Lib.hid hf
  have HIT := Lib.hid (fun k (h : k = 1 ∨ k = 2) W => itoa_any k h W)
  rw [m0] at HM0; rw [mr] at HMR; rw [mz] at HMZ
  generalize members (at_ f 0) = L0 at *
  generalize members r = LR at *
  generalize members z = LZ at *
  have HL := Lib.hid (And.intro m0 (And.intro mr mz))
  have HAT := Lib.hid (fun W (k : Keeps w W) => (hf.keep k).at hl)
  have hao := hf.isSome (by omega)
  generalize at_ f 0 = x0 at *
  clear kB hB hf hg of og hd h1 h2 hT s0 sr sz m0 mr mz
  go_enter Tryz.func82, Tryz.ntmps82
  go_wp2_with fail
  refine HCK.out.mono ?_
  rintro e w1 ⟨rfl, k1⟩
  have HK := Lib.hid (HK0.out.trans k1)
  clear k1 HCK
  go_wp2_with fail
  refine (HDJ.out _ HK.out).mono ?_
  rintro e w2 ⟨rfl, rfl⟩
  have g0 := HAT.out _ HK.out
  have hbn : ((0 : Int) != 0) = false := rfl
  have kS := (Keeps.refl w1).alloc (.cells #[.int .u16 (sv x0), .int .u16 (sv r)] 31)
  have hS := Blk.new w1 31 #[.int .u16 (sv x0), .int .u16 (sv r)]
  have HS := Lib.hid hS; have HKS := Lib.hid (HK.out.trans kS)
  clear hS kS
  go_wp2_with fail
  clear g0
  generalize w1.alloc (.cells #[.int .u16 (sv x0), .int .u16 (sv r)] 31) = w3 at *
  generalize w1.heap.size = BS at *
  go_loopw [12, 43] (fun v u wr => ∃ (k : Nat) (xs : List Value), k ≤ 2 ∧ u = .int .i64 k ∧ Own 214 4 w3 wr v (4 * k) xs) (fun _ u _ => 2 - (RowKit.intOf u).toNat)
  case atStart => exact ⟨0, [], Nat.zero_le _, rfl, Own.nil _ _ (Keeps.refl _)⟩
  case round =>
    obtain ⟨k, xs, hk, rfl, hO⟩ := hrel
    by_cases hlt : k < 2
    · obtain ⟨q, Lq, hq, hL2, hM⟩ : ∃ (q : S) (Lq : List Nat), wr.cell? ⟨BS, k, none⟩ = some (.int .u16 (sv q)) ∧ Lq.length = 2 ∧ ∀ W, Keeps w W → Calls Tryz.prog 132 #[.int .u16 (sv q)] W fun e w' => ∃ v, e = .returned v ∧ Own 3 1 W w' v 2 (il Lq) := by
        rcases (by omega : k = 0 ∨ k = 1) with rfl | rfl
        · exact ⟨x0, L0, (HS.out.keep hO.2).cell 0 rfl, HL.out.1, HM0.out⟩
        · exact ⟨r, LR, (HS.out.keep hO.2).cell 1 rfl, HL.out.2.1, HMR.out⟩
      have HM := Lib.hid hM
      have HKR := Lib.hid (HKS.out.trans hO.2)
      have HO := Lib.hid hO
      clear hM hO
      go_wp2_with fail
      refine (HM.out _ HKR.out).mono ?_
      rintro e w4 ⟨mv, rfl, hI⟩
      obtain ⟨am, cm, rfl, _⟩ := hI.rd
      have HI := Lib.hid hI.row0
      have HO4 := Lib.hid (HO.out.keep hI.2); have HK4 := Lib.hid (HKR.out.trans hI.2)
      clear HM hI HO hq
      go_wp2_with fail
      go_loopw [12, 51] (fun v u wr => ∃ (j : Nat) (xs : List Value), j ≤ 2 ∧ u = .int .i64 j ∧ Own 214 4 w3 wr v (4 * k + j) xs ∧ Row0 3 1 wr (.slice am 2 cm) 2 (il Lq)) (fun _ u _ => 2 - (RowKit.intOf u).toNat)
      case atStart => exact ⟨0, xs, Nat.zero_le _, rfl, HO4.out, HI.out⟩
      case round =>
        clear HO4 HI
        obtain ⟨j, xs, hj, rfl, hO, hI⟩ := hrel
        have HI := Lib.hid hI
        by_cases hlj : j < 2
        · have q0 := hI.rd.cell j _ (il_at Lq j (by omega))
          have hao2 := hI.rd.isSome (by omega)
          generalize im Lq j = s at *
          have HO := Lib.hid hO
          obtain ⟨ao, co, rfl, _⟩ := hO.rd
          clear hO hI
          go_wp2_with (at_builtin; refine wp_app ty_ev rfl _ _ rfl (HO.out.alloc _) rfl rfl (rd_new 214 4 _ [.int .i64 1, .int .i64 s, .int .i64 ((k : Int) + 1), .string ⟨#[]⟩] 1 (by decide) rfl) (by intro u hu; simp at hu; rcases hu with rfl | rfl | rfl | rfl <;> rfl) (by omega) ?_)
          intro v' w5 hO1 hgr
          have hI5 : Row0 3 1 w5 (.slice am 2 cm) 2 (il Lq) := row_kept (HI.out.keep ((Keeps.refl _).alloc _)) (HO.out.alloc _).1 (by decide) hgr
          obtain ⟨a5, c5, rfl, _⟩ := hO1.rd
          have HO1 := Lib.hid hO1; have HI5 := Lib.hid hI5
          clear hO1 hI5 hgr q0 HO HI
          go_wp2_with fail
          go_roundw
          case rel => exact ⟨j + 1, _, by omega, by go_num, by have h := HO1.out; rw [Nat.add_assoc] at h; exact h, HI5.out⟩
          case measure => simp [RowKit.intOf]; omega
        · have hj2 : j = 2 := by omega
          subst hj2
          obtain ⟨ao, co, rfl, _⟩ := hO.rd
          have HO := Lib.hid hO
          have HKO := Lib.hid (HKS.out.trans hO.2)
          clear hO hI HI
          go_wp2_with fail
          refine (HMZ.out _ HKO.out).mono ?_
          rintro e w6 ⟨mv, rfl, hI⟩
          obtain ⟨am2, cm2, rfl, _⟩ := hI.rd
          have HI := Lib.hid hI.row0
          have HO6 := Lib.hid (HO.out.keep hI.2)
          clear hI HO
          go_wp2_with fail
          go_loopw [12, 66] (fun v u wr => ∃ (j : Nat) (xs : List Value), j ≤ 2 ∧ u = .int .i64 j ∧ Own 214 4 w3 wr v (4 * k + 2 + j) xs ∧ Row0 3 1 wr (.slice am2 2 cm2) 2 (il LZ)) (fun _ u _ => 2 - (RowKit.intOf u).toNat)
          case atStart => exact ⟨0, xs, Nat.zero_le _, rfl, HO6.out, HI.out⟩
          case round =>
            clear HO6 HI
            obtain ⟨j, xs, hj, rfl, hO, hI⟩ := hrel
            have HI := Lib.hid hI
            by_cases hlj : j < 2
            · have q0 := hI.rd.cell j _ (il_at LZ j (by have := HL.out.2.2; omega))
              have hao2 := hI.rd.isSome (by omega)
              generalize im LZ j = s at *
              have HO := Lib.hid hO
              obtain ⟨ao, co, rfl, _⟩ := hO.rd
              have hit := fun W => HIT.out (k + 1) (by omega) W
              rw [show ((k + 1 : Nat) : Int) = (k : Int) + 1 by omega] at hit
              have HI2 := Lib.hid hit
              clear hO hI hit
              go_wp2_with fail
              refine (HI2.out _).mono ?_
              rintro e w7 ⟨⟨str, rfl, hstr⟩, rfl⟩
              go_wp2_with (at_builtin; refine wp_app ty_ev rfl _ _ rfl (HO.out.alloc _) rfl rfl (rd_new 214 4 _ _ 1 (by decide) rfl) (by intro u hu; simp at hu; rcases hu with rfl | rfl | rfl | rfl <;> rfl) (by omega) ?_)
              intro v' w5 hO1 hgr
              have hI5 : Row0 3 1 w5 (.slice am2 2 cm2) 2 (il LZ) := row_kept (HI.out.keep ((Keeps.refl _).alloc _)) (HO.out.alloc _).1 (by decide) hgr
              obtain ⟨a5, c5, rfl, _⟩ := hO1.rd
              have HO1 := Lib.hid hO1; have HI5 := Lib.hid hI5
              clear hO1 hI5 hgr q0 HO HI HI2
              go_wp2_with fail
              go_roundw
              case rel => exact ⟨j + 1, _, by omega, by go_num, by have h := HO1.out; rw [Nat.add_assoc] at h; exact h, HI5.out⟩
              case measure => simp [RowKit.intOf]; omega
            · have hj2 : j = 2 := by omega
              subst hj2
              have HO := Lib.hid (show Own 214 4 w3 _ _ (4 * (k + 1)) xs by rw [show 4 * (k + 1) = 4 * k + 2 + 2 by omega]; exact hO)
              obtain ⟨ao, co, rfl, _⟩ := hO.rd
              clear hO hI HI
              go_wp2_with fail
              go_roundw
              case rel => exact ⟨k + 1, xs, by omega, by go_num, HO.out⟩
              case measure => simp [RowKit.intOf]; omega
    · have hk2 : k = 2 := by omega
      subst hk2
      obtain ⟨ao, co, rfl, _⟩ := hO.rd
      have HKE := Lib.hid (HKS.out.trans hO.2)
      clear hO
      go_wp2_with fail
      go_ret2
      exact ⟨_, _, rfl, HKE.out⟩
end Go.Proofs.YtijknodekomdfaaGreatDoor
