/- The walk of DisseminationMore. -/
import Derived.Test.YtnkknjpnkobplaaDisMath
namespace Go.Proofs.Ytnkknjpnkobplaa
open Go.RowKit Go.Lib Go.Shelf

theorem moreS_snoc (m : S) (b : List S) (k : Nat) (h : k < b.length) : moreS (b.take (k + 1)) m = moreS (b.take k) m ++ [at_ b k ||| m] := by
  rw [take_at b k h]; simp [moreS]
theorem fewerS_snoc (m : S) (b : List S) (k : Nat) (h : k < b.length) : fewerS (b.take (k + 1)) m = fewerS (b.take k) m ++ [at_ b k &&& ~~~m] := by
  rw [take_at b k h]; simp [fewerS]

set_option maxHeartbeats 3200000 in
theorem DisseminationMore_any (a1 : Option Addr) (n1 c1 : Nat) (a2 : Option Addr) (n2 c2 : Nat) (f b : List S) (m0 m1 : S) (w : World) (hf : Rd w a1 n1 c1 1 (sl f)) (hb : Rd w a2 n2 c2 1 (sl b)) :
    Calls Try.prog 5 #[.slice a1 n1 c1, .slice a2 n2 c2, .agg #[.int .u16 (sv m0), .int .u16 (sv m1)]] w fun e w' => e = .returned (.bool true) ∧ Keeps w w' := by
  have KK : Keeps w (w.alloc (.cells #[.int .u16 (sv m0), .int .u16 (sv m1)] 34)) := (Keeps.refl w).alloc _
  replace hf := hf.keep KK
  replace hb := hb.keep KK
  have hx0 : (w.alloc (.cells #[.int .u16 (sv m0), .int .u16 (sv m1)] 34)).cell? ⟨w.heap.size, 0, none⟩ = some (.int .u16 (sv m0)) := by rw [World.cell?_alloc_at _ _ _ _ rfl]; rfl
  have hx1 : (w.alloc (.cells #[.int .u16 (sv m0), .int .u16 (sv m1)] 34)).cell? ⟨w.heap.size, 1, none⟩ = some (.int .u16 (sv m1)) := by rw [World.cell?_alloc_at _ _ _ _ rfl]; rfl
  by_cases hn1 : n1 ≤ 20
  rotate_left
  · skip
    go_enter Try.func5, Try.ntmps5
    go_wp2_with fail
    refine (awake_any _).mono ?_
    rintro e W1 ⟨rfl, K⟩
    replace hf := hf.keep K
    replace hb := hb.keep K
    replace hx0 := K.cell hx0
    replace hx1 := K.cell hx1
    replace KK := KK.trans K
    clear K
    go_wp2_with fail
    refine (few_no _ _ _ _ hn1).mono ?_
    rintro e W2 ⟨rfl, rfl⟩
    go_wp2_with fail
    refine (awake_any _).mono ?_
    rintro e W3 ⟨rfl, K⟩
    replace hf := hf.keep K
    replace hb := hb.keep K
    replace hx0 := K.cell hx0
    replace hx1 := K.cell hx1
    replace KK := KK.trans K
    clear K
    go_wp2_with fail
    go_ret
    exact ⟨rfl, KK⟩
  by_cases hn2 : n2 ≤ 20
  rotate_left
  · skip
    go_enter Try.func5, Try.ntmps5
    go_wp2_with fail
    refine (awake_any _).mono ?_
    rintro e W1 ⟨rfl, K⟩
    replace hf := hf.keep K
    replace hb := hb.keep K
    replace hx0 := K.cell hx0
    replace hx1 := K.cell hx1
    replace KK := KK.trans K
    clear K
    go_wp2_with fail
    refine (few_yes _ _ _ _ hn1).mono ?_
    rintro e W2 ⟨rfl, rfl⟩
    go_wp2_with fail
    refine (few_no _ _ _ _ hn2).mono ?_
    rintro e W3 ⟨rfl, rfl⟩
    go_wp2_with fail
    refine (awake_any _).mono ?_
    rintro e W4 ⟨rfl, K⟩
    replace hf := hf.keep K
    replace hb := hb.keep K
    replace hx0 := K.cell hx0
    replace hx1 := K.cell hx1
    replace KK := KK.trans K
    clear K
    go_wp2_with fail
    go_ret
    exact ⟨rfl, KK⟩
  have s1 := hf.small; have s2 := hb.small; have l1 := hf.lenS; have l2 := hb.lenS
  have L1 := Lib.hid l1; have L2 := Lib.hid l2
  have hgl : (moreS f m0).length = n1 := by simp [moreS, l1]
  have hcl : (fewerS b m1).length = n2 := by simp [fewerS, l2]
  clear l1 l2
  have HG := Lib.hid hgl; have HC := Lib.hid hcl; clear hgl hcl
  have nd := Lib.hid (more_dis f b m0 m1); have nm := Lib.hid (more_mask f b m0 m1)
  have hd := Lib.hid fun a1 n1 c1 a2 n2 c2 w h1 h2 => dis_any a1 n1 c1 a2 n2 c2 f b w h1 h2
  have hm := Lib.hid fun a1 n1 c1 a2 n2 c2 w h1 h2 => mask_any a1 n1 c1 a2 n2 c2 f b w h1 h2
  have hd2 := Lib.hid fun a1 n1 c1 a2 n2 c2 w h1 h2 => dis_any a1 n1 c1 a2 n2 c2 (moreS f m0) (fewerS b m1) w h1 h2
  have hm2 := Lib.hid fun a1 n1 c1 a2 n2 c2 w h1 h2 => mask_any a1 n1 c1 a2 n2 c2 (moreS f m0) (fewerS b m1) w h1 h2
  generalize disOK b f = qd at hd nd
  generalize maskOK b f = qm at hm nm
  generalize disOK (fewerS b m1) (moreS f m0) = qd2 at hd2 nd
  generalize maskOK (fewerS b m1) (moreS f m0) = qm2 at hm2 nm
  go_enter Try.func5, Try.ntmps5
  go_wp2_with fail
  refine (awake_any _).mono ?_
  rintro e W1 ⟨rfl, K⟩
  replace hf := hf.keep K
  replace hb := hb.keep K
  replace hx0 := K.cell hx0
  replace hx1 := K.cell hx1
  replace KK := KK.trans K
  clear K
  go_wp2_with fail
  refine (few_yes _ _ _ _ hn1).mono ?_
  rintro e W2 ⟨rfl, rfl⟩
  go_wp2_with fail
  refine (few_yes _ _ _ _ hn2).mono ?_
  rintro e W3 ⟨rfl, rfl⟩
  obtain ⟨wo, rfl⟩ : ∃ wo : World, wo = W1 := ⟨_, rfl⟩
  go_wp2
  go_loopw [7, 28] (fun u v wr => ∃ k : Nat, k ≤ n1 ∧ v = .int .i64 k ∧ Own 26 1 wo wr u k (sl (moreS (f.take k) m0))) (fun _ v _ => n1 - (intOf v).toNat)
  case atStart => exact ⟨0, Nat.zero_le _, rfl, Own.nil _ _ (Keeps.refl _)⟩
  case round =>
    obtain ⟨k, hk, rfl, hA⟩ := hrel
    by_cases hlt : k < n1
    · have hc := (hf.keep hA.2).at hlt
      have hy0 := hA.2.cell hx0
      have ha := hf.isSome (by omega)
      obtain ⟨a3, c3, rfl, hRa⟩ := hA.rd
      go_wp2_with (at_builtin; refine wp_app tyS rfl _ _ rfl (hA.alloc _) rfl rfl (rd_new _ 1 _ [.int .u16 (sv (at_ f k ||| m0))] 1 (by decide) rfl) (sl_oneCell [at_ f k ||| m0]) ?_ ?_)
      · omega
      · intro v' w3 hO3 _
        go_wp2
        go_roundw
        case rel => exact ⟨k + 1, by omega, by go_num, by rw [moreS_snoc _ _ _ (by have := L1.out; omega), sl_append]; exact hO3⟩
        case measure => simp [intOf]; omega
    · have hkm : k = n1 := by omega
      subst hkm
      rw [List.take_of_length_le (by have := L1.out; omega)] at hA
      obtain ⟨ag, cg, rfl, hg⟩ := hA.rd
      replace hf := hf.keep hA.2
      replace hb := hb.keep hA.2
      replace hx0 := hA.2.cell hx0
      replace hx1 := hA.2.cell hx1
      replace KK := KK.trans hA.2
      clear hA
      obtain ⟨wp, rfl⟩ : ∃ wp : World, wp = wr := ⟨_, rfl⟩
      go_wp2
      go_loopw [8, 42] (fun u v wr => ∃ j : Nat, j ≤ n2 ∧ v = .int .i64 j ∧ Own 26 1 wp wr u j (sl (fewerS (b.take j) m1))) (fun _ v _ => n2 - (intOf v).toNat)
      case atStart => exact ⟨0, Nat.zero_le _, rfl, Own.nil _ _ (Keeps.refl _)⟩
      case round =>
        obtain ⟨j, hj, rfl, hA⟩ := hrel
        by_cases hlt2 : j < n2
        · have hc := (hb.keep hA.2).at hlt2
          have hy1 := hA.2.cell hx1
          have ha := hb.isSome (by omega)
          obtain ⟨a3, c3, rfl, hRa⟩ := hA.rd
          go_wp2_with (at_builtin; refine wp_app tyS rfl _ _ rfl (hA.alloc _) rfl rfl (rd_new _ 1 _ [.int .u16 (sv (at_ b j &&& ~~~m1))] 1 (by decide) rfl) (sl_oneCell [at_ b j &&& ~~~m1]) ?_ ?_)
          · omega
          · intro v' w3 hO3 _
            go_wp2
            go_roundw
            case rel => exact ⟨j + 1, by omega, by go_num, by rw [fewerS_snoc _ _ _ (by have := L2.out; omega), sl_append]; exact hO3⟩
            case measure => simp [intOf]; omega
        · have hjm : j = n2 := by omega
          subst hjm
          rw [List.take_of_length_le (by have := L2.out; omega)] at hA
          obtain ⟨ac, cc, rfl, hc⟩ := hA.rd
          replace hf := hf.keep hA.2
          replace hb := hb.keep hA.2
          replace hg := hg.keep hA.2
          replace KK := KK.trans hA.2
          clear hA hx0 hx1
          cases qm with
          | false =>
            cases qd with
            | false =>
              go_wp2_with fail
              refine (cloneS_any _ _ _ (sl f) _ hf (sl_oneCell _) (by omega)).mono ?_
              rintro e W21 ⟨v, rfl, ho, K⟩
              obtain ⟨a_h5, c_h5, rfl, h5⟩ := own_rd ho
              clear ho
              replace hf := hf.keep K
              replace hb := hb.keep K
              replace hg := hg.keep K
              replace hc := hc.keep K
              replace KK := KK.trans K
              clear K
              go_wp2_with fail
              refine (cloneS_any _ _ _ (sl b) _ hb (sl_oneCell _) (by omega)).mono ?_
              rintro e W22 ⟨v, rfl, ho, K⟩
              obtain ⟨a_h6, c_h6, rfl, h6⟩ := own_rd ho
              clear ho
              replace hf := hf.keep K
              replace hb := hb.keep K
              replace hg := hg.keep K
              replace hc := hc.keep K
              replace h5 := h5.keep K
              replace KK := KK.trans K
              clear K
              go_wp2_with fail
              refine (hm.out _ _ _ _ _ _ _ h5 h6).mono ?_
              rintro e W23 ⟨rfl, rfl⟩
              go_wp2_with fail
              refine (cloneS_any _ _ _ (sl f) _ hf (sl_oneCell _) (by omega)).mono ?_
              rintro e W24 ⟨v, rfl, ho, K⟩
              obtain ⟨a_h7, c_h7, rfl, h7⟩ := own_rd ho
              clear ho
              replace hf := hf.keep K
              replace hb := hb.keep K
              replace hg := hg.keep K
              replace hc := hc.keep K
              replace h5 := h5.keep K
              replace h6 := h6.keep K
              replace KK := KK.trans K
              clear K
              go_wp2_with fail
              refine (cloneS_any _ _ _ (sl b) _ hb (sl_oneCell _) (by omega)).mono ?_
              rintro e W25 ⟨v, rfl, ho, K⟩
              obtain ⟨a_h8, c_h8, rfl, h8⟩ := own_rd ho
              clear ho
              replace hf := hf.keep K
              replace hb := hb.keep K
              replace hg := hg.keep K
              replace hc := hc.keep K
              replace h5 := h5.keep K
              replace h6 := h6.keep K
              replace h7 := h7.keep K
              replace KK := KK.trans K
              clear K
              go_wp2_with fail
              refine (hd.out _ _ _ _ _ _ _ h7 h8).mono ?_
              rintro e W26 ⟨rfl, rfl⟩
              go_wp2_with fail
              go_ret
              exact ⟨rfl, KK⟩
            | true =>
              obtain rfl : qd2 = true := nd.out rfl
              go_wp2_with fail
              refine (cloneS_any _ _ _ (sl f) _ hf (sl_oneCell _) (by omega)).mono ?_
              rintro e W21 ⟨v, rfl, ho, K⟩
              obtain ⟨a_h5, c_h5, rfl, h5⟩ := own_rd ho
              clear ho
              replace hf := hf.keep K
              replace hb := hb.keep K
              replace hg := hg.keep K
              replace hc := hc.keep K
              replace KK := KK.trans K
              clear K
              go_wp2_with fail
              refine (cloneS_any _ _ _ (sl b) _ hb (sl_oneCell _) (by omega)).mono ?_
              rintro e W22 ⟨v, rfl, ho, K⟩
              obtain ⟨a_h6, c_h6, rfl, h6⟩ := own_rd ho
              clear ho
              replace hf := hf.keep K
              replace hb := hb.keep K
              replace hg := hg.keep K
              replace hc := hc.keep K
              replace h5 := h5.keep K
              replace KK := KK.trans K
              clear K
              go_wp2_with fail
              refine (hm.out _ _ _ _ _ _ _ h5 h6).mono ?_
              rintro e W23 ⟨rfl, rfl⟩
              go_wp2_with fail
              refine (cloneS_any _ _ _ (sl f) _ hf (sl_oneCell _) (by omega)).mono ?_
              rintro e W24 ⟨v, rfl, ho, K⟩
              obtain ⟨a_h7, c_h7, rfl, h7⟩ := own_rd ho
              clear ho
              replace hf := hf.keep K
              replace hb := hb.keep K
              replace hg := hg.keep K
              replace hc := hc.keep K
              replace h5 := h5.keep K
              replace h6 := h6.keep K
              replace KK := KK.trans K
              clear K
              go_wp2_with fail
              refine (cloneS_any _ _ _ (sl b) _ hb (sl_oneCell _) (by omega)).mono ?_
              rintro e W25 ⟨v, rfl, ho, K⟩
              obtain ⟨a_h8, c_h8, rfl, h8⟩ := own_rd ho
              clear ho
              replace hf := hf.keep K
              replace hb := hb.keep K
              replace hg := hg.keep K
              replace hc := hc.keep K
              replace h5 := h5.keep K
              replace h6 := h6.keep K
              replace h7 := h7.keep K
              replace KK := KK.trans K
              clear K
              go_wp2_with fail
              refine (hd.out _ _ _ _ _ _ _ h7 h8).mono ?_
              rintro e W26 ⟨rfl, rfl⟩
              go_wp2_with fail
              refine (hd2.out _ _ _ _ _ _ _ hg hc).mono ?_
              rintro e W27 ⟨rfl, rfl⟩
              go_wp2_with fail
              go_ret
              exact ⟨rfl, KK⟩
          | true =>
            cases qd with
            | false =>
              obtain rfl : qm2 = true := nm.out rfl
              go_wp2_with fail
              refine (cloneS_any _ _ _ (sl f) _ hf (sl_oneCell _) (by omega)).mono ?_
              rintro e W21 ⟨v, rfl, ho, K⟩
              obtain ⟨a_h5, c_h5, rfl, h5⟩ := own_rd ho
              clear ho
              replace hf := hf.keep K
              replace hb := hb.keep K
              replace hg := hg.keep K
              replace hc := hc.keep K
              replace KK := KK.trans K
              clear K
              go_wp2_with fail
              refine (cloneS_any _ _ _ (sl b) _ hb (sl_oneCell _) (by omega)).mono ?_
              rintro e W22 ⟨v, rfl, ho, K⟩
              obtain ⟨a_h6, c_h6, rfl, h6⟩ := own_rd ho
              clear ho
              replace hf := hf.keep K
              replace hb := hb.keep K
              replace hg := hg.keep K
              replace hc := hc.keep K
              replace h5 := h5.keep K
              replace KK := KK.trans K
              clear K
              go_wp2_with fail
              refine (hm.out _ _ _ _ _ _ _ h5 h6).mono ?_
              rintro e W23 ⟨rfl, rfl⟩
              go_wp2_with fail
              refine (hm2.out _ _ _ _ _ _ _ hg hc).mono ?_
              rintro e W24 ⟨rfl, rfl⟩
              go_wp2_with fail
              refine (cloneS_any _ _ _ (sl f) _ hf (sl_oneCell _) (by omega)).mono ?_
              rintro e W25 ⟨v, rfl, ho, K⟩
              obtain ⟨a_h7, c_h7, rfl, h7⟩ := own_rd ho
              clear ho
              replace hf := hf.keep K
              replace hb := hb.keep K
              replace hg := hg.keep K
              replace hc := hc.keep K
              replace h5 := h5.keep K
              replace h6 := h6.keep K
              replace KK := KK.trans K
              clear K
              go_wp2_with fail
              refine (cloneS_any _ _ _ (sl b) _ hb (sl_oneCell _) (by omega)).mono ?_
              rintro e W26 ⟨v, rfl, ho, K⟩
              obtain ⟨a_h8, c_h8, rfl, h8⟩ := own_rd ho
              clear ho
              replace hf := hf.keep K
              replace hb := hb.keep K
              replace hg := hg.keep K
              replace hc := hc.keep K
              replace h5 := h5.keep K
              replace h6 := h6.keep K
              replace h7 := h7.keep K
              replace KK := KK.trans K
              clear K
              go_wp2_with fail
              refine (hd.out _ _ _ _ _ _ _ h7 h8).mono ?_
              rintro e W27 ⟨rfl, rfl⟩
              go_wp2_with fail
              go_ret
              exact ⟨rfl, KK⟩
            | true =>
              obtain rfl : qm2 = true := nm.out rfl
              obtain rfl : qd2 = true := nd.out rfl
              go_wp2_with fail
              refine (cloneS_any _ _ _ (sl f) _ hf (sl_oneCell _) (by omega)).mono ?_
              rintro e W21 ⟨v, rfl, ho, K⟩
              obtain ⟨a_h5, c_h5, rfl, h5⟩ := own_rd ho
              clear ho
              replace hf := hf.keep K
              replace hb := hb.keep K
              replace hg := hg.keep K
              replace hc := hc.keep K
              replace KK := KK.trans K
              clear K
              go_wp2_with fail
              refine (cloneS_any _ _ _ (sl b) _ hb (sl_oneCell _) (by omega)).mono ?_
              rintro e W22 ⟨v, rfl, ho, K⟩
              obtain ⟨a_h6, c_h6, rfl, h6⟩ := own_rd ho
              clear ho
              replace hf := hf.keep K
              replace hb := hb.keep K
              replace hg := hg.keep K
              replace hc := hc.keep K
              replace h5 := h5.keep K
              replace KK := KK.trans K
              clear K
              go_wp2_with fail
              refine (hm.out _ _ _ _ _ _ _ h5 h6).mono ?_
              rintro e W23 ⟨rfl, rfl⟩
              go_wp2_with fail
              refine (hm2.out _ _ _ _ _ _ _ hg hc).mono ?_
              rintro e W24 ⟨rfl, rfl⟩
              go_wp2_with fail
              refine (cloneS_any _ _ _ (sl f) _ hf (sl_oneCell _) (by omega)).mono ?_
              rintro e W25 ⟨v, rfl, ho, K⟩
              obtain ⟨a_h7, c_h7, rfl, h7⟩ := own_rd ho
              clear ho
              replace hf := hf.keep K
              replace hb := hb.keep K
              replace hg := hg.keep K
              replace hc := hc.keep K
              replace h5 := h5.keep K
              replace h6 := h6.keep K
              replace KK := KK.trans K
              clear K
              go_wp2_with fail
              refine (cloneS_any _ _ _ (sl b) _ hb (sl_oneCell _) (by omega)).mono ?_
              rintro e W26 ⟨v, rfl, ho, K⟩
              obtain ⟨a_h8, c_h8, rfl, h8⟩ := own_rd ho
              clear ho
              replace hf := hf.keep K
              replace hb := hb.keep K
              replace hg := hg.keep K
              replace hc := hc.keep K
              replace h5 := h5.keep K
              replace h6 := h6.keep K
              replace h7 := h7.keep K
              replace KK := KK.trans K
              clear K
              go_wp2_with fail
              refine (hd.out _ _ _ _ _ _ _ h7 h8).mono ?_
              rintro e W27 ⟨rfl, rfl⟩
              go_wp2_with fail
              refine (hd2.out _ _ _ _ _ _ _ hg hc).mono ?_
              rintro e W28 ⟨rfl, rfl⟩
              go_wp2_with fail
              go_ret
              exact ⟨rfl, KK⟩
end Go.Proofs.Ytnkknjpnkobplaa
