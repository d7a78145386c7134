/- Texts joined into one (wip/bin/pack.py): Acc8, R27e, MadeM, SlG, TolG. -/
import Derived.Test.YtnlohknlchgfgaaGreatKB
import Derived.Test.YtnlohknlchgfgaaGreatKD
import Derived.Lib.QuietBelow
import Derived.Test.YtnlohknlchgfgaaGreatKT
import Derived.Test.YtnlohknlchgfgaaGreatKU
import Derived.Test.YtnlohknlchgfgaaGreatKLaw29a
import Derived.Test.YtnlohknlchgfgaaGreatKZb
import Derived.Test.YtnlohknlchgfgaaGreatKF
import Derived.Test.YtnlohknlchgfgaaGreatKYd
/- ref08.Accepts. -/
namespace Go.Proofs.YtnlohknlchgfgaaGreat
open Go.RowKit Go.Lib
theorem rAcc8_any (a : Option Addr) (n c : Nat) (l : List S) (s : S) (w : World) (h : Rd w a n c 1 (sl l)) :
    Calls Tryz.prog 16 #[.slice a n c, .int .u16 (sv s)] w fun e w' => e = .returned (.bool (accS l s)) ∧ w = w' := by
  have L := Lib.hid h.lenS
  have s1 := h.small
  have HC := Lib.hid (fun x W => refContains_any s x W)
  go_enter Tryz.func16, Tryz.ntmps16
  go_wp2
  go_loopw [5] (fun v wr => ∃ (k : Nat), k ≤ n ∧ v = .int .i64 k ∧ w = wr ∧ Hid (accS l s = accS (l.drop k) s)) (fun v _ => n - (RowKit.intOf v).toNat)
  case atStart => exact ⟨0, Nat.zero_le _, rfl, rfl, rfl⟩
  case round =>
    obtain ⟨k, hk, rfl, rfl, HI⟩ := hrel
    by_cases hlt : k < n
    · have hc := h.at hlt
      have hs := h.isSome (by omega)
      have hst := HI.out
      rw [dropH L hlt, accS_cons] at hst
      have hcon := HC.out (at_ l k) w
      cases hq : (at_ l k &&& ~~~s == 0#16) with
      | true =>
        rw [hq] at hcon
        have HJ : Hid (accS l s = true) := by show _ = _; rw [hst, hq]; rfl
        have HX := Lib.hid hcon
        clear hst HI hq hcon
        go_wp2_with (go_at_call 44; refine HX.out.mono ?_; rintro e w2 ⟨rfl, rfl⟩)
        go_ret
        rw [HJ.out]
        exact ⟨rfl, rfl⟩
      | false =>
        rw [hq] at hcon
        have HJ : Hid (accS l s = accS (l.drop (k + 1)) s) := by show _ = _; rw [hst, hq]; rfl
        have HX := Lib.hid hcon
        clear hst HI hq hcon
        go_wp2_with (go_at_call 44; refine HX.out.mono ?_; rintro e w2 ⟨rfl, rfl⟩)
        go_roundw
        case rel => exact ⟨k + 1, by omega, rfl, trivial, HJ⟩
        case measure => simp [RowKit.intOf]; omega
    · have HJ : Hid (accS l s = false) := by show _ = _; rw [HI.out, dropN L hlt]; rfl
      clear HI
      go_wp2
      go_ret
      rw [HJ.out]
      exact ⟨rfl, rfl⟩
end Go.Proofs.YtnlohknlchgfgaaGreat
/- The reference's In, Avoids, Tolerates. -/
namespace Go.Proofs.YtnlohknlchgfgaaGreat
open Go.RowKit Go.Lib Go.Shelf

set_option maxRecDepth 20000 in
theorem rAvo_any (a : Option Addr) (n c : Nat) (l : List S) (s : S) (w : World) (h : Rd w a n c 1 (sl l)) :
    Calls Tryz.prog 157 #[.slice a n c, .int .u16 (sv s)] w fun e w' => e = .returned (.bool (avo l s)) ∧ w = w' := by
  have L := h.lenS
  subst L
  have sm := h.small
  have hres : (avo l s) = l.any fun x => x &&& s == 0#16 := rfl
  have HRES := Lib.hid hres
  clear hres
  generalize (avo l s) = res at *
  go_enter Tryz.func157, Tryz.ntmps157
  go_wp2_with fail
  go_loop [5] (fun v => ∃ i : Nat, i ≤ l.length ∧ v = .int .i64 i ∧ Hid (res = (l.drop i).any fun x => x &&& s == 0#16)) (fun v => l.length - (RowKit.intOf v).toNat)
  case atStart => exact ⟨0, Nat.zero_le _, rfl, HRES.out⟩
  case round =>
    obtain ⟨i, hi, rfl, HI⟩ := hrel
    by_cases hlt : i < l.length
    · have g0 := h.at hlt
      have hs := h.isSome (by omega)
      have hst := HI.out
      rw [drop_at l i hlt, List.any_cons] at hst
      generalize at_ l i = x at *
      cases hq : (x &&& s == 0#16)
      all_goals
        rw [hq] at hst
        simp only [Bool.false_or, Bool.true_or] at hst
        have HS := Lib.hid hst
        clear hst HI
        go_wp2_with fail
      · go_round
        case rel => exact ⟨i + 1, by omega, by go_num, HS⟩
        case measure => simp [RowKit.intOf]; omega
      · go_ret
        rw [HS.out]
        exact ⟨rfl, rfl⟩
    · have hst := HI.out
      rw [List.drop_eq_nil_of_le (by omega), List.any_nil] at hst
      have HS := Lib.hid hst
      clear hst HI
      go_wp2_with fail
      go_ret
      rw [HS.out]
      exact ⟨rfl, rfl⟩

set_option maxRecDepth 20000 in
set_option maxHeartbeats 2000000 in
theorem rTol27_any {nm : ByteArray} [NmOk nm] (kd : Int) (z M : S) {ar : Option Addr} {cr : Nat} {R : List S} {aw : Option Addr} {cw : Nat} {Q : List S} {af : Option Addr} {cf : Nat} {F : List F2} (w : World) (h : RdC w ar cr R aw cw Q af cf F) (hn : F.length ≤ 1000000) :
    Calls Tryz.prog 48 #[.agg #[.string nm, .int .i64 kd, .int .u16 (sv M), .slice ar R.length cr, .slice aw Q.length cw, .slice af F.length cf], .int .u16 (sv z)] w fun e w' => e = .returned (.bool (tolS27 kd M R Q F z)) ∧ Keeps w w' := by
  have K0 := (Keeps.refl w).alloc (.cells #[.string nm, .int .i64 kd, .int .u16 (sv M), .slice ar R.length cr, .slice aw Q.length cw, .slice af F.length cf] 32)
  have hb := BoxC.new w 32 nm kd M ar R.length cr aw Q.length cw af F.length cf
  obtain ⟨W1, hW1⟩ : ∃ W0, W0 = w.alloc (.cells #[.string nm, .int .i64 kd, .int .u16 (sv M), .slice ar R.length cr, .slice aw Q.length cw, .slice af F.length cf] 32) := ⟨_, rfl⟩
  rw [← hW1] at hb K0
  have h1 := fun W (k : Keeps w W) => rcValid_any (nm := nm) kd M W (h.keep k)
  have h2 := fun W (k : Keeps w W) => rByz27_any nm kd M (ar := ar) (cr := cr) (R := R) (aw := aw) (cw := cw) (Q := Q) (af := af) (cf := cf) (F := F) af F.length cf F W ((h.keep k).f) hn
  unfold tolS27
  obtain ⟨q, hq⟩ : ∃ q, q = (byz27 kd M F).any fun b => z &&& M &&& ~~~b == 0#16 := ⟨_, rfl⟩
  rw [← hq]
  have HQ := Lib.hid hq
  clear hq
  generalize cvS kd M R Q F = er at *
  generalize byz27 kd M F = byz at *
  generalize R.length = nr at *
  generalize Q.length = nq at *
  generalize F.length = nf at *
  have H1 := Lib.hid h1; have H2 := Lib.hid h2
  obtain ⟨c0, c1, c2, c3, c4, c5⟩ := hb.conj
  have HBX := Lib.hid (fun (W : World) (K : Keeps W1 W) => (hb.keep K).c2)
  clear h1 h2 h hb
  have hcs : er = 0 ∨ er ≠ 0 ∧ (er != 0) = true ∧ (er == 0) = false := by
    by_cases hz : er = 0
    · exact .inl hz
    · exact .inr ⟨hz, by simpa using hz, by simpa using hz⟩
  rcases hcs with rfl | ⟨_, hb1, hb2⟩
  · rw [beq_self_eq_true, Bool.true_and]
    go_enter Tryz.func48, Tryz.ntmps48
    go_wp2_with fail
    rw [← hW1]
    clear hW1
    refine (H1.out _ K0).mono ?_
    rintro e w3 ⟨rfl, K1⟩
    replace c0 := K1.cell c0; replace c1 := K1.cell c1; replace c2 := K1.cell c2; replace c3 := K1.cell c3; replace c4 := K1.cell c4; replace c5 := K1.cell c5
    have J1 := K1
    replace K1 := K0.trans K1
    go_wp2_with fail
    clear c0 c1 c2 c3 c4 c5
    refine (H2.out _ K1).mono ?_
    rintro e w4 ⟨v4, rfl, hO⟩
    obtain ⟨a4, cc4, rfl, hR⟩ := hO.rd
    have J2 := J1.trans hO.2
    have K2 := K1.trans hO.2
    have sz := hR.small
    have HR := Lib.hid hR
    clear hO hR H1 H2 J1 K1 K0
    go_wp2_with fail
    go_loopw [6] (fun v wr => ∃ i : Nat, i ≤ byz.length ∧ v = .int .i64 i ∧ Keeps w4 wr ∧ Hid (q = (byz.drop i).any fun b => z &&& M &&& ~~~b == 0#16)) (fun v _ => byz.length - (RowKit.intOf v).toNat)
    case atStart => exact ⟨0, Nat.zero_le _, rfl, Keeps.refl _, HQ.out⟩
    case round =>
      obtain ⟨i, hi, rfl, K3, HI⟩ := hrel
      by_cases hlt : i < byz.length
      · have g0 := cell_regrown ((HR.out.keep K3).at hlt)
        have hs := HR.out.isSome (by omega)
        have c2 := cell_regrown (HBX.out _ (J2.trans K3))
        have hst := HI.out
        rw [drop_at byz i hlt, List.any_cons] at hst
        generalize at_ byz i = b at *
        have hc := fun d os => Calls.regrown_of ((within7_any (z &&& M) b (Sort.grow (redrawn wr d) os)).mono fun e w' ⟨he, hw⟩ => ⟨he, hw ▸ Keeps.refl _⟩)
        cases hq : (z &&& M &&& ~~~b == 0#16)
        all_goals
          rw [hq] at hst hc
          simp only [Bool.false_or, Bool.true_or] at hst
          have HS := Lib.hid hst; have HC := Lib.hid hc
          clear hst HI hc hq
          go_wp2_with fail
          refine wp_region_quiet_below (by kernel_rfl) (by kernel_rfl) ?_
          repeat (first | go_big_quiet_step (exact HC.out _ _) | quiet_step (exact HC.out _ _))
          refine wpQuiet_nil ?_
          intro _ hw'
          obtain ⟨⟨dq, osq⟩, hw''⟩ := hw'
          subst hw''
          have KF := K3.trans (grow_keeps dq osq)
          clear g0 c2
          generalize Sort.grow (redrawn wr dq) osq = wz at *
          go_wp2_with fail
        · go_roundw
          case rel => exact ⟨i + 1, by omega, by go_num, KF, HS⟩
          case measure => simp [RowKit.intOf]; omega
        · go_ret
          rw [HS.out]
          exact ⟨rfl, K2.trans KF⟩
      · have hst := HI.out
        rw [List.drop_eq_nil_of_le (by omega), List.any_nil] at hst
        have HS := Lib.hid hst
        clear hst HI
        go_wp2_with fail
        go_ret
        rw [HS.out]
        exact ⟨rfl, K2.trans K3⟩
  · rw [hb2, Bool.false_and]
    go_enter Tryz.func48, Tryz.ntmps48
    go_wp2_with fail
    rw [← hW1]
    clear hW1
    refine (H1.out _ K0).mono ?_
    rintro e w3 ⟨rfl, K1⟩
    go_wp2_with fail
    go_ret
    exact ⟨rfl, K0.trans K1⟩
end Go.Proofs.YtnlohknlchgfgaaGreat
/- The configurations that the reference makes (layers 27, 29) are valid (plain laws). -/
namespace Go.Proofs.YtnlohknlchgfgaaGreat
open Go.RowKit Go.Lib Go.Shelf

/-- a family of quorums of few servers -/
structure Few5 (n : Nat) (R : List S) : Prop where
  asc : Asc R
  anti : Anti R
  within : ∀ x ∈ R, sub x (fullS n) = true
  ne : ∀ x ∈ R, x ≠ 0#16
  pos : R ≠ []
  len : R.length ≤ 32
theorem mem_chTo (s : S) (k : Nat) (x : S) : ∀ N, N ≤ 65536 → (x ∈ chTo s k N ↔ x.toNat < N ∧ sub x s = true ∧ cnt x = k)
  | 0, _ => by simp [chTo]
  | N + 1, h => by
    unfold chTo
    rw [List.mem_append, mem_chTo s k x N (by omega)]
    have hN : (BitVec.ofNat 16 N).toNat = N := by rw [BitVec.toNat_ofNat]; exact Nat.mod_eq_of_lt (by omega)
    constructor
    · rintro (h1 | h1)
      · exact ⟨by omega, h1.2⟩
      · split at h1
        · rename_i hc
          rw [List.mem_singleton] at h1
          rw [Bool.and_eq_true, decide_eq_true_eq] at hc
          subst h1
          exact ⟨by omega, hc.1, hc.2⟩
        · simp at h1
    · rintro ⟨h1, h2, h3⟩
      by_cases he : x.toNat = N
      · right
        have hx : x = BitVec.ofNat 16 N := BitVec.eq_of_toNat_eq (by rw [hN, he])
        rw [← hx, if_pos (by rw [Bool.and_eq_true, decide_eq_true_eq]; exact ⟨h2, h3⟩)]
        simp
      · exact .inl ⟨by omega, h2, h3⟩
theorem chTo_asc (s : S) (k : Nat) : ∀ N, N ≤ 65536 → Asc (chTo s k N)
  | 0, _ => List.Pairwise.nil
  | N + 1, h => by
    unfold chTo Asc
    rw [List.pairwise_append]
    refine ⟨chTo_asc s k N (by omega), ?_, fun x hx y hy => ?_⟩
    · split
      · exact List.pairwise_singleton ..
      · exact List.Pairwise.nil
    · split at hy
      · rename_i hc
        rw [List.mem_singleton] at hy
        rw [Bool.and_eq_true, decide_eq_true_eq] at hc
        subst hy
        have hm := (mem_chTo s k x N (by omega)).1 hx
        have hN : (BitVec.ofNat 16 N).toNat = N := by rw [BitVec.toNat_ofNat]; exact Nat.mod_eq_of_lt (by omega)
        rw [ltS_iff]
        right
        refine ⟨by rw [hm.2.2, hc.2], ?_⟩
        unfold sv
        omega
      · simp at hy
theorem full_cnt : ∀ n : Fin 6, ∀ k : Fin 6, k.val ≤ n.val → sub (fullS k.val) (fullS n.val) = true ∧ cnt (fullS k.val) = k.val := by decide +kernel
theorem choose_few {n k : Nat} (hn : n ≤ 5) (h1 : 1 ≤ k) (hk : k ≤ n) : Few5 n (chooseA (fullS n) k) := by
  have hm : ∀ x, x ∈ chooseA (fullS n) k ↔ sub x (fullS n) = true ∧ cnt x = k := fun x => by
    rw [← chooseA_eq (fullS n) k _ rfl, mem_chTo _ _ _ _ (Nat.le_refl _)]
    exact ⟨fun h => h.2, fun h => ⟨x.isLt, h⟩⟩
  refine ⟨?_, fun x hx y hy h => ?_, fun x hx => ((hm x).1 hx).1, fun x hx e => ?_, ?_, chooseA_len (full32 ⟨n, by omega⟩) k⟩
  · rw [← chooseA_eq (fullS n) k _ rfl]; exact chTo_asc _ _ _ (Nat.le_refl _)
  · by_cases e : x = y
    · exact e
    · have := cnt_lt h e
      have h3 := ((hm x).1 hx).2; have h4 := ((hm y).1 hy).2
      omega
  · have := ((hm x).1 hx).2
    rw [e] at this
    have h0 : cnt (0#16) = 0 := by decide
    omega
  · have hf := full_cnt ⟨n, by omega⟩ ⟨k, by omega⟩ hk
    exact List.ne_nil_of_mem ((hm (fullS k)).2 hf)
theorem or_few {n : Nat} (h1 : 1 ≤ n) (hn : n ≤ 5) (l : List S) : Few5 n (refLeast (orAll (fullS n) (cutN (fullS n) (l.take 6)))) := by
  have hfn : fullS n ≠ 0#16 := by
    have : ∀ i : Fin 6, 1 ≤ i.val → fullS i.val ≠ 0#16 := by decide
    exact this ⟨n, by omega⟩ h1
  have hall : ∀ x ∈ orAll (fullS n) (cutN (fullS n) (l.take 6)), sub x (fullS n) = true ∧ x ≠ 0#16 := fun x hx => by
    unfold orAll at hx
    split at hx
    · rw [List.mem_singleton] at hx; subst hx; exact ⟨sub_refl _, hfn⟩
    · unfold cutN at hx
      obtain ⟨h2, h3⟩ := List.mem_filter.1 hx
      obtain ⟨y, _, rfl⟩ := List.mem_map.1 h2
      refine ⟨(sub_iff _ _).2 fun i hi hb => ?_, by simpa using h3⟩
      rw [BitVec.getLsbD_and, Bool.and_eq_true] at hb
      exact hb.2
  have hpos : ∃ x, x ∈ orAll (fullS n) (cutN (fullS n) (l.take 6)) := by
    unfold orAll
    split
    · exact ⟨_, List.mem_singleton.2 rfl⟩
    · rename_i h
      exact List.exists_mem_of_ne_nil _ (by
        intro e
        rw [e] at h
        exact h rfl)
  rw [← least_same]
  refine ⟨jl_asc _, jl_anti _, fun x hx => (hall x ((jl_mem _ _).1 hx).1).1, fun x hx => (hall x ((jl_mem _ _).1 hx).1).2, ?_, ?_⟩
  · obtain ⟨x, hx⟩ := hpos
    obtain ⟨y, hy, _⟩ := jl_below hx
    exact List.ne_nil_of_mem hy
  · rw [least_same]
    have := setsR_len 0 l n hn
    unfold setsR at this
    rw [if_neg (by decide)] at this
    exact this
theorem kOf_in (l : List S) {n : Nat} (h : 1 ≤ n) : 1 ≤ kOf l n ∧ kOf l n ≤ n := by
  unfold kOf
  split <;> first | omega | (have := Nat.mod_lt (at_ l 0).toNat h; omega)
theorem sets_few (md : Int) (l : List S) {n : Nat} (h1 : 1 ≤ n) (hn : n ≤ 5) : Few5 n (setsR md l n) := by
  unfold setsR
  split
  · exact choose_few hn (kOf_in l h1).1 (kOf_in l h1).2
  · exact or_few h1 hn l
/-! ### shifted by up to three servers -/
theorem shl_facts : ∀ k : Fin 4, ∀ i : Fin 32, cnt (BitVec.ofNat 16 i.val <<< k.val) = cnt (BitVec.ofNat 16 i.val) ∧ (BitVec.ofNat 16 i.val <<< k.val).toNat = i.val * 2 ^ k.val ∧ (BitVec.ofNat 16 i.val <<< k.val = 0#16 → i.val = 0) := by decide +kernel
theorem shl_sub : ∀ k : Fin 4, ∀ i j : Fin 32, sub (BitVec.ofNat 16 i.val <<< k.val) (BitVec.ofNat 16 j.val <<< k.val) = sub (BitVec.ofNat 16 i.val) (BitVec.ofNat 16 j.val) := by decide +kernel
theorem shl_full : ∀ k : Fin 4, ∀ n : Fin 6, (fullS n.val <<< k.val).toNat < 4096 ∧ (1 ≤ n.val → fullS n.val <<< k.val ≠ 0#16) := by decide +kernel
theorem lt32 {n : Nat} (hn : n ≤ 5) {x : S} (h : sub x (fullS n) = true) : x.toNat < 32 := Nat.lt_of_le_of_lt (sub_le h) (full32 ⟨n, by omega⟩)
theorem as32 {x : S} (h : x.toNat < 32) : x = BitVec.ofNat 16 (⟨x.toNat, h⟩ : Fin 32).val := by rw [BitVec.ofNat_toNat, BitVec.setWidth_eq]
theorem few_cf {n k : Nat} (hn : n ≤ 5) (hk : k ≤ 3) {R : List S} (h : Few5 n R) : cfS (mvL k R) (fullS n <<< k) = 0 := by
  have h32 : ∀ x ∈ R, x.toNat < 32 := fun x hx => lt32 hn (h.within x hx)
  have hf32 := full32 ⟨n, by omega⟩
  have hsub : ∀ x y : S, x.toNat < 32 → y.toNat < 32 → sub (x <<< k) (y <<< k) = sub x y := fun x y hx hy => by
    have := shl_sub ⟨k, by omega⟩ ⟨x.toNat, hx⟩ ⟨y.toNat, hy⟩
    rw [← as32 hx, ← as32 hy] at this; exact this
  have hfac : ∀ x : S, x.toNat < 32 → cnt (x <<< k) = cnt x ∧ (x <<< k).toNat = x.toNat * 2 ^ k ∧ (x <<< k = 0#16 → x.toNat = 0) := fun x hx => by
    have := shl_facts ⟨k, by omega⟩ ⟨x.toNat, hx⟩
    rw [← as32 hx] at this; exact this
  have hp : 0 < 2 ^ k := Nat.pos_of_ne_zero (by have := Nat.two_pow_pos k; omega)
  have hM := (shl_full ⟨k, by omega⟩ ⟨n, by omega⟩).1
  have hsM : ∀ x ∈ mvL k R, sub x (fullS n <<< k) = true := fun x hx => by
    obtain ⟨y, hy, rfl⟩ := List.mem_map.1 hx
    rw [hsub y (fullS n) (h32 y hy) hf32]; exact h.within y hy
  have hne : ∀ x ∈ mvL k R, x ≠ 0#16 := fun x hx e => by
    obtain ⟨y, hy, rfl⟩ := List.mem_map.1 hx
    have := (hfac y (h32 y hy)).2.2 e
    exact h.ne y hy (BitVec.eq_of_toNat_eq (by rw [this]; rfl))
  have hl : (mvL k R).length = R.length := List.length_map ..
  have hF : Fam (mvL k R) := by
    refine ⟨by rw [hl]; have := h.len; omega, fun x hx => small_of_sub (hsM x hx) hM, ?_, fun x hx y hy hs => ?_⟩
    · unfold Asc mvL
      rw [List.pairwise_map]
      refine List.Pairwise.imp_of_mem (fun {x y} hx hy hxy => ?_) h.asc
      rw [ltS_iff] at hxy ⊢
      obtain ⟨a1, a2, _⟩ := hfac x (h32 x hx)
      obtain ⟨b1, b2, _⟩ := hfac y (h32 y hy)
      rw [a1, b1]
      rcases hxy with g | ⟨g1, g2⟩
      · exact .inl g
      · right
        refine ⟨g1, ?_⟩
        unfold sv at g2 ⊢
        rw [a2, b2]
        have : x.toNat < y.toNat := by omega
        have := (Nat.mul_lt_mul_right hp).2 this
        omega
    · obtain ⟨x', hx', rfl⟩ := List.mem_map.1 hx
      obtain ⟨y', hy', rfl⟩ := List.mem_map.1 hy
      rw [hsub _ _ (h32 x' hx') (h32 y' hy')] at hs
      rw [h.anti x' hx' y' hy' hs]
  have h0 : 0 < (mvL k R).length := by rw [hl]; exact List.length_pos_iff.2 h.pos
  unfold cfS
  rw [if_neg (by simp [(valid_iff _).2 hF]), if_neg ?_, if_neg ?_]
  · have : supS (mvL k R) &&& ~~~(fullS n <<< k) = 0#16 := by
      apply BitVec.eq_of_getLsbD_eq
      intro i hi
      rw [BitVec.getLsbD_and, BitVec.getLsbD_not]
      cases hb : (supS (mvL k R)).getLsbD i with
      | false => simp
      | true =>
        obtain ⟨x, hx, hxb⟩ := (supS_bit _ i).1 hb
        rw [(sub_iff _ _).1 (hsM x hx) i hi hxb]; simp
    simp [this]
  · rintro (h1 | h1)
    · omega
    · exact hne _ (by unfold at_; simp [List.getD, h0]) h1
theorem mvF_chk (k : Nat) (x : F2) (h : x.1 &&& x.2 = 0#16) : chkF (mvF k x) = 0 := by
  unfold mvF
  refine chk_of ?_ ?_
  · unfold facF
    dsimp only
    apply BitVec.eq_of_getLsbD_eq
    intro i hi
    have h2 : ∀ j : Fin 16, (4095#16).getLsbD j.val = true → (61440#16).getLsbD j.val = false := by decide
    have := h2 ⟨i, hi⟩
    simp only [BitVec.getLsbD_and, BitVec.getLsbD_or, BitVec.getLsbD_zero]
    cases hb : (4095#16).getLsbD i with
    | false => simp
    | true => rw [this hb]; simp
  · dsimp only
    apply BitVec.eq_of_getLsbD_eq
    intro i hi
    simp only [BitVec.getLsbD_and, BitVec.getLsbD_shiftLeft, BitVec.getLsbD_zero]
    have e := congrArg (fun z : S => z.getLsbD (i - k)) h
    simp only [BitVec.getLsbD_and, BitVec.getLsbD_zero] at e
    cases g1 : x.1.getLsbD (i - k) <;> cases g2 : x.2.getLsbD (i - k) <;> simp_all
theorem madeF_pos (n : Nat) (h : n ≤ 12) (l : List F2) : fvS (madeF n l) = 0 := fv_made n h l
theorem made_flt {n k : Nat} (hn : n ≤ 12) (l : List F2) : fvS (normF ((madeF n l).map (mvF k))) = 0 := by
  have hv := fv_made n hn l
  have hl := madeF_le n l
  refine fv_norm ?_ ?_ fun x hx => ?_
  · rw [List.length_map]; exact fv_pos hv
  · rw [List.length_map]; omega
  · obtain ⟨y, hy, rfl⟩ := List.mem_map.1 hx
    exact mvF_chk k y (chk_zero (fv_chk hv y hy)).2
theorem made_valid {nm : ByteArray} (hnm : nmB nm = true) (kd N md : Int) (lr lw : List S) (lf : List F2) (mv : Int) : cvf (made29 nm kd N md lr lw lf mv) = 0 := by
  have hn1 : 1 ≤ nOf N := by unfold nOf; omega
  have hn := nOf_le N
  have hk3 : moveK mv ≤ 3 := by unfold moveK; omega
  have hR := few_cf hn hk3 (sets_few md lr hn1 hn)
  have hQ := few_cf hn hk3 (sets_few md lw hn1 hn)
  have hF := made_flt (k := moveK mv) (show nOf N ≤ 12 by omega) lf
  obtain ⟨hM1, hM2⟩ := shl_full ⟨moveK mv, by omega⟩ ⟨nOf N, by omega⟩
  have hM2 := hM2 hn1
  unfold cvf made29
  dsimp only at *
  rw [if_pos hnm]
  unfold cvS
  have h4 : sv (fullS (nOf N) <<< moveK mv) / 4096 = 0 := by unfold sv; omega
  rw [if_neg ?_, if_neg (by simp [h4]), if_neg (by simpa using hM2), if_neg (by simp [hR]), if_neg (by simp [hQ])]
  · exact hF
  · have : kdOf kd = 1 ∨ kdOf kd = 2 := by unfold kdOf; omega
    rcases this with e | e <;> rw [e] <;> decide
theorem mdC_valid {nm : ByteArray} (hnm : nmB nm = true) (d : D29) : cvf (mdC nm d) = 0 := made_valid hnm ..
end Go.Proofs.YtnlohknlchgfgaaGreat
/- slices.Clone, IndexFunc, ContainsFunc at configurations. -/
namespace Go.Proofs.YtnlohknlchgfgaaGreat
open Go.RowKit Go.Lib Go.Shelf

theorem eqNilG (w : World) (a : Option Addr) (n c n' c' : Nat) : (binOp .eql 45 (.slice a n c) (.slice none n' c')).run Tryz.prog w = .ok (.bool a.isNone) w := Lib.run_eql_slice_nil w _ _ a n c n' c' Tryz.underlying45
theorem dropEG {l : List CA} {n i : Nat} (L : Hid (l.length = n)) (h : i < n) : l.drop i = gA l i :: l.drop (i + 1) := drop_gA l i (by have := L.out; omega)
theorem dropEGN {l : List CA} {n i : Nat} (L : Hid (l.length = n)) (h : ¬ i < n) : l.drop i = [] := List.drop_eq_nil_iff.2 (by have := L.out; omega)
set_option maxHeartbeats 800000 in
theorem cloneG_any (a : Option Addr) (c : Nat) (l : List CA) (w : World) (h : Rd w a l.length c 6 (gl l)) (hb : l.length ≤ 1000000) :
    Calls Tryz.prog 18 #[.slice a l.length c] w fun e w' => ∃ v, e = .returned v ∧ Own 32 6 w w' v l.length (gl l) := by
  have q := eqNilG
  cases a with
  | none =>
    have hn : l.length = 0 := by
      rcases Nat.eq_zero_or_pos l.length with h0 | h0
      · exact h0
      · exact absurd (h.isSome h0) (by simp)
    have hl : l = [] := List.eq_nil_of_length_eq_zero hn
    subst hl
    clear hn h
    go_enter Tryz.func18, Tryz.ntmps18
    go_wp2_with fail
    go_ret
    exact ⟨_, rfl, Own.nil _ _ (Keeps.refl _)⟩
  | some ad =>
    have hO0 := Own.made (e := 32) (sz := 6) (Keeps.refl w) [] 0 (by decide) rfl
    have HO0 := Lib.hid hO0
    have HR := Lib.hid (h.keep ((Keeps.refl w).alloc (.cells #[] 32)))
    clear hO0 h
    go_enter Tryz.func18, Tryz.ntmps18
    go_wp2_with (at_builtin; refine wp_app ty_gl rfl _ _ rfl HO0.out rfl rfl HR.out (gl_cells l) (by omega) ?_)
    intro v' w1 hO1 hgr
    have HO1 := Lib.hid hO1
    clear hO1 hgr
    go_wp2_with fail
    go_ret
    have ho := HO1.out
    exact ⟨v', rfl, ho⟩
set_option maxHeartbeats 1600000 in
theorem indexFuncG_any (a : Option Addr) (n c : Nat) (l : List CA) (w : World) (g : Nat) (lb : Array Value) (p : CA → Bool) (h : Rd w a n c 6 (gl l))
    (eg : ∀ args w, (callFunc g args).run Tryz.prog w = .ok (.enter g args) w) (hp : PredK Tryz.prog g lb vg p l w) :
    Calls Tryz.prog 77 #[.slice a n c, .func (.func g) #[] lb] w fun e w' => e = .returned (.int .i64 (idxFrom p l 0)) ∧ Keeps w w' := by
  have s1 := h.small
  have l1 := gl_rdlen h
  have L1 := Lib.hid l1; clear l1
  have HP := Lib.hid hp; clear hp
  go_enter Tryz.func77, Tryz.ntmps77
  go_wp2
  go_loopw [8] (fun v wr => ∃ k : Nat, k ≤ n ∧ v = .int .i64 k ∧ Keeps w wr ∧ Hid (idxFrom p l 0 = idxFrom p (l.drop k) k)) (fun v _ => n - (RowKit.intOf v).toNat)
  case atStart => exact ⟨0, Nat.zero_le _, rfl, Keeps.refl _, rfl⟩
  case round =>
    obtain ⟨k, hk, rfl, K1, HI⟩ := hrel
    by_cases hlt : k < n
    · obtain ⟨g0, g1, g2, g3, g4, g5⟩ := gl_at (h.keep K1) hlt
      have ha := h.isSome (by omega)
      have hcall := HP.out wr (gA l k) (gA_mem (by have := L1.out; omega)) K1
      unfold vg at hcall
      have HC := Lib.hid hcall; clear hcall
      have hdr := dropEG L1 hlt
      have HDR := Lib.hid hdr; clear hdr
      generalize gA l k = x at *
      cases hq : p x with
      | true =>
        rw [hq] at HC
        have HQ := Lib.hid hq; clear hq
        go_wp2_with (go_at_fn g; refine (HC.out).mono ?_; rintro e w' ⟨rfl, K2⟩)
        go_ret
        exact ⟨by rw [HI.out, HDR.out, idxFrom, if_pos HQ.out]; rfl, K1.trans K2⟩
      | false =>
        rw [hq] at HC
        have HQ := Lib.hid hq; clear hq
        go_wp2_with (go_at_fn g; refine (HC.out).mono ?_; rintro e w' ⟨rfl, K2⟩)
        go_roundw
        case rel => exact ⟨k + 1, by omega, by go_num, K1.trans K2, hrfl <| by rw [HI.out, HDR.out, idxFrom, if_neg (by rw [HQ.out]; simp)]⟩
        case measure => simp [RowKit.intOf]; omega
    · go_wp2
      go_ret
      exact ⟨by rw [HI.out, dropEGN L1 hlt, idxFrom]; rfl, K1⟩
set_option maxHeartbeats 800000 in
theorem containsFuncG_any (a : Option Addr) (n c : Nat) (l : List CA) (w : World) (g : Nat) (lb : Array Value) (p : CA → Bool) (h : Rd w a n c 6 (gl l))
    (eg : ∀ args w, (callFunc g args).run Tryz.prog w = .ok (.enter g args) w) (hp : PredK Tryz.prog g lb vg p l w) :
    Calls Tryz.prog 45 #[.slice a n c, .func (.func g) #[] lb] w fun e w' => e = .returned (.bool (l.any p)) ∧ Keeps w w' := by
  have HX := Lib.hid (idxFrom_any p l 0)
  have hcon := indexFuncG_any a n c l w g lb p h eg hp
  generalize idxFrom p l 0 = r at hcon HX
  have HC := Lib.hid hcon; clear hcon eg hp h
  go_enter Tryz.func45, Tryz.ntmps45
  go_wp2_with (go_at_call 77; refine HC.out.mono ?_; rintro e w' ⟨rfl, K2⟩)
  go_ret
  exact ⟨by rw [← HX.out]; rfl, K2⟩
end Go.Proofs.YtnlohknlchgfgaaGreat
/- Tolerates at configurations that are valid; joint.Tolerates; the reference's. -/
namespace Go.Proofs.YtnlohknlchgfgaaGreat
open Go.RowKit Go.Lib Go.Shelf
def tolC (z : S) (x : CA) : Bool := tolS27 x.c.kd x.c.M x.c.R x.c.Q x.c.F z
theorem cvf_len {c : Cf} (h : cvf c = 0) : c.F.length ≤ 1000000 := by
  obtain ⟨_, h2, _⟩ := cv_parts (cvf_cv h).2
  first | (have := fv_len h2; omega) | (have := fv_len (cv_parts (cvf_cv h).2).2.2.2.2; omega)
theorem tolG_any (x : CA) (z : S) (w : World) (h : RdG w x) (hv : cvf x.c = 0) : Calls Tryz.prog 47 #[vg x, .int .u16 (sv z)] w fun e w' => e = .returned (.bool (tolC z x)) ∧ Keeps w w' := by
  haveI : NmOk x.c.nm := ⟨(cvf_cv hv).1⟩
  exact tol27_any x.c.kd z x.c.M w h (cvf_len hv)
theorem rtolG_any (x : CA) (z : S) (w : World) (h : RdG w x) (hv : cvf x.c = 0) : Calls Tryz.prog 48 #[vg x, .int .u16 (sv z)] w fun e w' => e = .returned (.bool (tolC z x)) ∧ Keeps w w' := by
  haveI : NmOk x.c.nm := ⟨(cvf_cv hv).1⟩
  exact rTol27_any x.c.kd z x.c.M w h (cvf_len hv)
def ValL (l : List CA) : Prop := ∀ x ∈ l, cvf x.c = 0
theorem tolPredJ (z : S) (B : Nat) (l : List CA) (w : World) (h0 : w.cell? ⟨B, 0, none⟩ = some (.int .u16 (sv z))) (hl : RdL w l) (hv : ValL l) :
    PredK Tryz.prog 46 #[.pointer (some ⟨B, 0, none⟩)] vg (fun x => !tolC z x) l w := fun W x hx hk => by
  have K0 := (Keeps.refl W).alloc (.cells #[.string x.c.nm, .int .i64 x.c.kd, .int .u16 (sv x.c.M), .slice x.ar x.c.R.length x.cr, .slice x.aw x.c.Q.length x.cw, .slice x.af x.c.F.length x.cf] 32)
  have hc := fun (W' : World) (k : Keeps W W') => tolG_any x z W' (((hl x hx).keep hk).keep k) (hv x hx)
  have HC := Lib.hid hc
  have e2 := K0.cell (hk.cell h0)
  clear hc h0 hk hx hl hv
  show Calls Tryz.prog 46 #[vg x, .pointer (some ⟨B, 0, none⟩)] W fun e w' => e = .returned (.bool (!tolC z x)) ∧ Keeps W w'
  unfold vg at *
  generalize tolC z x = q at *
  go_enter Tryz.func46, Tryz.ntmps46
  go_wp2_with fail
  refine (HC.out _ K0).mono ?_; rintro e w' ⟨rfl, K2⟩
  go_wp2_with fail
  go_ret
  exact ⟨rfl, K0.trans K2⟩
theorem jtol_any (a : Option Addr) (n c : Nat) (l : List CA) (z : S) (w : World) (h : Rd w a n c 6 (gl l)) (hl : RdL w l) (hv : ValL l) :
    Calls Tryz.prog 17 #[.slice a n c, .int .u16 (sv z)] w fun e w' => e = .returned (.bool (l.all (tolC z))) ∧ Keeps w w' := by
  have k2 := (Keeps.refl w).alloc (.cells #[.int .u16 (sv z)] 29)
  have hx : (w.alloc (.cells #[.int .u16 (sv z)] 29)).cell? ⟨w.heap.size, 0, none⟩ = some (.int .u16 (sv z)) := by rw [World.cell?_alloc_at _ _ _ _ rfl]; rfl
  have hc := containsFuncG_any a n c l (w.alloc (.cells #[.int .u16 (sv z)] 29)) 46 #[.pointer (some ⟨w.heap.size, 0, none⟩)] (fun x => !tolC z x) (h.keep k2) (enters_of Tryz.func46 (by kernel_rfl) rfl) (tolPredJ z w.heap.size l _ hx (hl.keep k2) hv)
  have hq : l.all (tolC z) = !(l.any fun x => !tolC z x) := by
    rw [List.not_any_eq_all_not]; simp
  rw [hq]
  clear hq
  have HC := Lib.hid hc
  clear hc hx h
  generalize (l.any fun x => !tolC z x) = q at *
  go_enter Tryz.func17, Tryz.ntmps17
  go_wp2_with (go_at_call 45; refine HC.out.mono ?_; rintro e w' ⟨rfl, K2⟩)
  go_ret
  exact ⟨rfl, k2.trans K2⟩
theorem rjtol_any (a : Option Addr) (n c : Nat) (l : List CA) (z : S) (w : World) (h : Rd w a n c 6 (gl l)) (hl : RdL w l) (hv : ValL l) :
    Calls Tryz.prog 19 #[.slice a n c, .int .u16 (sv z)] w fun e w' => e = .returned (.bool (l.all (tolC z))) ∧ Keeps w w' := by
  have s1 := h.small
  have l1 := gl_rdlen h
  have L1 := Lib.hid l1; clear l1
  go_enter Tryz.func19, Tryz.ntmps19
  go_wp2
  go_loopw [5] (fun v wr => ∃ k : Nat, k ≤ n ∧ v = .int .i64 k ∧ Keeps w wr ∧ Hid (l.all (tolC z) = (l.drop k).all (tolC z))) (fun v _ => n - (RowKit.intOf v).toNat)
  case atStart => exact ⟨0, Nat.zero_le _, rfl, Keeps.refl _, rfl⟩
  case round =>
    obtain ⟨k, hk, rfl, K1, HI⟩ := hrel
    by_cases hlt : k < n
    · obtain ⟨g0, g1, g2, g3, g4, g5⟩ := gl_at (h.keep K1) hlt
      have ha := h.isSome (by omega)
      have hmem := gA_mem (l := l) (i := k) (by have := L1.out; omega)
      have hcall := rtolG_any (gA l k) z wr ((hl _ hmem).keep K1) (hv _ hmem)
      unfold vg at hcall
      have HC := Lib.hid hcall; clear hcall hmem
      have hdr := dropEG L1 hlt
      have HDR := Lib.hid hdr; clear hdr
      generalize gA l k = x at *
      cases hq : tolC z x with
      | true =>
        rw [hq] at HC
        have HQ := Lib.hid hq; clear hq
        go_wp2_with (go_at_call 48; refine (HC.out).mono ?_; rintro e w' ⟨rfl, K2⟩)
        go_roundw
        case rel => exact ⟨k + 1, by omega, by go_num, K1.trans K2, hrfl <| by rw [HI.out, HDR.out, List.all_cons, HQ.out, Bool.true_and]⟩
        case measure => simp [RowKit.intOf]; omega
      | false =>
        rw [hq] at HC
        have HQ := Lib.hid hq; clear hq
        go_wp2_with (go_at_call 48; refine (HC.out).mono ?_; rintro e w' ⟨rfl, K2⟩)
        go_ret
        exact ⟨by rw [HI.out, HDR.out, List.all_cons, HQ.out, Bool.false_and]; rfl, K1.trans K2⟩
    · go_wp2
      go_ret
      exact ⟨by rw [HI.out, dropEGN L1 hlt]; rfl, K1⟩
end Go.Proofs.YtnlohknlchgfgaaGreat
