/- Texts joined into one, what is needed of them (a program of ours). -/
import Derived.Test.YtijknodekomdfaaGreatDoorBKK
import Derived.Test.YtijknodekomdfaaGreatDoorBKC
namespace Go.Proofs.YtijknodekomdfaaGreatDoor
open Go.RowKit Go.Lib Go.Shelf

theorem memL_small {s : S} (h : small s) : memL s = members s := by
  unfold memL members
  rw [show List.range 16 = List.range 12 ++ [12, 13, 14, 15] from rfl, List.filter_append]
  have h1 : ∀ i ∈ [12, 13, 14, 15], s.getLsbD i = false := fun i hi => by
    show s.toNat.testBit i = false
    apply Nat.testBit_lt_two_pow
    have h4 : s.toNat < 4096 := h
    have : 2 ^ 12 ≤ 2 ^ i := Nat.pow_le_pow_right (by decide) (by simp at hi; omega)
    omega
  have h2 : [12, 13, 14, 15].filter (fun i => s.getLsbD i) = [] := List.filter_eq_nil_iff.2 fun i hi => by rw [h1 i hi]; simp
  rw [h2, List.append_nil]
  rfl
theorem membersB_any (s : S) (w : World) (hT : Tab w) (hs : small s) : Calls Tryz.prog 151 #[.int .u16 (sv s)] w fun e w' => ∃ v, e = .returned v ∧ Own 3 1 w w' v (memL s).length (il (memL s)) := by
  rw [memL_small hs]
  have hz := fun w' (k : Keeps w w') x (hx : x ≠ 0#16) => tz_any x w' (hT.keep k) hx
  have HZ := Lib.hid hz; clear hz hT
  have HS := Lib.hid hs; clear hs
  go_enter Tryz.func151, Tryz.ntmps151
  go_wp2
  go_loopw [0, 3] (fun u v wr => ∃ (x : S) (acc : List Nat), u = .int .u16 (sv x) ∧ Hid (small x) ∧ Own 3 1 w wr v acc.length (il acc) ∧ Hid (members s = acc ++ members x)) (fun u _ _ => (RowKit.intOf u).toNat)
  case atStart => exact ⟨s, [], rfl, HS, Own.nil _ _ (Keeps.refl _), hrfl (by simp)⟩
  case round =>
    obtain ⟨x, acc, rfl, hx, hA, HI⟩ := hrel
    by_cases h0 : x = 0#16
    · have hb : (x != 0#16) = false := by simpa using h0
      have HI2 : Hid (members s = acc) := by have := HI.out; rw [h0, members_zero, List.append_nil] at this; exact this
      clear h0 HI
      go_wp2
      go_ret
      rw [HI2.out]
      exact ⟨_, rfl, hA⟩
    · have hb : (x != 0#16) = true := by simpa using h0
      obtain ⟨h1, h2⟩ := members_step hx.out h0
      have hl := members_len s
      rw [HI.out, h1] at hl
      simp only [List.length_append, List.length_cons] at hl
      have HN : Hid (acc.length + 1 ≤ 10000000) := by show acc.length + 1 ≤ 10000000; omega
      have HX : Hid (small (x &&& (x - 1#16))) := by have h4 : x.toNat < 4096 := hx.out; show _ < 4096; omega
      have HJ : Hid (members s = (acc ++ [tzS x]) ++ members (x &&& (x - 1#16))) := hrfl (by have := HI.out; rw [h1] at this; simpa using this)
      have H0 := Lib.hid h0
      have H2 : Hid ((sv (x &&& (x - 1#16))).toNat < (sv x).toNat) := by unfold sv; rw [Int.toNat_natCast, Int.toNat_natCast]; exact h2
      clear h0 h1 h2 hl HI
      go_wp2_with (first | (go_at_call 141; refine (HZ.out _ hA.2 _ H0.out).mono ?_; rintro e w' ⟨rfl, rfl⟩) | (at_builtin; refine wp_app tyI rfl _ _ rfl (hA.alloc _) rfl rfl (rd_new _ 1 _ [.int .i64 (tzS x)] 1 (by decide) rfl) (il_oneCell [tzS x]) HN.out ?_))
      intro v' w' hO hgr
      obtain ⟨a', c', rfl, hR⟩ := hO.rd
      have hN : acc.length + 1 = (acc ++ [tzS x]).length := by simp
      rw [← il_snoc, hN] at hO
      have HO := Lib.hid hO
      clear hN hO hgr hR
      go_wp2
      go_roundw
      case rel => exact ⟨_, _, rfl, HX, by simpa using HO.out, HJ⟩
      case measure => exact H2.out

def splP (n : Nat) (q p t : S) : Bool := !(t == 0#16 || !(q &&& p &&& ~~~t == 0#16)) && !((q &&& ~~~t == 0#16 || p &&& ~~~t == 0#16) && decide ((n : Int) - (cnt t : Int) < 2))
def splB (n : Nat) (q p : S) : List S → Option S
  | [] => none
  | t :: r => if splP n q p t = true then some t else splB n q p r
def splJ (n : Nat) (b : List S) (q : S) : List S → Option (S × S)
  | [] => none
  | p :: r => match splB n q p b with | some t => some (p, t) | none => splJ n b q r
def splI (n : Nat) (b : List S) : List S → Option (S × S × S)
  | [] => none
  | q :: r => match splJ n b q (q :: r) with | some (p, t) => some (q, p, t) | none => splI n b r
def splV : Option (S × S × S) → Value
  | some (q, p, t) => .tuple #[.int .u16 (sv q), .int .u16 (sv p), .int .u16 (sv t), .bool true]
  | none => .tuple #[.int .u16 0, .int .u16 0, .int .u16 0, .bool false]
set_option maxHeartbeats 2000000 in
theorem split39_any (a1 : Option Addr) (n1 c1 : Nat) (a2 : Option Addr) (n2 c2 : Nat) (f b : List S) (n : Nat) (hn : n ≤ 1000) (w : World) (h1 : Rd w a1 n1 c1 1 (sl f)) (h2 : Rd w a2 n2 c2 1 (sl b)) :
    Calls Tryz.prog 150 #[.slice a1 n1 c1, .slice a2 n2 c2, .int .i64 n] w fun e w' => e = .returned (splV (splI n b f)) ∧ Keeps w w' := by
  have s1 := h1.small; have s2 := h2.small; have l1 := h1.lenS; have l2 := h2.lenS; have nc := h1.nc
  have L1 := Lib.hid l1; have L2 := Lib.hid l2; clear l1 l2
  go_enter Tryz.func150, Tryz.ntmps150
  go_wp2
  go_loopw [18] (fun i wr => ∃ k : Nat, k ≤ n1 ∧ i = .int .i64 k ∧ Keeps w wr ∧ Hid (splI n b f = splI n b (f.drop k))) (fun i _ => n1 - (RowKit.intOf i).toNat)
  case atStart => exact ⟨0, Nat.zero_le _, rfl, Keeps.refl _, rfl⟩
  case round =>
    obtain ⟨i, hi, rfl, K1, HI⟩ := hrel
    by_cases hlt : i < n1
    · have hci := (h1.keep K1).at hlt
      have ha := h1.isSome (by omega)
      go_wp2
      clear hci
      obtain ⟨wo, rfl⟩ : ∃ wo : World, wo = wr := ⟨_, rfl⟩
      go_loopw [27] (fun v wr => ∃ k : Nat, k ≤ n1 - i ∧ v = .int .i64 k ∧ Keeps w wr ∧ Hid (splJ n b (at_ f i) (f.drop i) = splJ n b (at_ f i) (f.drop (i + k)))) (fun v _ => n1 - i - (RowKit.intOf v).toNat)
      case atStart => exact ⟨0, Nat.zero_le _, rfl, K1, rfl⟩
      case round =>
        obtain ⟨j, hj, rfl, K2, HJ⟩ := hrel
        by_cases hlj0 : j < n1 - i
        · have hcj := (h1.keep K2).at_sub hi hlj0
          have hb := (h1.drop (i := i) hi).isSome (by omega)
          have hlj : i + j < n1 := by omega
          go_wp2
          clear hcj
          obtain ⟨wo, rfl⟩ : ∃ wo : World, wo = wr := ⟨_, rfl⟩
          go_loopw [33] (fun v wr => ∃ k : Nat, k ≤ n2 ∧ v = .int .i64 k ∧ Keeps w wr ∧ Hid (splB n (at_ f i) (at_ f (i + j)) b = splB n (at_ f i) (at_ f (i + j)) (b.drop k))) (fun v _ => n2 - (RowKit.intOf v).toNat)
          case atStart => exact ⟨0, Nat.zero_le _, rfl, K2, rfl⟩
          case round =>
            obtain ⟨k, hk, rfl, K3, HK⟩ := hrel
            by_cases hlk : k < n2
            · have hck := (h2.keep K3).at hlk
              have hb2 := h2.isSome (by omega)
              have hcl := onesCount_any (at_ b k) wr
              have HC := Lib.hid hcl
              have hcn := cnt_le (at_ b k)
              clear hcl
              cases b0 : (at_ b k == 0#16) with
              | true =>
                have Hb0 := Lib.hid b0
                have HF := Lib.hid K3
                go_wp2_with fail
                go_roundw
                case rel => exact ⟨k + 1, by omega, by go_num, HF.out, hrfl <| by rw [HK.out, dropH L2 hlk, splB, if_neg (by simp only [splP, Hb0.out]; simp)]⟩
                case measure => simp [RowKit.intOf]; omega
              | false =>
                have Hb0 := Lib.hid b0
                cases b1 : (at_ f i &&& at_ f (i + j) &&& ~~~at_ b k == 0#16) with
                | true =>
                  have Hb1 := Lib.hid b1
                  have b1' : (at_ f i &&& at_ f (i + j) &&& ~~~at_ b k != 0#16) = false := by simpa using b1
                  clear b1
                  cases b2 : (at_ f i &&& ~~~at_ b k == 0#16) with
                  | true =>
                    have Hb2 := Lib.hid b2
                    cases b4 : (decide ((n : Int) - (cnt (at_ b k) : Int) < 2)) with
                    | true =>
                      have Hb4 := Lib.hid b4
                      replace b4 : (n : Int) - (cnt (at_ b k) : Int) < 2 := by simpa using b4
                      have HF := Lib.hid K3
                      go_wp2_with fail
                      refine (HC.out).mono ?_
                      rintro e w' ⟨rfl, nn, rfl⟩
                      go_wp2_with fail
                      go_roundw
                      case rel => exact ⟨k + 1, by omega, by go_num, HF.out.drewN _, hrfl <| by rw [HK.out, dropH L2 hlk, splB, if_neg (by simp only [splP, Hb0.out, Hb1.out, Hb2.out, Hb4.out]; simp)]⟩
                      case measure => simp [RowKit.intOf]; omega
                    | false =>
                      have Hb4 := Lib.hid b4
                      replace b4 : ¬ ((n : Int) - (cnt (at_ b k) : Int) < 2) := by simpa using b4
                      have HF := Lib.hid K3
                      go_wp2_with fail
                      refine (HC.out).mono ?_
                      rintro e w' ⟨rfl, nn, rfl⟩
                      go_wp2_with fail
                      (try simp only [Exit.inBlock, Exit.then]); refine bodyPost_ret (results_4 rfl _ _ _) rfl ⟨ret_eq ?_, HF.out.drewN _⟩
                      rw [HI.out, dropH L1 hlt, splI, ← dropH L1 hlt, HJ.out, dropH L1 hlj, splJ, HK.out, dropH L2 hlk, splB, if_pos (by simp only [splP, Hb0.out, Hb1.out, Hb2.out, Hb4.out]; simp)]
                      rfl
                  | false =>
                    have Hb2 := Lib.hid b2
                    cases b3 : (at_ f (i + j) &&& ~~~at_ b k == 0#16) with
                    | true =>
                      have Hb3 := Lib.hid b3
                      cases b4 : (decide ((n : Int) - (cnt (at_ b k) : Int) < 2)) with
                      | true =>
                        have Hb4 := Lib.hid b4
                        replace b4 : (n : Int) - (cnt (at_ b k) : Int) < 2 := by simpa using b4
                        have HF := Lib.hid K3
                        go_wp2_with fail
                        refine (HC.out).mono ?_
                        rintro e w' ⟨rfl, nn, rfl⟩
                        go_wp2_with fail
                        go_roundw
                        case rel => exact ⟨k + 1, by omega, by go_num, HF.out.drewN _, hrfl <| by rw [HK.out, dropH L2 hlk, splB, if_neg (by simp only [splP, Hb0.out, Hb1.out, Hb2.out, Hb3.out, Hb4.out]; simp)]⟩
                        case measure => simp [RowKit.intOf]; omega
                      | false =>
                        have Hb4 := Lib.hid b4
                        replace b4 : ¬ ((n : Int) - (cnt (at_ b k) : Int) < 2) := by simpa using b4
                        have HF := Lib.hid K3
                        go_wp2_with fail
                        refine (HC.out).mono ?_
                        rintro e w' ⟨rfl, nn, rfl⟩
                        go_wp2_with fail
                        (try simp only [Exit.inBlock, Exit.then]); refine bodyPost_ret (results_4 rfl _ _ _) rfl ⟨ret_eq ?_, HF.out.drewN _⟩
                        rw [HI.out, dropH L1 hlt, splI, ← dropH L1 hlt, HJ.out, dropH L1 hlj, splJ, HK.out, dropH L2 hlk, splB, if_pos (by simp only [splP, Hb0.out, Hb1.out, Hb2.out, Hb3.out, Hb4.out]; simp)]
                        rfl
                    | false =>
                      have Hb3 := Lib.hid b3
                      have HF := Lib.hid K3
                      go_wp2_with fail
                      (try simp only [Exit.inBlock, Exit.then]); refine bodyPost_ret (results_4 rfl _ _ _) rfl ⟨ret_eq ?_, HF.out⟩
                      rw [HI.out, dropH L1 hlt, splI, ← dropH L1 hlt, HJ.out, dropH L1 hlj, splJ, HK.out, dropH L2 hlk, splB, if_pos (by simp only [splP, Hb0.out, Hb1.out, Hb2.out, Hb3.out]; simp)]
                      rfl
                | false =>
                  have Hb1 := Lib.hid b1
                  have b1' : (at_ f i &&& at_ f (i + j) &&& ~~~at_ b k != 0#16) = true := by simpa using b1
                  clear b1
                  have HF := Lib.hid K3
                  go_wp2_with fail
                  go_roundw
                  case rel => exact ⟨k + 1, by omega, by go_num, HF.out, hrfl <| by rw [HK.out, dropH L2 hlk, splB, if_neg (by simp only [splP, Hb0.out, Hb1.out]; simp)]⟩
                  case measure => simp [RowKit.intOf]; omega
            · go_wp2
              go_roundw
              case rel => exact ⟨j + 1, by omega, by go_num, K3, hrfl <| by rw [HJ.out, dropH L1 hlj, splJ, HK.out, dropN L2 hlk, splB, Nat.add_assoc]⟩
              case measure => simp [RowKit.intOf]; omega
        · go_wp2
          go_roundw
          case rel => exact ⟨i + 1, by omega, by go_num, K2, hrfl <| by rw [HI.out, dropH L1 hlt, splI, ← dropH L1 hlt, HJ.out, dropN L1 (by omega), splJ]⟩
          case measure => simp [RowKit.intOf]; omega
    · go_wp2
      (try simp only [Exit.inBlock, Exit.then]); refine bodyPost_ret (results_4 rfl _ _ _) rfl ⟨ret_eq ?_, K1⟩
      rw [HI.out, dropN L1 hlt]
      rfl
end Go.Proofs.YtijknodekomdfaaGreatDoor
namespace Go.Proofs.YtijknodekomdfaaGreatDoor
open Go.RowKit Go.Lib Go.Shelf

def sayP (M : List Nat) (kind src : Int) (v : Str) (k : Nat) : List Ct := (M.take k).map fun (d : Nat) => ⟨kind, src, (d : Int), v⟩
theorem sayP_succ (M : List Nat) (kind src : Int) (v : Str) (k : Nat) (h : k < M.length) : sayP M kind src v (k + 1) = sayP M kind src v k ++ [⟨kind, src, ((im M k : Nat) : Int), v⟩] := by
  unfold sayP
  rw [List.take_succ_eq_append_getElem h, List.map_append]
  simp [im, List.getD, h]
theorem sayP_all (A : S) (kind : Int) (src : Nat) (v : Str) (k : Nat) (h : (memL A).length ≤ k) : sayP (memL A) kind src v k = sayL A kind src v := by
  unfold sayP sayL
  rw [List.take_of_length_le h]
theorem ty3_sd : ¬ Ty3 219 := by unfold Ty3; decide
theorem memL_len (s : S) : (memL s).length ≤ 16 := Nat.le_trans (List.length_filter_le _ _) (by simp)
set_option maxRecDepth 200000 in
set_option maxHeartbeats 4000000 in
theorem say39_any (w0 w : World) (hT : Tab w) (B BS BP : Nat) (fv bv : Value) (n : Nat) (byz : S) (source : Int) (nv : Value) (nas : List NA) (gv : Value) (fl : List Ct) (lv : Value) (ls : List Ct) (A p : S) (v : Str) (kind : Int) (src : Nat) (hA : small A) (hfl : fl.length ≤ 100000)
    (hBS : Blk w BS 219 #[.int .u16 (sv A), .int .u16 (sv p), .string v]) (hBP : Blk w BP 140 #[.pointer (some ⟨B, 0, none⟩)]) (hR : RunW w0 w B fv bv n byz source nv nas gv fl lv ls) :
    Calls Tryz.prog 152 (#[.int .i64 kind, .int .i64 src] ++ #[.pointer (some ⟨BS, 0, none⟩), .pointer (some ⟨BP, 0, none⟩)]) w fun e W' => e = .returned (.tuple #[]) ∧ ∃ gv', RunW w0 W' B fv bv n byz source nv nas gv' (fl ++ sayL A kind src v) lv ls ∧ TyF w W' := by
  have hm := membersB_any A w hT hA
  have HM := Lib.hid hm
  have hml := memL_len A
  have c0 := hBS.cell 0 (v := .int .u16 (sv A)) rfl
  have HSA := Lib.hid (sayP_all A kind src v)
  have HRR := Lib.hid hR; have HS0 := Lib.hid hBS; have HP0 := Lib.hid hBP
  clear hm hT hA hR hBS hBP
  generalize memL A = M at *
  generalize sayL A kind src v = SL at *
  go_enter Tryz.func152, Tryz.ntmps152
  go_wp2_with fail
  refine HM.out.mono ?_
  rintro e w1 ⟨mv, rfl, hI⟩
  obtain ⟨am, cm, rfl, _⟩ := hI.rd
  have HI := Lib.hid hI.row0
  have HK := Lib.hid hI.2
  clear hI HM c0
  go_wp2_with fail
  go_loopw [12] (fun u wr => ∃ (k : Nat) (gv' : Value) (L : List Ct), k ≤ M.length ∧ u = .int .i64 k ∧ RunW w0 wr B fv bv n byz source nv nas gv' L lv ls ∧ TyF w1 wr ∧ Hid (L = fl ++ sayP M kind src v k) ∧ Hid (L.length ≤ 100000 + k)) (fun u _ => M.length - (RowKit.intOf u).toNat)
  case atStart => exact ⟨0, gv, fl, Nat.zero_le _, rfl, HRR.out.keep HK.out, .refl _, Lib.hid (by simp [sayP]), Lib.hid (by omega)⟩
  case round =>
    obtain ⟨k, gv', L, hk, rfl, hR, hT, HL, HLB⟩ := hrel
    by_cases hlt : k < M.length
    · have hI := (HI.out.tyf (by unfold Ty3; decide) hT).rd
      have q0 := hI.cell k _ (il_at M k hlt)
      have hao := hI.isSome (by omega)
      have HSUC := Lib.hid (sayP_succ M kind src v k hlt)
      have hBS := hT.2 _ _ _ (HS0.out.keep HK.out) ty3_sd
      have hBP := hT.2 _ _ _ (HP0.out.keep HK.out) ty3_p
      generalize im M k = d at *
      obtain ⟨ag, cg, rfl, _⟩ := hR.fli.rd
      have HRr := Lib.hid hR; have HTr := Lib.hid hT; have HSr := Lib.hid hBS; have HPr := Lib.hid hBP
      clear hI hR hT hBS hBP
      generalize hgv : Value.slice ag L.length cg = gv' at *
      have HGV := Lib.hid hgv
      clear hgv
      go_upto_region 3 with fail
      clear q0
      have hR := HRr.out; have hT := HTr.out; have hBS := HSr.out; have hBP := HPr.out
      clear HRr HTr HSr HPr
      have kd := (Keeps.refl wr).drew
      replace hR := hR.keep kd
      replace hT := hT.trans (.of kd)
      replace hBS := hBS.keep kd
      replace hBP := hBP.keep kd
      clear kd
      refine wp_region_held_drew (S := (fun w' => w'.cell? ⟨BP, 0, none⟩ = some (.pointer (some ⟨B, 0, none⟩)) ∧ w'.cell? ⟨BS, 2, none⟩ = some (.string v))) (by kernel_rfl) ?_ (fun hHeld => ?_)
      · exact ⟨hBP.cell 0 rfl, hBS.cell 2 rfl⟩
      generalize wr.drew = V0 at *
      refine wpAnyH_take (i := 0) (oi := ⟨_, _, _, _, _, _⟩) (v := ?_) rfl (by kernel_rfl) (by kernel_rfl) (by kernel_rfl) (fun _ _ _ h => h) (Or.inl ⟨by rfl, ?_⟩) (by assumption) ?_
      rotate_left 1
      · intro w hSw; (try dsimp only at hSw); go_simp <;> with_reducible rfl
      (try simp only [Act.put]); (try simp only [List.setIfInBounds_toArray]); (try simp only [List.set_cons_succ]); (try simp only [List.set_cons_zero])
      refine wpAnyH_take (i := 1) (oi := ⟨_, _, _, _, _, _⟩) (v := ?_) rfl (by kernel_rfl) (by kernel_rfl) (by kernel_rfl) (fun _ _ _ h => h) (Or.inl ⟨by rfl, ?_⟩) (by assumption) ?_
      rotate_left 1
      · intro w hSw; (try dsimp only at hSw); go_simp <;> with_reducible rfl
      (try simp only [Act.put]); (try simp only [List.setIfInBounds_toArray]); (try simp only [List.set_cons_succ]); (try simp only [List.set_cons_zero])
      refine wpAnyH_take (i := 2) (oi := ⟨_, _, _, _, _, _⟩) (v := ?_) rfl (by kernel_rfl) (by kernel_rfl) (by kernel_rfl) (fun _ _ _ h => h) (Or.inl ⟨by rfl, ?_⟩) (by assumption) ?_
      rotate_left 1
      · intro w hSw; (try dsimp only at hSw); go_simp <;> with_reducible rfl
      (try simp only [Act.put]); (try simp only [List.setIfInBounds_toArray]); (try simp only [List.set_cons_succ]); (try simp only [List.set_cons_zero])
      refine wpAnyH_take (i := 3) (oi := ⟨_, _, _, _, _, _⟩) (v := ?_) rfl (by kernel_rfl) (by kernel_rfl) (by kernel_rfl) (fun _ _ _ h => h) (Or.inl ⟨by rfl, ?_⟩) (by assumption) ?_
      rotate_left 1
      · intro w hSw; (try dsimp only at hSw); go_simp <;> with_reducible rfl
      (try simp only [Act.put]); (try simp only [List.setIfInBounds_toArray]); (try simp only [List.set_cons_succ]); (try simp only [List.set_cons_zero])
      refine wpAnyH_take (i := 4) (oi := ⟨_, _, _, _, _, _⟩) (v := ?_) rfl (by kernel_rfl) (by kernel_rfl) (by kernel_rfl) (fun _ _ _ h => h) (Or.inl ⟨by rfl, ?_⟩) (by assumption) ?_
      rotate_left 1
      · intro w hSw; (try dsimp only at hSw); go_simp <;> with_reducible rfl
      (try simp only [Act.put]); (try simp only [List.setIfInBounds_toArray]); (try simp only [List.set_cons_succ]); (try simp only [List.set_cons_zero])
      refine wpAnyH_take (i := 6) (oi := ⟨_, _, _, _, _, _⟩) (v := ?_) rfl (by kernel_rfl) (by kernel_rfl) (by kernel_rfl) (fun _ _ _ h => h) (Or.inl ⟨by rfl, ?_⟩) (by assumption) ?_
      rotate_left 1
      · intro w hSw; (try dsimp only at hSw); go_simp <;> with_reducible rfl
      (try simp only [Act.put]); (try simp only [List.setIfInBounds_toArray]); (try simp only [List.set_cons_succ]); (try simp only [List.set_cons_zero])
      refine wpAnyH_take (i := 7) (oi := ⟨_, _, _, _, _, _⟩) (v := ?_) rfl (by kernel_rfl) (by kernel_rfl) (by kernel_rfl) (fun _ _ _ h => h) (Or.inl ⟨by rfl, ?_⟩) (by assumption) ?_
      rotate_left 1
      · intro w hSw; (try dsimp only at hSw); go_simp <;> with_reducible rfl
      (try simp only [Act.put]); (try simp only [List.setIfInBounds_toArray]); (try simp only [List.set_cons_succ]); (try simp only [List.set_cons_zero])
      refine wpAnyH_take (i := 8) (oi := ⟨_, _, _, _, _, _⟩) (v := ?_) rfl (by kernel_rfl) (by kernel_rfl) (by kernel_rfl) (fun _ _ _ h => h) (Or.inl ⟨by rfl, ?_⟩) (by assumption) ?_
      rotate_left 1
      · intro w hSw; (try dsimp only at hSw); go_simp <;> with_reducible rfl
      (try simp only [Act.put]); (try simp only [List.setIfInBounds_toArray]); (try simp only [List.set_cons_succ]); (try simp only [List.set_cons_zero])
      refine wpAnyH_take (i := 9) (oi := ⟨_, _, _, _, _, _⟩) (v := ?_) rfl (by kernel_rfl) (by kernel_rfl) (by kernel_rfl) (fun _ _ _ h => h) (Or.inl ⟨by rfl, ?_⟩) (by assumption) ?_
      rotate_left 1
      · intro w hSw; (try dsimp only at hSw); go_simp <;> with_reducible rfl
      (try simp only [Act.put]); (try simp only [List.setIfInBounds_toArray]); (try simp only [List.set_cons_succ]); (try simp only [List.set_cons_zero])
      refine wpAnyH_take (i := 10) (oi := ⟨_, _, _, _, _, _⟩) (v := ?_) rfl (by kernel_rfl) (by kernel_rfl) (by kernel_rfl) (fun _ _ _ h => h) (Or.inl ⟨by rfl, ?_⟩) (by assumption) ?_
      rotate_left 1
      · intro w hSw; (try dsimp only at hSw); go_simp <;> with_reducible rfl
      (try simp only [Act.put]); (try simp only [List.setIfInBounds_toArray]); (try simp only [List.set_cons_succ]); (try simp only [List.set_cons_zero])
      refine wpAnyH_take (i := 11) (oi := ⟨_, _, _, _, _, _⟩) (v := ?_) rfl (by kernel_rfl) (by kernel_rfl) (by kernel_rfl) (fun _ _ _ h => h) (Or.inl ⟨by rfl, ?_⟩) (by assumption) ?_
      rotate_left 1
      · intro w hSw; (try dsimp only at hSw); go_simp <;> with_reducible rfl
      (try simp only [Act.put]); (try simp only [List.setIfInBounds_toArray]); (try simp only [List.set_cons_succ]); (try simp only [List.set_cons_zero])
      refine wpAnyH_ready (rs := [5, 12]) (by kernel_rfl) (by simp) ?_
      refine AllReadyH.cons (o := ⟨_, _, _, _, _, _⟩) rfl (fun K hK => ?_) (AllReadyH.cons (o := ⟨_, _, _, _, _, _⟩) rfl (fun K hK => ?_) AllReadyH.nil)
      · have c6 := hR.box.cell 6 (v := gv') rfl
        go_simp
        clear c6
        refine hK.out _ _ ?_ (fun hHeld => ?_)
        · exact ⟨hBP.cell 0 rfl, hBS.cell 2 rfl⟩
        clear hK K
        (try simp only [Act.put]); (try simp only [List.setIfInBounds_toArray]); (try simp only [List.set_cons_succ]); (try simp only [List.set_cons_zero])
        refine wpAnyH_ready (rs := [12]) (by kernel_rfl) (by simp) ?_
        refine AllReadyH.cons (o := ⟨_, _, _, _, _, _⟩) rfl (fun K hK => ?_) AllReadyH.nil
        go_simp
        have r1 : Rd (V0.alloc (.cells #[.int .i64 kind, .int .i64 src, .int .i64 d, .string v] 145)) (some ⟨V0.heap.size, 0, none⟩) 1 1 4 (cl [(⟨kind, src, (d : Int), v⟩ : Ct)]) := rd_new 145 4 V0 _ 1 (by decide) rfl
        have kA := (Keeps.refl V0).alloc (.cells #[.int .i64 kind, .int .i64 src, .int .i64 d, .string v] 145)
        replace hR := hR.keep kA
        replace hBP := hBP.keep kA
        replace hBS := hBS.keep kA
        replace hT := hT.trans (.of kA)
        clear kA
        generalize V0.alloc (.cells #[.int .i64 kind, .int .i64 src, .int .i64 d, .string v] 145) = V1 at *
        generalize V0.heap.size = BQ at *
        refine hK.out _ _ ?_ (fun hHeld => ?_)
        · exact ⟨hBP.cell 0 rfl, hBS.cell 2 rfl⟩
        clear hK K
        (try simp only [Act.put]); (try simp only [List.setIfInBounds_toArray]); (try simp only [List.set_cons_succ]); (try simp only [List.set_cons_zero])
        refine wpAnyH_ready (rs := [13]) (by kernel_rfl) (by simp) ?_
        refine AllReadyH.cons (o := ⟨_, _, _, _, _, _⟩) rfl (fun K hK => ?_) AllReadyH.nil
        have HO := Lib.hid hR.fli
        refine step_app3 ty_cl rfl _ _ rfl HO.out rfl rfl r1 (cl_cells _) (by have := HLB.out; omega) ?_
        intro v' V2 hO' hgr hb'
        dsimp only
        obtain ⟨a9, c9, rfl, _⟩ := hO'.rd
        rw [← cl_append] at hO'
        obtain ⟨L', hL'⟩ : ∃ L', L' = L ++ [(⟨kind, src, (d : Int), v⟩ : Ct)] := ⟨_, rfl⟩
        rw [len_snoc9 L (⟨kind, src, (d : Int), v⟩ : Ct), ← hL'] at hO' hb' ⊢
        have HL' := Lib.hid hL'
        clear hL'
        replace hBS := blk_grown9 hBS hgr (blk_ne hBS HO.out.1 (by decide))
        replace hBP := blk_grown9 hBP hgr (blk_ne hBP HO.out.1 (by decide))
        have hbx := hR.boxg hgr
        have hap := hR.append hO' hgr hb'
        have HAP := Lib.hid (And.intro hap.1 (hT.trans (DF.ty3 hap.2)))
        clear hap hO' hgr hb' HO r1 hR hT
        refine hK.out _ _ ?_ (fun hHeld => ?_)
        · exact ⟨hBP.cell 0 rfl, hBS.cell 2 rfl⟩
        clear hK K
        (try simp only [Act.put]); (try simp only [List.setIfInBounds_toArray]); (try simp only [List.set_cons_succ]); (try simp only [List.set_cons_zero])
        refine wpAnyH_take (i := 14) (oi := ⟨_, _, _, _, _, _⟩) (v := ?_) rfl (by kernel_rfl) (by kernel_rfl) (by kernel_rfl) (fun _ _ _ h => h) (Or.inl ⟨by rfl, ?_⟩) (by assumption) ?_
        rotate_left 1
        · intro w hSw; (try dsimp only at hSw); go_simp <;> with_reducible rfl
        (try simp only [Act.put]); (try simp only [List.setIfInBounds_toArray]); (try simp only [List.set_cons_succ]); (try simp only [List.set_cons_zero])
        refine wpAnyH_take (i := 15) (oi := ⟨_, _, _, _, _, _⟩) (v := ?_) rfl (by kernel_rfl) (by kernel_rfl) (by kernel_rfl) (fun _ _ _ h => h) (Or.inl ⟨by rfl, ?_⟩) (by assumption) ?_
        rotate_left 1
        · intro w hSw; (try dsimp only at hSw); go_simp <;> with_reducible rfl
        (try simp only [Act.put]); (try simp only [List.setIfInBounds_toArray]); (try simp only [List.set_cons_succ]); (try simp only [List.set_cons_zero])
        refine wpAnyH_take (i := 16) (oi := ⟨_, _, _, _, _, _⟩) (v := ?_) rfl (by kernel_rfl) (by kernel_rfl) (by kernel_rfl) (fun _ _ _ h => h) (Or.inl ⟨by rfl, ?_⟩) (by assumption) ?_
        rotate_left 1
        · intro w hSw; (try dsimp only at hSw); go_simp <;> with_reducible rfl
        (try simp only [Act.put]); (try simp only [List.setIfInBounds_toArray]); (try simp only [List.set_cons_succ]); (try simp only [List.set_cons_zero])
        refine wpAnyH_ready (rs := [17]) (by kernel_rfl) (by simp) ?_
        refine AllReadyH.cons (o := ⟨_, _, _, _, _, _⟩) rfl (fun K hK => ?_) AllReadyH.nil
        have c6 := hbx.cell 6 (v := gv') rfl
        have g6 := hbx.frozen 6
        go_simp
        clear c6 g6
        obtain ⟨hR, hT⟩ := HAP.out
        replace hBS := hBS.setOther (hBS.ne hbx (by decide)) 6 (.slice a9 L'.length c9)
        replace hBP := hBP.setOther (hBP.ne hbx (by decide)) 6 (.slice a9 L'.length c9)
        generalize V2.setCell ⟨B, 6, none⟩ (.slice a9 L'.length c9) = V3 at *
        refine hK.out _ _ ?_ (fun hHeld => ?_)
        · exact ⟨hBP.cell 0 rfl, hBS.cell 2 rfl⟩
        clear hK K
        (try simp only [Act.put]); (try simp only [List.setIfInBounds_toArray]); (try simp only [List.set_cons_succ]); (try simp only [List.set_cons_zero])
        refine wpAnyH_done (by kernel_rfl) ?_ _
        have HR := Lib.hid hR
        have HTT := Lib.hid hT
        clear hR hT hBS hBP hbx HAP
        go_wp2_with fail
        go_roundw
        case rel => exact ⟨k + 1, _, L', by omega, by go_num, HR.out, HTT.out, Lib.hid (by rw [HL'.out, HL.out, HSUC.out, List.append_assoc]), Lib.hid (by rw [HL'.out, List.length_append, List.length_singleton]; have := HLB.out; omega)⟩
        case measure => simp [RowKit.intOf]; omega
      · go_simp
        have r1 : Rd (V0.alloc (.cells #[.int .i64 kind, .int .i64 src, .int .i64 d, .string v] 145)) (some ⟨V0.heap.size, 0, none⟩) 1 1 4 (cl [(⟨kind, src, (d : Int), v⟩ : Ct)]) := rd_new 145 4 V0 _ 1 (by decide) rfl
        have kA := (Keeps.refl V0).alloc (.cells #[.int .i64 kind, .int .i64 src, .int .i64 d, .string v] 145)
        replace hR := hR.keep kA
        replace hBP := hBP.keep kA
        replace hBS := hBS.keep kA
        replace hT := hT.trans (.of kA)
        clear kA
        generalize V0.alloc (.cells #[.int .i64 kind, .int .i64 src, .int .i64 d, .string v] 145) = V1 at *
        generalize V0.heap.size = BQ at *
        refine hK.out _ _ ?_ (fun hHeld => ?_)
        · exact ⟨hBP.cell 0 rfl, hBS.cell 2 rfl⟩
        clear hK K
        (try simp only [Act.put]); (try simp only [List.setIfInBounds_toArray]); (try simp only [List.set_cons_succ]); (try simp only [List.set_cons_zero])
        refine wpAnyH_ready (rs := [5]) (by kernel_rfl) (by simp) ?_
        refine AllReadyH.cons (o := ⟨_, _, _, _, _, _⟩) rfl (fun K hK => ?_) AllReadyH.nil
        have c6 := hR.box.cell 6 (v := gv') rfl
        go_simp
        clear c6
        refine hK.out _ _ ?_ (fun hHeld => ?_)
        · exact ⟨hBP.cell 0 rfl, hBS.cell 2 rfl⟩
        clear hK K
        (try simp only [Act.put]); (try simp only [List.setIfInBounds_toArray]); (try simp only [List.set_cons_succ]); (try simp only [List.set_cons_zero])
        refine wpAnyH_ready (rs := [13]) (by kernel_rfl) (by simp) ?_
        refine AllReadyH.cons (o := ⟨_, _, _, _, _, _⟩) rfl (fun K hK => ?_) AllReadyH.nil
        have HO := Lib.hid hR.fli
        refine step_app3 ty_cl rfl _ _ rfl HO.out rfl rfl r1 (cl_cells _) (by have := HLB.out; omega) ?_
        intro v' V2 hO' hgr hb'
        dsimp only
        obtain ⟨a9, c9, rfl, _⟩ := hO'.rd
        rw [← cl_append] at hO'
        obtain ⟨L', hL'⟩ : ∃ L', L' = L ++ [(⟨kind, src, (d : Int), v⟩ : Ct)] := ⟨_, rfl⟩
        rw [len_snoc9 L (⟨kind, src, (d : Int), v⟩ : Ct), ← hL'] at hO' hb' ⊢
        have HL' := Lib.hid hL'
        clear hL'
        replace hBS := blk_grown9 hBS hgr (blk_ne hBS HO.out.1 (by decide))
        replace hBP := blk_grown9 hBP hgr (blk_ne hBP HO.out.1 (by decide))
        have hbx := hR.boxg hgr
        have hap := hR.append hO' hgr hb'
        have HAP := Lib.hid (And.intro hap.1 (hT.trans (DF.ty3 hap.2)))
        clear hap hO' hgr hb' HO r1 hR hT
        refine hK.out _ _ ?_ (fun hHeld => ?_)
        · exact ⟨hBP.cell 0 rfl, hBS.cell 2 rfl⟩
        clear hK K
        (try simp only [Act.put]); (try simp only [List.setIfInBounds_toArray]); (try simp only [List.set_cons_succ]); (try simp only [List.set_cons_zero])
        refine wpAnyH_take (i := 14) (oi := ⟨_, _, _, _, _, _⟩) (v := ?_) rfl (by kernel_rfl) (by kernel_rfl) (by kernel_rfl) (fun _ _ _ h => h) (Or.inl ⟨by rfl, ?_⟩) (by assumption) ?_
        rotate_left 1
        · intro w hSw; (try dsimp only at hSw); go_simp <;> with_reducible rfl
        (try simp only [Act.put]); (try simp only [List.setIfInBounds_toArray]); (try simp only [List.set_cons_succ]); (try simp only [List.set_cons_zero])
        refine wpAnyH_take (i := 15) (oi := ⟨_, _, _, _, _, _⟩) (v := ?_) rfl (by kernel_rfl) (by kernel_rfl) (by kernel_rfl) (fun _ _ _ h => h) (Or.inl ⟨by rfl, ?_⟩) (by assumption) ?_
        rotate_left 1
        · intro w hSw; (try dsimp only at hSw); go_simp <;> with_reducible rfl
        (try simp only [Act.put]); (try simp only [List.setIfInBounds_toArray]); (try simp only [List.set_cons_succ]); (try simp only [List.set_cons_zero])
        refine wpAnyH_take (i := 16) (oi := ⟨_, _, _, _, _, _⟩) (v := ?_) rfl (by kernel_rfl) (by kernel_rfl) (by kernel_rfl) (fun _ _ _ h => h) (Or.inl ⟨by rfl, ?_⟩) (by assumption) ?_
        rotate_left 1
        · intro w hSw; (try dsimp only at hSw); go_simp <;> with_reducible rfl
        (try simp only [Act.put]); (try simp only [List.setIfInBounds_toArray]); (try simp only [List.set_cons_succ]); (try simp only [List.set_cons_zero])
        refine wpAnyH_ready (rs := [17]) (by kernel_rfl) (by simp) ?_
        refine AllReadyH.cons (o := ⟨_, _, _, _, _, _⟩) rfl (fun K hK => ?_) AllReadyH.nil
        have c6 := hbx.cell 6 (v := gv') rfl
        have g6 := hbx.frozen 6
        go_simp
        clear c6 g6
        obtain ⟨hR, hT⟩ := HAP.out
        replace hBS := hBS.setOther (hBS.ne hbx (by decide)) 6 (.slice a9 L'.length c9)
        replace hBP := hBP.setOther (hBP.ne hbx (by decide)) 6 (.slice a9 L'.length c9)
        generalize V2.setCell ⟨B, 6, none⟩ (.slice a9 L'.length c9) = V3 at *
        refine hK.out _ _ ?_ (fun hHeld => ?_)
        · exact ⟨hBP.cell 0 rfl, hBS.cell 2 rfl⟩
        clear hK K
        (try simp only [Act.put]); (try simp only [List.setIfInBounds_toArray]); (try simp only [List.set_cons_succ]); (try simp only [List.set_cons_zero])
        refine wpAnyH_done (by kernel_rfl) ?_ _
        have HR := Lib.hid hR
        have HTT := Lib.hid hT
        clear hR hT hBS hBP hbx HAP
        go_wp2_with fail
        go_roundw
        case rel => exact ⟨k + 1, _, L', by omega, by go_num, HR.out, HTT.out, Lib.hid (by rw [HL'.out, HL.out, HSUC.out, List.append_assoc]), Lib.hid (by rw [HL'.out, List.length_append, List.length_singleton]; have := HLB.out; omega)⟩
        case measure => simp [RowKit.intOf]; omega
    · have e1 : k = M.length := by omega
      have HF := Lib.hid hR; have HFT := Lib.hid ((FrB.of HK.out).trans hT)
      have HE : Hid (L = fl ++ SL) := Lib.hid (by rw [HL.out, HSA.out k (by omega)])
      clear hR hT e1
      go_wp2_with fail
      go_end0
      exact ⟨rfl, gv', by rw [← HE.out]; exact HF.out, HFT.out⟩
/-- whether Attack delivers a cast -/
theorem atkPred_any (A p byz : S) (v : Str) (c : Ct) (BS BB : Nat) (W : World) (hS : Blk W BS 219 #[.int .u16 (sv A), .int .u16 (sv p), .string v]) (hB : Blk W BB 31 #[.int .u16 (sv byz)]) (hd : ∃ d : Nat, c.dst = (d : Int) ∧ d < 16) (hs : ∃ s : Nat, c.src = (s : Int) ∧ s < 16) :
    Calls Tryz.prog 154 (#[vc c] ++ #[.pointer (some ⟨BS, 0, none⟩), .pointer (some ⟨BB, 0, none⟩)]) W fun e w' => e = .returned (.bool (inA A byz c)) ∧ Keeps W w' := by
  obtain ⟨d, hd, hd2⟩ := hd
  obtain ⟨s, hs, hs2⟩ := hs
  have e1 : inA A byz c = (A.getLsbD d && (A ||| byz).getLsbD s) := by
    unfold inA
    rw [hd, hs]
    simp
  rw [e1]
  have h1 := bit1_S A d
  have h2 := bit1_S (A ||| byz) s
  have m1 : min d 16 = d := by omega
  have m2 : min s 16 = s := by omega
  obtain ⟨kd, src, dst, u⟩ := c
  dsimp only at hd hs
  subst hd hs
  have kA := (Keeps.refl W).alloc (.cells #[.int .i64 kd, .int .i64 s, .int .i64 d, .string u] 145)
  have s0 := (hS.keep kA).cell 0 (v := .int .u16 (sv A)) rfl
  have b0 := (hB.keep kA).cell 0 (v := .int .u16 (sv byz)) rfl
  have HK := Lib.hid kA
  clear kA hS hB e1
  unfold vc
  cases hq : A.getLsbD d with
  | false =>
    rw [hq] at h1
    clear hq h2
    go_enter Tryz.func154, Tryz.ntmps154
    go_wp2_with fail
    go_ret
    exact ⟨rfl, HK.out⟩
  | true =>
    rw [hq] at h1
    clear hq
    generalize (A ||| byz).getLsbD s = r at h2 ⊢
    go_enter Tryz.func154, Tryz.ntmps154
    go_wp2_with fail
    go_ret
    exact ⟨by cases r <;> rfl, HK.out⟩
end Go.Proofs.YtijknodekomdfaaGreatDoor
namespace Go.Proofs.YtijknodekomdfaaGreatDoor
open Go.RowKit Go.Lib Go.Shelf

/-- ids and senders are servers -/
def IdS (st : St) : Prop := (∀ x ∈ st.nodes, ∃ s : Nat, x.id = (s : Int) ∧ s < 16) ∧ ∀ c ∈ st.flight, ∃ s : Nat, c.src = (s : Int) ∧ s < 16
theorem rdy_id (x : Nd) (is : Bool) (v : Str) : (rdy x is v).1.id = x.id ∧ ∀ o ∈ (rdy x is v).2, o.src = x.id := by
  unfold rdy
  split
  · exact ⟨rfl, fun o ho => by rw [List.mem_singleton.1 ho]⟩
  · exact ⟨rfl, fun o ho => by cases ho⟩
theorem handle_id (f b : List S) (x : Nd) (src kind : Int) (v : Str) : (handle f b x src kind v).1.id = x.id ∧ ∀ o ∈ (handle f b x src kind v).2, o.src = x.id := by
  have nil : ∀ o ∈ ([] : List Ct), o.src = x.id := fun o ho => by cases ho
  unfold handle
  split
  · exact ⟨rfl, nil⟩
  split
  · split
    · exact ⟨rfl, nil⟩
    · exact ⟨rfl, fun o ho => by rw [List.mem_singleton.1 ho]⟩
  split
  · split
    · exact ⟨rfl, nil⟩
    · exact rdy_id _ _ _
  split
  · split
    · exact ⟨rfl, nil⟩
    · have h := rdy_id { x with readies := putH x.readies src.toNat v } (!posB b (getH (putH x.readies src.toNat v) v)) v
      dsimp only
      split
      · exact ⟨h.1, h.2⟩
      · exact h
  · exact ⟨rfl, nil⟩
theorem deliv_ids {f b : List S} {n : Nat} {byz : S} {st : St} (h : IdS st) (k : Nat) : IdS (deliv f b n byz st k) := by
  have hid : ∃ s : Nat, (ndA st (st.flight.getD k ct0).dst.toNat).id = (s : Int) ∧ s < 16 := by
    unfold ndA
    by_cases hi : (st.flight.getD k ct0).dst.toNat < st.nodes.length
    · exact h.1 _ (getD_memE nd0 hi)
    · rw [List.getD, List.getElem?_eq_none (by omega)]; exact ⟨0, rfl, by decide⟩
  have hh := handle_id f b (ndA st (st.flight.getD k ct0).dst.toNat) (st.flight.getD k ct0).src (st.flight.getD k ct0).kind (st.flight.getD k ct0).v
  refine ⟨fun x hx => ?_, fun c hc => ?_⟩
  · unfold deliv at hx
    dsimp only at hx
    rcases List.mem_or_eq_of_mem_set hx with hx | rfl
    · exact h.1 x hx
    · rw [hh.1]; exact hid
  · unfold deliv at hc
    dsimp only at hc
    rcases List.mem_append.1 hc with hc | hc
    · exact h.2 c (List.mem_of_mem_eraseIdx hc)
    · obtain ⟨o, ho, hc⟩ := List.mem_flatMap.1 hc
      obtain ⟨i, _, rfl⟩ := (mem_toAll _ _).1 hc
      show ∃ s : Nat, o.src = (s : Int) ∧ s < 16
      rw [hh.2 o ho]; exact hid
/-- what is kept while an attack goes on -/
structure AOk (n : Nat) (st : St) : Prop where
  dst : DstOk n st
  ids : IdS st
  sm : SmallS st
theorem AOk.deliv {f b : List S} {n : Nat} {byz : S} {st : St} (h : AOk n st) (k : Nat) : AOk n (deliv f b n byz st k) := ⟨deliv_dst h.dst k, deliv_ids h.ids k, deliv_small h.sm k⟩
def InN (n : Nat) (A : S) : Prop := ∀ j, A.getLsbD j = true → j < n
theorem AOk.push {n : Nat} {st : St} (h : AOk n st) {A p byz : S} {source : Nat} (hs : source < 16) (hA : InN n A) (v : Str) : AOk n ⟨st.nodes, st.flight ++ pushL A p byz source v⟩ := by
  refine ⟨⟨h.dst.1, fun c hc => ?_⟩, ⟨h.ids.1, fun c hc => ?_⟩, h.sm⟩
  · rcases List.mem_append.1 hc with hc | hc
    · exact h.dst.2 c hc
    · rcases mem_pushL.1 hc with ⟨d, h1, rfl⟩ | ⟨_, _, _, _, _, d, h1, rfl⟩
      · exact ⟨d, rfl, hA d h1⟩
      · exact ⟨d, rfl, hA d h1⟩
  · rcases List.mem_append.1 hc with hc | hc
    · exact h.ids.2 c hc
    · rcases mem_pushL.1 hc with ⟨d, h1, rfl⟩ | ⟨_, _, i, _, h2, d, h1, rfl⟩
      · exact ⟨source, rfl, hs⟩
      · exact ⟨i, rfl, bit_lt h2⟩
theorem AOk.start (n : Nat) (hn : n ≤ 8) : AOk n ⟨startN n, []⟩ := by
  refine ⟨⟨by simp [startN], fun c hc => by cases hc⟩, ⟨fun x hx => ?_, fun c hc => by cases hc⟩, fun x hx => ?_⟩
  · obtain ⟨i, hi, rfl⟩ := List.mem_map.1 hx
    exact ⟨i, rfl, by have := List.mem_range.1 hi; omega⟩
  · obtain ⟨i, _, rfl⟩ := List.mem_map.1 hx
    exact small_of (by simp [nd0]) (by simp [nd0])
theorem AOk.meas {n : Nat} {st : St} (h : AOk n st) (hn : n ≤ 8) : measS n st ≤ st.flight.length + 128 := meas9 h.dst.1 hn
theorem sayL_len (A : S) (kind : Int) (src : Nat) (v : Str) : (sayL A kind src v).length ≤ 16 := by unfold sayL; rw [List.length_map]; exact memL_len A
theorem idx_idxL (P : Ct → Bool) : ∀ (l : List Ct) (k : Nat), idxFrom P l k = match idxL P l with | none => -1 | some i => ((k + i : Nat) : Int)
  | [], k => rfl
  | c :: t, k => by
    unfold idxFrom idxL
    by_cases h : P c = true
    · rw [if_pos h, if_pos h]; simp
    · rw [if_neg h, if_neg h, idx_idxL P t (k + 1)]
      cases idxL P t with
      | none => rfl
      | some i => show ((k + 1 + i : Nat) : Int) = ((k + (i + 1) : Nat) : Int); omega
abbrev Sd := S × S × Str
def alone (q p t : S) : Bool := q &&& ~~~t == 0#16 || p &&& ~~~t == 0#16
def lonQ (q p t : S) : S := if (q &&& ~~~t == 0#16) = true then q else p
def restS (n : Nat) (t : S) : S := (1#16 <<< n - 1#16) &&& ~~~t
def atkSides (n : Nat) (q p t : S) : List Sd :=
  if alone q p t = true then [(1#16 <<< im (memL (restS n t)) 0, lonQ q p t, strX), (1#16 <<< im (memL (restS n t)) 1, lonQ q p t, strY)] else [(q &&& ~~~t, q, strX), (p &&& ~~~t, p, strY)]
def foldSd (f b : List S) (n : Nat) (t : S) (src : Nat) : List Sd → St → St
  | [], st => st
  | s :: r, st => foldSd f b n t src r (sideS f b n t src st s.1 s.2.1 s.2.2)
def atkS (f b : List S) (n : Nat) (q p t : S) : St := foldSd f b n t (tzS t) (atkSides n q p t) ⟨startN n, []⟩
theorem rest_core : ∀ (n : Fin 9) (t : Fin 256), t.val < 2 ^ n.val → ¬ ((n.val : Int) - (cnt (BitVec.ofNat 16 t.val) : Int) < 2) → 2 ≤ (memL (restS n.val (BitVec.ofNat 16 t.val))).length ∧ ∀ i, i < 2 → im (memL (restS n.val (BitVec.ofNat 16 t.val))) i < n.val := by decide +kernel
theorem inN_of {n : Nat} {t : S} (h : t.toNat < 2 ^ n) : InN n t := fun j hj => by
  apply Classical.byContradiction
  intro hn
  have h1 : t.toNat.testBit j = true := hj
  rw [Nat.testBit_lt_two_pow (Nat.lt_of_lt_of_le h (Nat.pow_le_pow_right (by decide) (by omega)))] at h1
  cases h1
theorem ins_lt {l : List S} {n : Nat} (h : insB l n = true) : ∀ x ∈ l, x.toNat < 2 ^ n := fun x hx => by
  unfold insB at h
  have h1 : (l.any fun x => x >>> n != 0#16) = false := by simpa using h
  have h2 := List.any_eq_false.1 h1 x hx
  have h3 : x >>> n = 0#16 := by simpa using h2
  have h4 := congrArg BitVec.toNat h3
  rw [BitVec.toNat_ushiftRight, Nat.shiftRight_eq_div_pow] at h4
  have h5 : x.toNat / 2 ^ n = 0 := h4
  rcases Nat.div_eq_zero_iff.1 h5 with h6 | h6
  · have := Nat.pow_pos (n := n) (show 0 < 2 by decide); omega
  · exact h6
theorem chk_ins {f b : List S} {n : Nat} (h : chk39 f b n = 0) : (∀ x ∈ f, x.toNat < 2 ^ n) ∧ (∀ x ∈ b, x.toNat < 2 ^ n) ∧ validS f = 0 := by
  unfold chk39 at h
  by_cases hv : validS f = 0
  · rw [if_neg (by simpa using hv)] at h
    by_cases hb : (insB f n && insB b n) = true
    · rw [Bool.and_eq_true] at hb
      exact ⟨ins_lt hb.1, ins_lt hb.2, hv⟩
    · rw [if_neg hb] at h; cases h
  · rw [if_pos hv] at h; exact absurd h hv
theorem splB_some {n : Nat} {q p : S} : ∀ {b : List S} {t : S}, splB n q p b = some t → t ∈ b ∧ splP n q p t = true
  | [], _, h => by cases h
  | x :: r, t, h => by
    unfold splB at h
    split at h
    · rename_i hp
      obtain rfl := Option.some.inj h
      exact ⟨List.mem_cons_self .., hp⟩
    · have := splB_some h
      exact ⟨List.mem_cons_of_mem _ this.1, this.2⟩
theorem splJ_some {n : Nat} {b : List S} {q : S} : ∀ {l : List S} {p t : S}, splJ n b q l = some (p, t) → p ∈ l ∧ t ∈ b ∧ splP n q p t = true
  | [], _, _, h => by cases h
  | x :: r, p, t, h => by
    unfold splJ at h
    cases e : splB n q x b with
    | some u =>
      rw [e] at h
      simp only [Option.some.injEq, Prod.mk.injEq] at h
      obtain ⟨rfl, rfl⟩ := h
      exact ⟨List.mem_cons_self .., splB_some e⟩
    | none =>
      rw [e] at h
      have := splJ_some h
      exact ⟨List.mem_cons_of_mem _ this.1, this.2⟩
theorem splI_some {n : Nat} {b : List S} : ∀ {f : List S} {q p t : S}, splI n b f = some (q, p, t) → q ∈ f ∧ p ∈ f ∧ t ∈ b ∧ splP n q p t = true
  | [], _, _, _, h => by cases h
  | x :: r, q, p, t, h => by
    unfold splI at h
    cases e : splJ n b x (x :: r) with
    | some u =>
      obtain ⟨u1, u2⟩ := u
      rw [e] at h
      simp only [Option.some.injEq, Prod.mk.injEq] at h
      obtain ⟨rfl, rfl, rfl⟩ := h
      have := splJ_some e
      exact ⟨List.mem_cons_self .., this.1, this.2⟩
    | none =>
      rw [e] at h
      have := splI_some h
      exact ⟨List.mem_cons_of_mem _ this.1, List.mem_cons_of_mem _ this.2.1, this.2.2⟩
theorem splP_iff {n : Nat} {q p t : S} : splP n q p t = true ↔ t ≠ 0#16 ∧ q &&& p &&& ~~~t = 0#16 ∧ (alone q p t = true → 2 ≤ (n : Int) - (cnt t : Int)) := by
  unfold splP alone
  cases h1 : (t == 0#16) <;> cases h2 : (q &&& p &&& ~~~t == 0#16) <;> cases h3 : (q &&& ~~~t == 0#16 || p &&& ~~~t == 0#16) <;> simp_all
theorem rest_two {n : Nat} {t : S} (hn : n ≤ 8) (h : t.toNat < 2 ^ n) (hc : 2 ≤ (n : Int) - (cnt t : Int)) : 2 ≤ (memL (restS n t)).length ∧ ∀ i, i < 2 → im (memL (restS n t)) i < n := by
  have h8 : 2 ^ n ≤ 2 ^ 8 := Nat.pow_le_pow_right (by decide) hn
  have e : BitVec.ofNat 16 t.toNat = t := by simp
  have := rest_core ⟨n, by omega⟩ ⟨t.toNat, by omega⟩ h (by dsimp only; rw [e]; omega)
  dsimp only at this
  rw [e] at this
  exact this
theorem and_not_lt {n : Nat} {q t : S} (h : q.toNat < 2 ^ n) : (q &&& ~~~t).toNat < 2 ^ n := by
  rw [BitVec.toNat_and]; exact Nat.lt_of_le_of_lt Nat.and_le_left h
theorem bit_lt2 {n i : Nat} (hn : n ≤ 8) (h : i < n) : (1#16 <<< i).toNat < 2 ^ n := by
  rw [BitVec.toNat_shiftLeft, Nat.shiftLeft_eq]
  have h1 : 2 ^ i < 2 ^ n := Nat.pow_lt_pow_right (by decide) h
  have h2 : 2 ^ n ≤ 2 ^ 8 := Nat.pow_le_pow_right (by decide) hn
  rw [Nat.mod_eq_of_lt (by simp; omega)]
  simpa using h1
theorem small_lt {n : Nat} {q : S} (hn : n ≤ 8) (h : q.toNat < 2 ^ n) : small q := by
  have h2 : 2 ^ n ≤ 2 ^ 8 := Nat.pow_le_pow_right (by decide) hn
  unfold small; omega
theorem sides_lt {n : Nat} {q p t : S} (hn : n ≤ 8) (hq : q.toNat < 2 ^ n) (hp : p.toNat < 2 ^ n) (ht : t.toNat < 2 ^ n) (hs : splP n q p t = true) : ∀ s ∈ atkSides n q p t, s.1.toNat < 2 ^ n ∧ s.2.1.toNat < 2 ^ n := by
  obtain ⟨_, _, h3⟩ := splP_iff.1 hs
  unfold atkSides
  by_cases ha : alone q p t = true
  · rw [if_pos ha]
    have hr := rest_two hn ht (h3 ha)
    have hg : (lonQ q p t).toNat < 2 ^ n := by unfold lonQ; split <;> assumption
    intro s hs
    simp only [List.mem_cons, List.not_mem_nil, or_false] at hs
    rcases hs with rfl | rfl
    · exact ⟨bit_lt2 hn (hr.2 0 (by decide)), hg⟩
    · exact ⟨bit_lt2 hn (hr.2 1 (by decide)), hg⟩
  · rw [if_neg ha]
    intro s hs
    simp only [List.mem_cons, List.not_mem_nil, or_false] at hs
    rcases hs with rfl | rfl
    · exact ⟨and_not_lt hq, hq⟩
    · exact ⟨and_not_lt hp, hp⟩
theorem sides_len (n : Nat) (q p t : S) : (atkSides n q p t).length = 2 := by unfold atkSides; split <;> rfl
theorem tz_bit {t : S} (h : small t) (h0 : t ≠ 0#16) : tzS t < 12 ∧ t.getLsbD (tzS t) = true := by
  have h1 := (members_step h h0).1
  have h2 : tzS t ∈ members t := by rw [h1]; exact List.mem_cons_self ..
  unfold members at h2
  rw [List.mem_filter, List.mem_range] at h2
  exact h2
end Go.Proofs.YtijknodekomdfaaGreatDoor
