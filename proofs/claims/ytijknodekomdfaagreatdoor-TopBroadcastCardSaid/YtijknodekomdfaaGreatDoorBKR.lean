/- Texts joined into one, what is needed of them (a program of ours). -/
import Derived.Test.YtijknodekomdfaaGreatDoorBKP
import Derived.Test.YtijknodekomdfaaGreatDoorBKQ
namespace Go.Proofs.YtijknodekomdfaaGreatDoor
open Go.RowKit Go.Lib Go.Shelf

/-- a case as it lies in memory -/
structure KA where
  kN : Nat
  kS : Nat
  kR : Nat
  fa : Option Addr
  lf : List S
  fc : Nat
  ba : Option Addr
  lb : List S
  bc : Nat
  kZ : Nat
def vK (k : KA) : Value := .agg #[.int .u8 k.kN, .int .u8 k.kS, .int .u8 k.kR, .slice k.fa k.lf.length k.fc, .slice k.ba k.lb.length k.bc, .int .u8 k.kZ]
structure RdK (w : World) (k : KA) : Prop where
  f : Rd w k.fa k.lf.length k.fc 1 (sl k.lf)
  b : Rd w k.ba k.lb.length k.bc 1 (sl k.lb)
  n : k.kN < 256
  s : k.kS < 256
  r : k.kR < 256
  z : k.kZ < 256
theorem RdK.keep {w w' : World} {k : KA} (h : RdK w k) (K : Keeps w w') : RdK w' k := ⟨h.f.keep K, h.b.keep K, h.n, h.s, h.r, h.z⟩
def mdN (k : KA) : Nat := 2 + k.kN % 4
def mdA (k : KA) : S := 1#16 <<< mdN k - 1#16
def mdF0 (A : S) (l : List S) : List S := (l.map fun x => x &&& A).filter fun x => x != 0#16
def mdF (k : KA) : List S := if k.kS = 0 then refLeast (mdF0 (mdA k) (k.lf.take 6)) else chooseA (mdA k) (1 + k.kS % mdN k)
def mdB0 (A : S) (l : List S) : List S := l.map fun x => x &&& A
def mdB (k : KA) : List S := mdB0 (mdA k) (k.lb.take 6)
def mdZ (k : KA) : S := BitVec.ofNat 16 k.kZ &&& mdA k
def mdR (k : KA) : Nat := k.kR % mdN k
theorem mdF0_succ (A : S) (l : List S) (j : Nat) (h : j < l.length) : mdF0 A (l.take (j + 1)) = mdF0 A (l.take j) ++ (if (at_ l j &&& A != 0#16) = true then [at_ l j &&& A] else []) := by
  unfold mdF0
  rw [take_at l j h, List.map_append, List.filter_append]
  cases hq : (at_ l j &&& A != 0#16) <;> simp [hq]
theorem mdB0_succ (A : S) (l : List S) (j : Nat) (h : j < l.length) : mdB0 A (l.take (j + 1)) = mdB0 A (l.take j) ++ [at_ l j &&& A] := by
  unfold mdB0
  rw [take_at l j h, List.map_append]
  rfl
theorem mdF0_len (A : S) (l : List S) (j : Nat) : (mdF0 A (l.take j)).length ≤ j := by
  unfold mdF0
  exact Nat.le_trans (List.length_filter_le _ _) (by rw [List.length_map, List.length_take]; omega)
theorem mdB0_len (A : S) (l : List S) (j : Nat) : (mdB0 A (l.take j)).length ≤ j := by
  unfold mdB0
  rw [List.length_map, List.length_take]; omega
set_option maxRecDepth 20000 in
set_option maxHeartbeats 4000000 in
theorem made39_any (k : KA) (w : World) (h : RdK w k) :
    Calls Tryz.prog 27 #[vK k] w fun e w' => ∃ u v, e = .returned (.tuple #[u, v, .int .i64 (mdN k), .int .u16 (sv (mdZ k)), .int .i64 (mdR k)]) ∧ Own 31 1 w w' u (mdF k).length (sl (mdF k)) ∧ Own 31 1 w w' v (mdB k).length (sl (mdB k)) := by
  obtain ⟨kN, kS, kR, fa, lf, fc, ba, lb, bc, kZ⟩ := k
  obtain ⟨hf, hb, hkN, hkS, hkR, hkZ⟩ := h
  dsimp only at hf hb hkN hkS hkR hkZ
  have hFX : mdF ⟨kN, kS, kR, fa, lf, fc, ba, lb, bc, kZ⟩ = if kS = 0 then refLeast (mdF0 (mdA ⟨kN, kS, kR, fa, lf, fc, ba, lb, bc, kZ⟩) (lf.take 6)) else chooseA (mdA ⟨kN, kS, kR, fa, lf, fc, ba, lb, bc, kZ⟩) (1 + kS % mdN ⟨kN, kS, kR, fa, lf, fc, ba, lb, bc, kZ⟩) := rfl
  have hBX : mdB ⟨kN, kS, kR, fa, lf, fc, ba, lb, bc, kZ⟩ = mdB0 (mdA ⟨kN, kS, kR, fa, lf, fc, ba, lb, bc, kZ⟩) (lb.take 6) := rfl
  generalize mdF ⟨kN, kS, kR, fa, lf, fc, ba, lb, bc, kZ⟩ = FX at hFX ⊢
  generalize mdB ⟨kN, kS, kR, fa, lf, fc, ba, lb, bc, kZ⟩ = BQ at hBX ⊢
  unfold vK mdZ mdR
  dsimp only
  have hA0 : mdA ⟨kN, kS, kR, fa, lf, fc, ba, lb, bc, kZ⟩ = 1#16 <<< mdN ⟨kN, kS, kR, fa, lf, fc, ba, lb, bc, kZ⟩ - 1#16 := rfl
  have hn0 : mdN ⟨kN, kS, kR, fa, lf, fc, ba, lb, bc, kZ⟩ = 2 + kN % 4 := rfl
  generalize mdA ⟨kN, kS, kR, fa, lf, fc, ba, lb, bc, kZ⟩ = A at hA0 hFX hBX ⊢
  generalize mdN ⟨kN, kS, kR, fa, lf, fc, ba, lb, bc, kZ⟩ = n at hn0 hA0 hFX ⊢
  have kX := (Keeps.refl w).alloc (.cells #[.int .u8 kN, .int .u8 kS, .int .u8 kR, .slice fa lf.length fc, .slice ba lb.length bc, .int .u8 kZ] 67)
  have hX := Blk.new w 67 #[.int .u8 kN, .int .u8 kS, .int .u8 kR, .slice fa lf.length fc, .slice ba lb.length bc, .int .u8 kZ]
  have e1 : IntKind.i64.wrap (2 + (kN : Int) % 4) = (n : Int) := by rw [IntKind.wrap_i64]; omega
  have e2 : 2 + (kN : Int) % 4 = (n : Int) := by omega
  have hn2 : 2 ≤ n := by omega
  have hn5 : n ≤ 5 := by omega
  have hmin : min n 16 = n := by omega
  have HX := Lib.hid hX; have HK := Lib.hid kX; have HF := Lib.hid (hf.keep kX); have HB := Lib.hid (hb.keep kX); have HA := Lib.hid hA0
  have c0 := hX.cell 0 (v := .int .u8 kN) rfl
  have HFX := Lib.hid hFX; have HBQ := Lib.hid hBX
  have hnz : ¬ n = 0 := by omega
  have hwR : IntKind.i64.wrap (kR : Int) = (kR : Int) := by rw [IntKind.wrap_i64]; omega
  have hrm : ((kR : Int).tmod (n : Int)) = ((kR % n : Nat) : Int) := by rw [Int.tmod_eq_emod_of_nonneg (by omega)]; omega
  have hwZ : IntKind.u16.wrap (kZ : Int) = sv (BitVec.ofNat 16 kZ) := by rw [IntKind.wrap_u16, sv_lit kZ (by omega)]; omega
  have HRM := Lib.hid (And.intro hwR (And.intro hrm hwZ))
  clear hX kX hf hb hn0 hA0 hFX hBX hwR hrm hwZ
  go_enter Tryz.func27, Tryz.ntmps27
  go_wp2_with fail
  clear c0
  generalize w.alloc (.cells #[.int .u8 kN, .int .u8 kS, .int .u8 kR, .slice fa lf.length fc, .slice ba lb.length bc, .int .u8 kZ] 67) = wA at *
  generalize w.heap.size = BX at *
  rw [HA.out.symm]
  go_loopw [9, 11] (fun s9 s11 wr => ∃ j : Nat, s11 = .int .i64 j ∧ j ≤ lf.length ∧ j ≤ 6 ∧ Own 31 1 wA wr s9 (mdF0 A (lf.take j)).length (sl (mdF0 A (lf.take j)))) (fun _ s11 _ => 6 - (RowKit.intOf s11).toNat)
  case atStart => exact ⟨0, rfl, by omega, by omega, .nil _ _ (Keeps.refl _)⟩
  case round =>
    obtain ⟨j, rfl, hj1, hj2, hO⟩ := hrel
    have c3 := (HX.out.keep hO.2).cell 3 (v := .slice fa lf.length fc) rfl
    by_cases hlt : j < lf.length
    · by_cases hl6 : j < 6
      · have g0 := (HF.out.keep hO.2).at hlt
        have hao := HF.out.isSome (by omega)
        have HSU := Lib.hid (mdF0_succ A lf j hlt)
        have HLE := Lib.hid (mdF0_len A lf j)
        generalize at_ lf j = x at *
        cases hq : (x &&& A != 0#16) with
        | false =>
          rw [hq, if_neg (by simp), List.append_nil] at HSU
          have HO := Lib.hid hO
          clear hO
          go_wp2_with fail
          go_roundw
          case rel => exact ⟨j + 1, by go_num, by omega, by omega, by rw [HSU.out]; exact HO.out⟩
          case measure => simp [RowKit.intOf]; omega
        | true =>
          rw [hq, if_pos rfl] at HSU
          generalize mdF0 A (lf.take j) = cur at *
          have HO := Lib.hid hO
          clear hO
          go_wp2_with (at_builtin; refine wp_app tyS rfl _ _ rfl (HO.out.alloc _) rfl rfl (rd_new 31 1 _ [.int .u16 (sv (x &&& A))] 1 (by decide) rfl) (fun u hu => by rw [List.mem_singleton.1 hu]; rfl) (by have := HLE.out; omega) ?_)
          intro v' w1 hO1 hgr
          have HO1 := Lib.hid hO1
          clear hO1 hgr
          go_wp2_with fail
          go_roundw
          case rel => exact ⟨j + 1, by go_num, by omega, by omega, by rw [HSU.out, sl_append, List.length_append]; exact HO1.out⟩
          case measure => simp [RowKit.intOf]; omega
      · have HE : Hid (lf.take j = lf.take 6) := Lib.hid (by rw [show j = 6 by omega])
        have hle : (mdF0 A (lf.take j)).length ≤ 6 := Nat.le_trans (mdF0_len A lf j) hj2
        rw [HE.out] at hO hle
        obtain ⟨a4, c4, rfl, hr4⟩ := hO.rd
        have hcl := refLeast_any a4 _ c4 (mdF0 A (lf.take 6)) wr hr4 (by omega)
        have HCL := Lib.hid hcl
        have HKR := Lib.hid hO.2
        clear hcl hr4 hO hle HE
        go_wp2_with fail
        refine HCL.out.mono ?_
        rintro e w5 ⟨u5, rfl, hO5⟩
        have HO5 := Lib.hid (hO5.since HKR.out)
        have HK5 := Lib.hid (HKR.out.trans hO5.2)
        clear hO5 HCL HKR c3
        have c1 := (HX.out.keep HK5.out).cell 1 (v := .int .u8 kS) rfl
        go_upto_if 50 with fail
        clear c1
        go_cut [9] (fun s9 wx => Own 31 1 wA wx s9 FX.length (sl FX))
        case first =>
          have c1 := (HX.out.keep HK5.out).cell 1 (v := .int .u8 kS) rfl
          by_cases hs0 : kS = 0
          · have HF0 : Hid (FX = refLeast (mdF0 A (lf.take 6))) := Lib.hid (by rw [HFX.out, if_pos hs0])
            have hsb : (((kS : Nat) : Int) != 0) = false := by rw [hs0]; rfl
            clear hs0
            go_wp2_with fail
            go_meet
            case rel => rw [HF0.out]; exact HO5.out
          · have HF0 : Hid (FX = chooseA A (1 + kS % n)) := Lib.hid (by rw [HFX.out, if_neg hs0])
            have hsb : (((kS : Nat) : Int) != 0) = true := by rw [bne_iff_ne]; omega
            have hch := choose7_any A (1 + kS % n) w5
            rw [← HF0.out] at hch
            have e6 : (1 : Int) + (kS : Int) % (n : Int) = ((1 + kS % n : Nat) : Int) := by omega
            rw [← e6] at hch
            have HCH := Lib.hid hch
            have e5 : ((kS : Int).tmod (n : Int)) = ((kS % n : Nat) : Int) := by rw [Int.tmod_eq_emod_of_nonneg (by omega)]; omega
            have hlt5 : kS % n < n := Nat.mod_lt _ (by omega)
            clear hch e6
            go_wp2_with fail
            refine HCH.out.mono ?_
            rintro e w6 ⟨v6, rfl, hO6⟩
            have HO6 := Lib.hid (hO6.since HK5.out)
            clear hO6 HCH hlt5 e5
            go_wp2_with fail
            go_meet
            case rel => exact HO6.out
        case rest =>
        have HOF := Lib.hid hcut
        clear HO5 HK5 hcut
        go_wp2_with fail
        go_loopw [10, 13] (fun s10 s13 wr => ∃ j : Nat, s13 = .int .i64 j ∧ j ≤ lb.length ∧ j ≤ 6 ∧ Own 31 1 wc wr s10 (mdB0 A (lb.take j)).length (sl (mdB0 A (lb.take j)))) (fun _ s13 _ => 6 - (RowKit.intOf s13).toNat)
        case atStart => exact ⟨0, rfl, by omega, by omega, .nil _ _ (Keeps.refl _)⟩
        case round =>
          obtain ⟨i, rfl, hi1, hi2, hO⟩ := hrel
          have c4 := (HX.out.keep (HOF.out.2.trans hO.2)).cell 4 (v := .slice ba lb.length bc) rfl
          by_cases hlt : i < lb.length
          · by_cases hl6 : i < 6
            · have g0 := (HB.out.keep (HOF.out.2.trans hO.2)).at hlt
              have hao := HB.out.isSome (by omega)
              have HSU := Lib.hid (mdB0_succ A lb i hlt)
              have HLE := Lib.hid (mdB0_len A lb i)
              generalize at_ lb i = x at *
              generalize mdB0 A (lb.take i) = cur at *
              have HO := Lib.hid hO
              clear hO
              go_wp2_with (at_builtin; refine wp_app tyS rfl _ _ rfl (HO.out.alloc _) rfl rfl (rd_new 31 1 _ [.int .u16 (sv (x &&& A))] 1 (by decide) rfl) (fun u hu => by rw [List.mem_singleton.1 hu]; rfl) (by have := HLE.out; omega) ?_)
              intro v' w1 hO1 hgr
              have HO1 := Lib.hid hO1
              clear hO1 hgr
              go_wp2_with fail
              go_roundw
              case rel => exact ⟨i + 1, by go_num, by omega, by omega, by rw [HSU.out, sl_append, List.length_append]; exact HO1.out⟩
              case measure => simp [RowKit.intOf]; omega
            · have HE : Hid (lb.take i = lb.take 6) := Lib.hid (by rw [show i = 6 by omega])
              have HB2 := Lib.hid (by rw [HE.out] at hO; exact hO : Own 31 1 wc wr _ (mdB0 A (lb.take 6)).length (sl (mdB0 A (lb.take 6))))
              have HXF := Lib.hid (HX.out.keep (HOF.out.2.trans hO.2))
              clear hO HE
              go_upto_region 17 with fail
              clear c4
              obtain ⟨hwR, hrm, hwZ⟩ := HRM.out
              have kd := (Keeps.refl wr).drew
              have hX := HXF.out.keep kd
              refine wp_region_held_drew (S := (fun w' => w'.cell? ⟨BX, 5, none⟩ = some (.int .u8 (kZ : Int)) ∧ w'.cell? ⟨BX, 2, none⟩ = some (.int .u8 (kR : Int)))) (by kernel_rfl) ?_ (fun hHeld => ?_)
              · exact ⟨hX.cell 5 rfl, hX.cell 2 rfl⟩
              have HOB := Lib.hid (HB2.out.keep kd)
              generalize wr.drew = V0 at *
              have HKD := Lib.hid kd
              clear kd hX
              refine wpAnyH_take (i := 0) (oi := ⟨_, _, _, _, _, _⟩) (v := ?_) rfl (by kernel_rfl) (by kernel_rfl) (by kernel_rfl) (fun _ _ _ h => h) (Or.inl ⟨by rfl, ?_⟩) (by assumption) ?_
              rotate_left 1
              · intro w hSw; (try dsimp only at hSw); go_simp <;> with_reducible rfl
              (try simp only [Act.put]); (try simp only [List.setIfInBounds_toArray]); (try simp only [List.set_cons_succ]); (try simp only [List.set_cons_zero])
              refine wpAnyH_take (i := 1) (oi := ⟨_, _, _, _, _, _⟩) (v := ?_) rfl (by kernel_rfl) (by kernel_rfl) (by kernel_rfl) (fun _ _ _ h => h) (Or.inl ⟨by rfl, ?_⟩) (by assumption) ?_
              rotate_left 1
              · intro w hSw; (try dsimp only at hSw); go_simp <;> with_reducible rfl
              (try simp only [Act.put]); (try simp only [List.setIfInBounds_toArray]); (try simp only [List.set_cons_succ]); (try simp only [List.set_cons_zero])
              refine wpAnyH_take (i := 2) (oi := ⟨_, _, _, _, _, _⟩) (v := ?_) rfl (by kernel_rfl) (by kernel_rfl) (by kernel_rfl) (fun _ _ _ h => h) (Or.inl ⟨by rfl, ?_⟩) (by assumption) ?_
              rotate_left 1
              · intro w hSw; (try dsimp only at hSw); go_simp <;> with_reducible rfl
              (try simp only [Act.put]); (try simp only [List.setIfInBounds_toArray]); (try simp only [List.set_cons_succ]); (try simp only [List.set_cons_zero])
              refine wpAnyH_take (i := 3) (oi := ⟨_, _, _, _, _, _⟩) (v := ?_) rfl (by kernel_rfl) (by kernel_rfl) (by kernel_rfl) (fun _ _ _ h => h) (Or.inl ⟨by rfl, ?_⟩) (by assumption) ?_
              rotate_left 1
              · intro w hSw; (try dsimp only at hSw); go_simp <;> with_reducible rfl
              (try simp only [Act.put]); (try simp only [List.setIfInBounds_toArray]); (try simp only [List.set_cons_succ]); (try simp only [List.set_cons_zero])
              refine wpAnyH_take (i := 4) (oi := ⟨_, _, _, _, _, _⟩) (v := ?_) rfl (by kernel_rfl) (by kernel_rfl) (by kernel_rfl) (fun _ _ _ h => h) (Or.inl ⟨by rfl, ?_⟩) (by assumption) ?_
              rotate_left 1
              · intro w hSw; (try dsimp only at hSw); go_simp <;> with_reducible rfl
              (try simp only [Act.put]); (try simp only [List.setIfInBounds_toArray]); (try simp only [List.set_cons_succ]); (try simp only [List.set_cons_zero])
              refine wpAnyH_take (i := 5) (oi := ⟨_, _, _, _, _, _⟩) (v := ?_) rfl (by kernel_rfl) (by kernel_rfl) (by kernel_rfl) (fun _ _ _ h => h) (Or.inl ⟨by rfl, ?_⟩) (by assumption) ?_
              rotate_left 1
              · intro w hSw; (try dsimp only at hSw); go_simp <;> with_reducible rfl
              (try simp only [Act.put]); (try simp only [List.setIfInBounds_toArray]); (try simp only [List.set_cons_succ]); (try simp only [List.set_cons_zero])
              refine wpAnyH_take (i := 6) (oi := ⟨_, _, _, _, _, _⟩) (v := ?_) rfl (by kernel_rfl) (by kernel_rfl) (by kernel_rfl) (fun _ _ _ h => h) (Or.inl ⟨by rfl, ?_⟩) (by assumption) ?_
              rotate_left 1
              · intro w hSw; (try dsimp only at hSw); go_simp <;> with_reducible rfl
              (try simp only [Act.put]); (try simp only [List.setIfInBounds_toArray]); (try simp only [List.set_cons_succ]); (try simp only [List.set_cons_zero])
              refine wpAnyH_take (i := 7) (oi := ⟨_, _, _, _, _, _⟩) (v := ?_) rfl (by kernel_rfl) (by kernel_rfl) (by kernel_rfl) (fun _ _ _ h => h) (Or.inl ⟨by rfl, ?_⟩) (by assumption) ?_
              rotate_left 1
              · intro w hSw; (try dsimp only at hSw); go_simp <;> with_reducible rfl
              (try simp only [Act.put]); (try simp only [List.setIfInBounds_toArray]); (try simp only [List.set_cons_succ]); (try simp only [List.set_cons_zero])
              refine wpAnyH_take (i := 8) (oi := ⟨_, _, _, _, _, _⟩) (v := ?_) rfl (by kernel_rfl) (by kernel_rfl) (by kernel_rfl) (fun _ _ _ h => h) (Or.inl ⟨by rfl, ?_⟩) (by assumption) ?_
              rotate_left 1
              · intro w hSw; (try dsimp only at hSw); go_simp <;> with_reducible rfl
              (try simp only [Act.put]); (try simp only [List.setIfInBounds_toArray]); (try simp only [List.set_cons_succ]); (try simp only [List.set_cons_zero])
              refine wpAnyH_take (i := 9) (oi := ⟨_, _, _, _, _, _⟩) (v := ?_) rfl (by kernel_rfl) (by kernel_rfl) (by kernel_rfl) (fun _ _ _ h => h) (Or.inl ⟨by rfl, ?_⟩) (by assumption) ?_
              rotate_left 1
              · intro w hSw; (try dsimp only at hSw); go_simp <;> with_reducible rfl
              (try simp only [Act.put]); (try simp only [List.setIfInBounds_toArray]); (try simp only [List.set_cons_succ]); (try simp only [List.set_cons_zero])
              refine wpAnyH_take (i := 10) (oi := ⟨_, _, _, _, _, _⟩) (v := ?_) rfl (by kernel_rfl) (by kernel_rfl) (by kernel_rfl) (fun _ _ _ h => h) (Or.inl ⟨by rfl, ?_⟩) (by assumption) ?_
              rotate_left 1
              · intro w hSw; (try dsimp only at hSw); go_simp <;> with_reducible rfl
              (try simp only [Act.put]); (try simp only [List.setIfInBounds_toArray]); (try simp only [List.set_cons_succ]); (try simp only [List.set_cons_zero])
              refine wpAnyH_take (i := 11) (oi := ⟨_, _, _, _, _, _⟩) (v := ?_) rfl (by kernel_rfl) (by kernel_rfl) (by kernel_rfl) (fun _ _ _ h => h) (Or.inl ⟨by rfl, ?_⟩) (by assumption) ?_
              rotate_left 1
              · intro w hSw; (try dsimp only at hSw); go_simp <;> with_reducible rfl
              (try simp only [Act.put]); (try simp only [List.setIfInBounds_toArray]); (try simp only [List.set_cons_succ]); (try simp only [List.set_cons_zero])
              refine wpAnyH_take (i := 12) (oi := ⟨_, _, _, _, _, _⟩) (v := ?_) rfl (by kernel_rfl) (by kernel_rfl) (by kernel_rfl) (fun _ _ _ h => h) (Or.inl ⟨by rfl, ?_⟩) (by assumption) ?_
              rotate_left 1
              · intro w hSw; (try dsimp only at hSw); go_simp <;> with_reducible rfl
              (try simp only [Act.put]); (try simp only [List.setIfInBounds_toArray]); (try simp only [List.set_cons_succ]); (try simp only [List.set_cons_zero])
              refine wpAnyH_take (i := 13) (oi := ⟨_, _, _, _, _, _⟩) (v := ?_) rfl (by kernel_rfl) (by kernel_rfl) (by kernel_rfl) (fun _ _ _ h => h) (Or.inl ⟨by rfl, ?_⟩) (by assumption) ?_
              rotate_left 1
              · intro w hSw; (try dsimp only at hSw); go_simp <;> with_reducible rfl
              (try simp only [Act.put]); (try simp only [List.setIfInBounds_toArray]); (try simp only [List.set_cons_succ]); (try simp only [List.set_cons_zero])
              refine wpAnyH_take (i := 14) (oi := ⟨_, _, _, _, _, _⟩) (v := ?_) rfl (by kernel_rfl) (by kernel_rfl) (by kernel_rfl) (fun _ _ _ h => h) (Or.inl ⟨by rfl, ?_⟩) (by assumption) ?_
              rotate_left 1
              · intro w hSw; (try dsimp only at hSw); go_simp <;> with_reducible rfl
              (try simp only [Act.put]); (try simp only [List.setIfInBounds_toArray]); (try simp only [List.set_cons_succ]); (try simp only [List.set_cons_zero])
              refine wpAnyH_take (i := 15) (oi := ⟨_, _, _, _, _, _⟩) (v := ?_) rfl (by kernel_rfl) (by kernel_rfl) (by kernel_rfl) (fun _ _ _ h => h) (Or.inl ⟨by rfl, ?_⟩) (by assumption) ?_
              rotate_left 1
              · intro w hSw; (try dsimp only at hSw); go_simp <;> with_reducible rfl
              (try simp only [Act.put]); (try simp only [List.setIfInBounds_toArray]); (try simp only [List.set_cons_succ]); (try simp only [List.set_cons_zero])
              refine wpAnyH_take (i := 16) (oi := ⟨_, _, _, _, _, _⟩) (v := ?_) rfl (by kernel_rfl) (by kernel_rfl) (by kernel_rfl) (fun _ _ _ h => h) (Or.inl ⟨by rfl, ?_⟩) (by assumption) ?_
              rotate_left 1
              · intro w hSw; (try dsimp only at hSw); go_simp <;> with_reducible rfl
              (try simp only [Act.put]); (try simp only [List.setIfInBounds_toArray]); (try simp only [List.set_cons_succ]); (try simp only [List.set_cons_zero])
              refine wpAnyH_take (i := 17) (oi := ⟨_, _, _, _, _, _⟩) (v := ?_) rfl (by kernel_rfl) (by kernel_rfl) (by kernel_rfl) (fun _ _ _ h => h) (Or.inl ⟨by rfl, ?_⟩) (by assumption) ?_
              rotate_left 1
              · intro w hSw; (try dsimp only at hSw); go_simp <;> with_reducible rfl
              (try simp only [Act.put]); (try simp only [List.setIfInBounds_toArray]); (try simp only [List.set_cons_succ]); (try simp only [List.set_cons_zero])
              refine wpAnyH_done (by kernel_rfl) ?_ _
              go_wp2_with fail
              refine bodyPost_ret (results_5 rfl _ _ _) rfl ?_
              refine ⟨_, _, rfl, (HOF.out.keep (HB2.out.2.trans HKD.out)).since HK.out, ?_⟩
              rw [HBQ.out]
              exact HOB.out.since (HK.out.trans HOF.out.2)
          · have HE : Hid (lb.take i = lb.take 6) := Lib.hid (by rw [List.take_of_length_le (by omega), List.take_of_length_le (by omega)])
            have HB2 := Lib.hid (by rw [HE.out] at hO; exact hO : Own 31 1 wc wr _ (mdB0 A (lb.take 6)).length (sl (mdB0 A (lb.take 6))))
            have HXF := Lib.hid (HX.out.keep (HOF.out.2.trans hO.2))
            clear hO HE
            go_upto_region 17 with fail
            clear c4
            obtain ⟨hwR, hrm, hwZ⟩ := HRM.out
            have kd := (Keeps.refl wr).drew
            have hX := HXF.out.keep kd
            refine wp_region_held_drew (S := (fun w' => w'.cell? ⟨BX, 5, none⟩ = some (.int .u8 (kZ : Int)) ∧ w'.cell? ⟨BX, 2, none⟩ = some (.int .u8 (kR : Int)))) (by kernel_rfl) ?_ (fun hHeld => ?_)
            · exact ⟨hX.cell 5 rfl, hX.cell 2 rfl⟩
            have HOB := Lib.hid (HB2.out.keep kd)
            generalize wr.drew = V0 at *
            have HKD := Lib.hid kd
            clear kd hX
            refine wpAnyH_take (i := 0) (oi := ⟨_, _, _, _, _, _⟩) (v := ?_) rfl (by kernel_rfl) (by kernel_rfl) (by kernel_rfl) (fun _ _ _ h => h) (Or.inl ⟨by rfl, ?_⟩) (by assumption) ?_
            rotate_left 1
            · intro w hSw; (try dsimp only at hSw); go_simp <;> with_reducible rfl
            (try simp only [Act.put]); (try simp only [List.setIfInBounds_toArray]); (try simp only [List.set_cons_succ]); (try simp only [List.set_cons_zero])
            refine wpAnyH_take (i := 1) (oi := ⟨_, _, _, _, _, _⟩) (v := ?_) rfl (by kernel_rfl) (by kernel_rfl) (by kernel_rfl) (fun _ _ _ h => h) (Or.inl ⟨by rfl, ?_⟩) (by assumption) ?_
            rotate_left 1
            · intro w hSw; (try dsimp only at hSw); go_simp <;> with_reducible rfl
            (try simp only [Act.put]); (try simp only [List.setIfInBounds_toArray]); (try simp only [List.set_cons_succ]); (try simp only [List.set_cons_zero])
            refine wpAnyH_take (i := 2) (oi := ⟨_, _, _, _, _, _⟩) (v := ?_) rfl (by kernel_rfl) (by kernel_rfl) (by kernel_rfl) (fun _ _ _ h => h) (Or.inl ⟨by rfl, ?_⟩) (by assumption) ?_
            rotate_left 1
            · intro w hSw; (try dsimp only at hSw); go_simp <;> with_reducible rfl
            (try simp only [Act.put]); (try simp only [List.setIfInBounds_toArray]); (try simp only [List.set_cons_succ]); (try simp only [List.set_cons_zero])
            refine wpAnyH_take (i := 3) (oi := ⟨_, _, _, _, _, _⟩) (v := ?_) rfl (by kernel_rfl) (by kernel_rfl) (by kernel_rfl) (fun _ _ _ h => h) (Or.inl ⟨by rfl, ?_⟩) (by assumption) ?_
            rotate_left 1
            · intro w hSw; (try dsimp only at hSw); go_simp <;> with_reducible rfl
            (try simp only [Act.put]); (try simp only [List.setIfInBounds_toArray]); (try simp only [List.set_cons_succ]); (try simp only [List.set_cons_zero])
            refine wpAnyH_take (i := 4) (oi := ⟨_, _, _, _, _, _⟩) (v := ?_) rfl (by kernel_rfl) (by kernel_rfl) (by kernel_rfl) (fun _ _ _ h => h) (Or.inl ⟨by rfl, ?_⟩) (by assumption) ?_
            rotate_left 1
            · intro w hSw; (try dsimp only at hSw); go_simp <;> with_reducible rfl
            (try simp only [Act.put]); (try simp only [List.setIfInBounds_toArray]); (try simp only [List.set_cons_succ]); (try simp only [List.set_cons_zero])
            refine wpAnyH_take (i := 5) (oi := ⟨_, _, _, _, _, _⟩) (v := ?_) rfl (by kernel_rfl) (by kernel_rfl) (by kernel_rfl) (fun _ _ _ h => h) (Or.inl ⟨by rfl, ?_⟩) (by assumption) ?_
            rotate_left 1
            · intro w hSw; (try dsimp only at hSw); go_simp <;> with_reducible rfl
            (try simp only [Act.put]); (try simp only [List.setIfInBounds_toArray]); (try simp only [List.set_cons_succ]); (try simp only [List.set_cons_zero])
            refine wpAnyH_take (i := 6) (oi := ⟨_, _, _, _, _, _⟩) (v := ?_) rfl (by kernel_rfl) (by kernel_rfl) (by kernel_rfl) (fun _ _ _ h => h) (Or.inl ⟨by rfl, ?_⟩) (by assumption) ?_
            rotate_left 1
            · intro w hSw; (try dsimp only at hSw); go_simp <;> with_reducible rfl
            (try simp only [Act.put]); (try simp only [List.setIfInBounds_toArray]); (try simp only [List.set_cons_succ]); (try simp only [List.set_cons_zero])
            refine wpAnyH_take (i := 7) (oi := ⟨_, _, _, _, _, _⟩) (v := ?_) rfl (by kernel_rfl) (by kernel_rfl) (by kernel_rfl) (fun _ _ _ h => h) (Or.inl ⟨by rfl, ?_⟩) (by assumption) ?_
            rotate_left 1
            · intro w hSw; (try dsimp only at hSw); go_simp <;> with_reducible rfl
            (try simp only [Act.put]); (try simp only [List.setIfInBounds_toArray]); (try simp only [List.set_cons_succ]); (try simp only [List.set_cons_zero])
            refine wpAnyH_take (i := 8) (oi := ⟨_, _, _, _, _, _⟩) (v := ?_) rfl (by kernel_rfl) (by kernel_rfl) (by kernel_rfl) (fun _ _ _ h => h) (Or.inl ⟨by rfl, ?_⟩) (by assumption) ?_
            rotate_left 1
            · intro w hSw; (try dsimp only at hSw); go_simp <;> with_reducible rfl
            (try simp only [Act.put]); (try simp only [List.setIfInBounds_toArray]); (try simp only [List.set_cons_succ]); (try simp only [List.set_cons_zero])
            refine wpAnyH_take (i := 9) (oi := ⟨_, _, _, _, _, _⟩) (v := ?_) rfl (by kernel_rfl) (by kernel_rfl) (by kernel_rfl) (fun _ _ _ h => h) (Or.inl ⟨by rfl, ?_⟩) (by assumption) ?_
            rotate_left 1
            · intro w hSw; (try dsimp only at hSw); go_simp <;> with_reducible rfl
            (try simp only [Act.put]); (try simp only [List.setIfInBounds_toArray]); (try simp only [List.set_cons_succ]); (try simp only [List.set_cons_zero])
            refine wpAnyH_take (i := 10) (oi := ⟨_, _, _, _, _, _⟩) (v := ?_) rfl (by kernel_rfl) (by kernel_rfl) (by kernel_rfl) (fun _ _ _ h => h) (Or.inl ⟨by rfl, ?_⟩) (by assumption) ?_
            rotate_left 1
            · intro w hSw; (try dsimp only at hSw); go_simp <;> with_reducible rfl
            (try simp only [Act.put]); (try simp only [List.setIfInBounds_toArray]); (try simp only [List.set_cons_succ]); (try simp only [List.set_cons_zero])
            refine wpAnyH_take (i := 11) (oi := ⟨_, _, _, _, _, _⟩) (v := ?_) rfl (by kernel_rfl) (by kernel_rfl) (by kernel_rfl) (fun _ _ _ h => h) (Or.inl ⟨by rfl, ?_⟩) (by assumption) ?_
            rotate_left 1
            · intro w hSw; (try dsimp only at hSw); go_simp <;> with_reducible rfl
            (try simp only [Act.put]); (try simp only [List.setIfInBounds_toArray]); (try simp only [List.set_cons_succ]); (try simp only [List.set_cons_zero])
            refine wpAnyH_take (i := 12) (oi := ⟨_, _, _, _, _, _⟩) (v := ?_) rfl (by kernel_rfl) (by kernel_rfl) (by kernel_rfl) (fun _ _ _ h => h) (Or.inl ⟨by rfl, ?_⟩) (by assumption) ?_
            rotate_left 1
            · intro w hSw; (try dsimp only at hSw); go_simp <;> with_reducible rfl
            (try simp only [Act.put]); (try simp only [List.setIfInBounds_toArray]); (try simp only [List.set_cons_succ]); (try simp only [List.set_cons_zero])
            refine wpAnyH_take (i := 13) (oi := ⟨_, _, _, _, _, _⟩) (v := ?_) rfl (by kernel_rfl) (by kernel_rfl) (by kernel_rfl) (fun _ _ _ h => h) (Or.inl ⟨by rfl, ?_⟩) (by assumption) ?_
            rotate_left 1
            · intro w hSw; (try dsimp only at hSw); go_simp <;> with_reducible rfl
            (try simp only [Act.put]); (try simp only [List.setIfInBounds_toArray]); (try simp only [List.set_cons_succ]); (try simp only [List.set_cons_zero])
            refine wpAnyH_take (i := 14) (oi := ⟨_, _, _, _, _, _⟩) (v := ?_) rfl (by kernel_rfl) (by kernel_rfl) (by kernel_rfl) (fun _ _ _ h => h) (Or.inl ⟨by rfl, ?_⟩) (by assumption) ?_
            rotate_left 1
            · intro w hSw; (try dsimp only at hSw); go_simp <;> with_reducible rfl
            (try simp only [Act.put]); (try simp only [List.setIfInBounds_toArray]); (try simp only [List.set_cons_succ]); (try simp only [List.set_cons_zero])
            refine wpAnyH_take (i := 15) (oi := ⟨_, _, _, _, _, _⟩) (v := ?_) rfl (by kernel_rfl) (by kernel_rfl) (by kernel_rfl) (fun _ _ _ h => h) (Or.inl ⟨by rfl, ?_⟩) (by assumption) ?_
            rotate_left 1
            · intro w hSw; (try dsimp only at hSw); go_simp <;> with_reducible rfl
            (try simp only [Act.put]); (try simp only [List.setIfInBounds_toArray]); (try simp only [List.set_cons_succ]); (try simp only [List.set_cons_zero])
            refine wpAnyH_take (i := 16) (oi := ⟨_, _, _, _, _, _⟩) (v := ?_) rfl (by kernel_rfl) (by kernel_rfl) (by kernel_rfl) (fun _ _ _ h => h) (Or.inl ⟨by rfl, ?_⟩) (by assumption) ?_
            rotate_left 1
            · intro w hSw; (try dsimp only at hSw); go_simp <;> with_reducible rfl
            (try simp only [Act.put]); (try simp only [List.setIfInBounds_toArray]); (try simp only [List.set_cons_succ]); (try simp only [List.set_cons_zero])
            refine wpAnyH_take (i := 17) (oi := ⟨_, _, _, _, _, _⟩) (v := ?_) rfl (by kernel_rfl) (by kernel_rfl) (by kernel_rfl) (fun _ _ _ h => h) (Or.inl ⟨by rfl, ?_⟩) (by assumption) ?_
            rotate_left 1
            · intro w hSw; (try dsimp only at hSw); go_simp <;> with_reducible rfl
            (try simp only [Act.put]); (try simp only [List.setIfInBounds_toArray]); (try simp only [List.set_cons_succ]); (try simp only [List.set_cons_zero])
            refine wpAnyH_done (by kernel_rfl) ?_ _
            go_wp2_with fail
            refine bodyPost_ret (results_5 rfl _ _ _) rfl ?_
            refine ⟨_, _, rfl, (HOF.out.keep (HB2.out.2.trans HKD.out)).since HK.out, ?_⟩
            rw [HBQ.out]
            exact HOB.out.since (HK.out.trans HOF.out.2)
    · have HE : Hid (lf.take j = lf.take 6) := Lib.hid (by rw [List.take_of_length_le (by omega), List.take_of_length_le (by omega)])
      have hle : (mdF0 A (lf.take j)).length ≤ 6 := Nat.le_trans (mdF0_len A lf j) hj2
      rw [HE.out] at hO hle
      obtain ⟨a4, c4, rfl, hr4⟩ := hO.rd
      have hcl := refLeast_any a4 _ c4 (mdF0 A (lf.take 6)) wr hr4 (by omega)
      have HCL := Lib.hid hcl
      have HKR := Lib.hid hO.2
      clear hcl hr4 hO hle HE
      go_wp2_with fail
      refine HCL.out.mono ?_
      rintro e w5 ⟨u5, rfl, hO5⟩
      have HO5 := Lib.hid (hO5.since HKR.out)
      have HK5 := Lib.hid (HKR.out.trans hO5.2)
      clear hO5 HCL HKR c3
      have c1 := (HX.out.keep HK5.out).cell 1 (v := .int .u8 kS) rfl
      go_upto_if 50 with fail
      clear c1
      go_cut [9] (fun s9 wx => Own 31 1 wA wx s9 FX.length (sl FX))
      case first =>
        have c1 := (HX.out.keep HK5.out).cell 1 (v := .int .u8 kS) rfl
        by_cases hs0 : kS = 0
        · have HF0 : Hid (FX = refLeast (mdF0 A (lf.take 6))) := Lib.hid (by rw [HFX.out, if_pos hs0])
          have hsb : (((kS : Nat) : Int) != 0) = false := by rw [hs0]; rfl
          clear hs0
          go_wp2_with fail
          go_meet
          case rel => rw [HF0.out]; exact HO5.out
        · have HF0 : Hid (FX = chooseA A (1 + kS % n)) := Lib.hid (by rw [HFX.out, if_neg hs0])
          have hsb : (((kS : Nat) : Int) != 0) = true := by rw [bne_iff_ne]; omega
          have hch := choose7_any A (1 + kS % n) w5
          rw [← HF0.out] at hch
          have e6 : (1 : Int) + (kS : Int) % (n : Int) = ((1 + kS % n : Nat) : Int) := by omega
          rw [← e6] at hch
          have HCH := Lib.hid hch
          have e5 : ((kS : Int).tmod (n : Int)) = ((kS % n : Nat) : Int) := by rw [Int.tmod_eq_emod_of_nonneg (by omega)]; omega
          have hlt5 : kS % n < n := Nat.mod_lt _ (by omega)
          clear hch e6
          go_wp2_with fail
          refine HCH.out.mono ?_
          rintro e w6 ⟨v6, rfl, hO6⟩
          have HO6 := Lib.hid (hO6.since HK5.out)
          clear hO6 HCH hlt5 e5
          go_wp2_with fail
          go_meet
          case rel => exact HO6.out
      case rest =>
      have HOF := Lib.hid hcut
      clear HO5 HK5 hcut
      go_wp2_with fail
      go_loopw [10, 13] (fun s10 s13 wr => ∃ j : Nat, s13 = .int .i64 j ∧ j ≤ lb.length ∧ j ≤ 6 ∧ Own 31 1 wc wr s10 (mdB0 A (lb.take j)).length (sl (mdB0 A (lb.take j)))) (fun _ s13 _ => 6 - (RowKit.intOf s13).toNat)
      case atStart => exact ⟨0, rfl, by omega, by omega, .nil _ _ (Keeps.refl _)⟩
      case round =>
        obtain ⟨i, rfl, hi1, hi2, hO⟩ := hrel
        have c4 := (HX.out.keep (HOF.out.2.trans hO.2)).cell 4 (v := .slice ba lb.length bc) rfl
        by_cases hlt : i < lb.length
        · by_cases hl6 : i < 6
          · have g0 := (HB.out.keep (HOF.out.2.trans hO.2)).at hlt
            have hao := HB.out.isSome (by omega)
            have HSU := Lib.hid (mdB0_succ A lb i hlt)
            have HLE := Lib.hid (mdB0_len A lb i)
            generalize at_ lb i = x at *
            generalize mdB0 A (lb.take i) = cur at *
            have HO := Lib.hid hO
            clear hO
            go_wp2_with (at_builtin; refine wp_app tyS rfl _ _ rfl (HO.out.alloc _) rfl rfl (rd_new 31 1 _ [.int .u16 (sv (x &&& A))] 1 (by decide) rfl) (fun u hu => by rw [List.mem_singleton.1 hu]; rfl) (by have := HLE.out; omega) ?_)
            intro v' w1 hO1 hgr
            have HO1 := Lib.hid hO1
            clear hO1 hgr
            go_wp2_with fail
            go_roundw
            case rel => exact ⟨i + 1, by go_num, by omega, by omega, by rw [HSU.out, sl_append, List.length_append]; exact HO1.out⟩
            case measure => simp [RowKit.intOf]; omega
          · have HE : Hid (lb.take i = lb.take 6) := Lib.hid (by rw [show i = 6 by omega])
            have HB2 := Lib.hid (by rw [HE.out] at hO; exact hO : Own 31 1 wc wr _ (mdB0 A (lb.take 6)).length (sl (mdB0 A (lb.take 6))))
            have HXF := Lib.hid (HX.out.keep (HOF.out.2.trans hO.2))
            clear hO HE
            go_upto_region 17 with fail
            clear c4
            obtain ⟨hwR, hrm, hwZ⟩ := HRM.out
            have kd := (Keeps.refl wr).drew
            have hX := HXF.out.keep kd
            refine wp_region_held_drew (S := (fun w' => w'.cell? ⟨BX, 5, none⟩ = some (.int .u8 (kZ : Int)) ∧ w'.cell? ⟨BX, 2, none⟩ = some (.int .u8 (kR : Int)))) (by kernel_rfl) ?_ (fun hHeld => ?_)
            · exact ⟨hX.cell 5 rfl, hX.cell 2 rfl⟩
            have HOB := Lib.hid (HB2.out.keep kd)
            generalize wr.drew = V0 at *
            have HKD := Lib.hid kd
            clear kd hX
            refine wpAnyH_take (i := 0) (oi := ⟨_, _, _, _, _, _⟩) (v := ?_) rfl (by kernel_rfl) (by kernel_rfl) (by kernel_rfl) (fun _ _ _ h => h) (Or.inl ⟨by rfl, ?_⟩) (by assumption) ?_
            rotate_left 1
            · intro w hSw; (try dsimp only at hSw); go_simp <;> with_reducible rfl
            (try simp only [Act.put]); (try simp only [List.setIfInBounds_toArray]); (try simp only [List.set_cons_succ]); (try simp only [List.set_cons_zero])
            refine wpAnyH_take (i := 1) (oi := ⟨_, _, _, _, _, _⟩) (v := ?_) rfl (by kernel_rfl) (by kernel_rfl) (by kernel_rfl) (fun _ _ _ h => h) (Or.inl ⟨by rfl, ?_⟩) (by assumption) ?_
            rotate_left 1
            · intro w hSw; (try dsimp only at hSw); go_simp <;> with_reducible rfl
            (try simp only [Act.put]); (try simp only [List.setIfInBounds_toArray]); (try simp only [List.set_cons_succ]); (try simp only [List.set_cons_zero])
            refine wpAnyH_take (i := 2) (oi := ⟨_, _, _, _, _, _⟩) (v := ?_) rfl (by kernel_rfl) (by kernel_rfl) (by kernel_rfl) (fun _ _ _ h => h) (Or.inl ⟨by rfl, ?_⟩) (by assumption) ?_
            rotate_left 1
            · intro w hSw; (try dsimp only at hSw); go_simp <;> with_reducible rfl
            (try simp only [Act.put]); (try simp only [List.setIfInBounds_toArray]); (try simp only [List.set_cons_succ]); (try simp only [List.set_cons_zero])
            refine wpAnyH_take (i := 3) (oi := ⟨_, _, _, _, _, _⟩) (v := ?_) rfl (by kernel_rfl) (by kernel_rfl) (by kernel_rfl) (fun _ _ _ h => h) (Or.inl ⟨by rfl, ?_⟩) (by assumption) ?_
            rotate_left 1
            · intro w hSw; (try dsimp only at hSw); go_simp <;> with_reducible rfl
            (try simp only [Act.put]); (try simp only [List.setIfInBounds_toArray]); (try simp only [List.set_cons_succ]); (try simp only [List.set_cons_zero])
            refine wpAnyH_take (i := 4) (oi := ⟨_, _, _, _, _, _⟩) (v := ?_) rfl (by kernel_rfl) (by kernel_rfl) (by kernel_rfl) (fun _ _ _ h => h) (Or.inl ⟨by rfl, ?_⟩) (by assumption) ?_
            rotate_left 1
            · intro w hSw; (try dsimp only at hSw); go_simp <;> with_reducible rfl
            (try simp only [Act.put]); (try simp only [List.setIfInBounds_toArray]); (try simp only [List.set_cons_succ]); (try simp only [List.set_cons_zero])
            refine wpAnyH_take (i := 5) (oi := ⟨_, _, _, _, _, _⟩) (v := ?_) rfl (by kernel_rfl) (by kernel_rfl) (by kernel_rfl) (fun _ _ _ h => h) (Or.inl ⟨by rfl, ?_⟩) (by assumption) ?_
            rotate_left 1
            · intro w hSw; (try dsimp only at hSw); go_simp <;> with_reducible rfl
            (try simp only [Act.put]); (try simp only [List.setIfInBounds_toArray]); (try simp only [List.set_cons_succ]); (try simp only [List.set_cons_zero])
            refine wpAnyH_take (i := 6) (oi := ⟨_, _, _, _, _, _⟩) (v := ?_) rfl (by kernel_rfl) (by kernel_rfl) (by kernel_rfl) (fun _ _ _ h => h) (Or.inl ⟨by rfl, ?_⟩) (by assumption) ?_
            rotate_left 1
            · intro w hSw; (try dsimp only at hSw); go_simp <;> with_reducible rfl
            (try simp only [Act.put]); (try simp only [List.setIfInBounds_toArray]); (try simp only [List.set_cons_succ]); (try simp only [List.set_cons_zero])
            refine wpAnyH_take (i := 7) (oi := ⟨_, _, _, _, _, _⟩) (v := ?_) rfl (by kernel_rfl) (by kernel_rfl) (by kernel_rfl) (fun _ _ _ h => h) (Or.inl ⟨by rfl, ?_⟩) (by assumption) ?_
            rotate_left 1
            · intro w hSw; (try dsimp only at hSw); go_simp <;> with_reducible rfl
            (try simp only [Act.put]); (try simp only [List.setIfInBounds_toArray]); (try simp only [List.set_cons_succ]); (try simp only [List.set_cons_zero])
            refine wpAnyH_take (i := 8) (oi := ⟨_, _, _, _, _, _⟩) (v := ?_) rfl (by kernel_rfl) (by kernel_rfl) (by kernel_rfl) (fun _ _ _ h => h) (Or.inl ⟨by rfl, ?_⟩) (by assumption) ?_
            rotate_left 1
            · intro w hSw; (try dsimp only at hSw); go_simp <;> with_reducible rfl
            (try simp only [Act.put]); (try simp only [List.setIfInBounds_toArray]); (try simp only [List.set_cons_succ]); (try simp only [List.set_cons_zero])
            refine wpAnyH_take (i := 9) (oi := ⟨_, _, _, _, _, _⟩) (v := ?_) rfl (by kernel_rfl) (by kernel_rfl) (by kernel_rfl) (fun _ _ _ h => h) (Or.inl ⟨by rfl, ?_⟩) (by assumption) ?_
            rotate_left 1
            · intro w hSw; (try dsimp only at hSw); go_simp <;> with_reducible rfl
            (try simp only [Act.put]); (try simp only [List.setIfInBounds_toArray]); (try simp only [List.set_cons_succ]); (try simp only [List.set_cons_zero])
            refine wpAnyH_take (i := 10) (oi := ⟨_, _, _, _, _, _⟩) (v := ?_) rfl (by kernel_rfl) (by kernel_rfl) (by kernel_rfl) (fun _ _ _ h => h) (Or.inl ⟨by rfl, ?_⟩) (by assumption) ?_
            rotate_left 1
            · intro w hSw; (try dsimp only at hSw); go_simp <;> with_reducible rfl
            (try simp only [Act.put]); (try simp only [List.setIfInBounds_toArray]); (try simp only [List.set_cons_succ]); (try simp only [List.set_cons_zero])
            refine wpAnyH_take (i := 11) (oi := ⟨_, _, _, _, _, _⟩) (v := ?_) rfl (by kernel_rfl) (by kernel_rfl) (by kernel_rfl) (fun _ _ _ h => h) (Or.inl ⟨by rfl, ?_⟩) (by assumption) ?_
            rotate_left 1
            · intro w hSw; (try dsimp only at hSw); go_simp <;> with_reducible rfl
            (try simp only [Act.put]); (try simp only [List.setIfInBounds_toArray]); (try simp only [List.set_cons_succ]); (try simp only [List.set_cons_zero])
            refine wpAnyH_take (i := 12) (oi := ⟨_, _, _, _, _, _⟩) (v := ?_) rfl (by kernel_rfl) (by kernel_rfl) (by kernel_rfl) (fun _ _ _ h => h) (Or.inl ⟨by rfl, ?_⟩) (by assumption) ?_
            rotate_left 1
            · intro w hSw; (try dsimp only at hSw); go_simp <;> with_reducible rfl
            (try simp only [Act.put]); (try simp only [List.setIfInBounds_toArray]); (try simp only [List.set_cons_succ]); (try simp only [List.set_cons_zero])
            refine wpAnyH_take (i := 13) (oi := ⟨_, _, _, _, _, _⟩) (v := ?_) rfl (by kernel_rfl) (by kernel_rfl) (by kernel_rfl) (fun _ _ _ h => h) (Or.inl ⟨by rfl, ?_⟩) (by assumption) ?_
            rotate_left 1
            · intro w hSw; (try dsimp only at hSw); go_simp <;> with_reducible rfl
            (try simp only [Act.put]); (try simp only [List.setIfInBounds_toArray]); (try simp only [List.set_cons_succ]); (try simp only [List.set_cons_zero])
            refine wpAnyH_take (i := 14) (oi := ⟨_, _, _, _, _, _⟩) (v := ?_) rfl (by kernel_rfl) (by kernel_rfl) (by kernel_rfl) (fun _ _ _ h => h) (Or.inl ⟨by rfl, ?_⟩) (by assumption) ?_
            rotate_left 1
            · intro w hSw; (try dsimp only at hSw); go_simp <;> with_reducible rfl
            (try simp only [Act.put]); (try simp only [List.setIfInBounds_toArray]); (try simp only [List.set_cons_succ]); (try simp only [List.set_cons_zero])
            refine wpAnyH_take (i := 15) (oi := ⟨_, _, _, _, _, _⟩) (v := ?_) rfl (by kernel_rfl) (by kernel_rfl) (by kernel_rfl) (fun _ _ _ h => h) (Or.inl ⟨by rfl, ?_⟩) (by assumption) ?_
            rotate_left 1
            · intro w hSw; (try dsimp only at hSw); go_simp <;> with_reducible rfl
            (try simp only [Act.put]); (try simp only [List.setIfInBounds_toArray]); (try simp only [List.set_cons_succ]); (try simp only [List.set_cons_zero])
            refine wpAnyH_take (i := 16) (oi := ⟨_, _, _, _, _, _⟩) (v := ?_) rfl (by kernel_rfl) (by kernel_rfl) (by kernel_rfl) (fun _ _ _ h => h) (Or.inl ⟨by rfl, ?_⟩) (by assumption) ?_
            rotate_left 1
            · intro w hSw; (try dsimp only at hSw); go_simp <;> with_reducible rfl
            (try simp only [Act.put]); (try simp only [List.setIfInBounds_toArray]); (try simp only [List.set_cons_succ]); (try simp only [List.set_cons_zero])
            refine wpAnyH_take (i := 17) (oi := ⟨_, _, _, _, _, _⟩) (v := ?_) rfl (by kernel_rfl) (by kernel_rfl) (by kernel_rfl) (fun _ _ _ h => h) (Or.inl ⟨by rfl, ?_⟩) (by assumption) ?_
            rotate_left 1
            · intro w hSw; (try dsimp only at hSw); go_simp <;> with_reducible rfl
            (try simp only [Act.put]); (try simp only [List.setIfInBounds_toArray]); (try simp only [List.set_cons_succ]); (try simp only [List.set_cons_zero])
            refine wpAnyH_done (by kernel_rfl) ?_ _
            go_wp2_with fail
            refine bodyPost_ret (results_5 rfl _ _ _) rfl ?_
            refine ⟨_, _, rfl, (HOF.out.keep (HB2.out.2.trans HKD.out)).since HK.out, ?_⟩
            rw [HBQ.out]
            exact HOB.out.since (HK.out.trans HOF.out.2)
        · have HE : Hid (lb.take i = lb.take 6) := Lib.hid (by rw [List.take_of_length_le (by omega), List.take_of_length_le (by omega)])
          have HB2 := Lib.hid (by rw [HE.out] at hO; exact hO : Own 31 1 wc wr _ (mdB0 A (lb.take 6)).length (sl (mdB0 A (lb.take 6))))
          have HXF := Lib.hid (HX.out.keep (HOF.out.2.trans hO.2))
          clear hO HE
          go_upto_region 17 with fail
          clear c4
          obtain ⟨hwR, hrm, hwZ⟩ := HRM.out
          have kd := (Keeps.refl wr).drew
          have hX := HXF.out.keep kd
          refine wp_region_held_drew (S := (fun w' => w'.cell? ⟨BX, 5, none⟩ = some (.int .u8 (kZ : Int)) ∧ w'.cell? ⟨BX, 2, none⟩ = some (.int .u8 (kR : Int)))) (by kernel_rfl) ?_ (fun hHeld => ?_)
          · exact ⟨hX.cell 5 rfl, hX.cell 2 rfl⟩
          have HOB := Lib.hid (HB2.out.keep kd)
          generalize wr.drew = V0 at *
          have HKD := Lib.hid kd
          clear kd hX
          refine wpAnyH_take (i := 0) (oi := ⟨_, _, _, _, _, _⟩) (v := ?_) rfl (by kernel_rfl) (by kernel_rfl) (by kernel_rfl) (fun _ _ _ h => h) (Or.inl ⟨by rfl, ?_⟩) (by assumption) ?_
          rotate_left 1
          · intro w hSw; (try dsimp only at hSw); go_simp <;> with_reducible rfl
          (try simp only [Act.put]); (try simp only [List.setIfInBounds_toArray]); (try simp only [List.set_cons_succ]); (try simp only [List.set_cons_zero])
          refine wpAnyH_take (i := 1) (oi := ⟨_, _, _, _, _, _⟩) (v := ?_) rfl (by kernel_rfl) (by kernel_rfl) (by kernel_rfl) (fun _ _ _ h => h) (Or.inl ⟨by rfl, ?_⟩) (by assumption) ?_
          rotate_left 1
          · intro w hSw; (try dsimp only at hSw); go_simp <;> with_reducible rfl
          (try simp only [Act.put]); (try simp only [List.setIfInBounds_toArray]); (try simp only [List.set_cons_succ]); (try simp only [List.set_cons_zero])
          refine wpAnyH_take (i := 2) (oi := ⟨_, _, _, _, _, _⟩) (v := ?_) rfl (by kernel_rfl) (by kernel_rfl) (by kernel_rfl) (fun _ _ _ h => h) (Or.inl ⟨by rfl, ?_⟩) (by assumption) ?_
          rotate_left 1
          · intro w hSw; (try dsimp only at hSw); go_simp <;> with_reducible rfl
          (try simp only [Act.put]); (try simp only [List.setIfInBounds_toArray]); (try simp only [List.set_cons_succ]); (try simp only [List.set_cons_zero])
          refine wpAnyH_take (i := 3) (oi := ⟨_, _, _, _, _, _⟩) (v := ?_) rfl (by kernel_rfl) (by kernel_rfl) (by kernel_rfl) (fun _ _ _ h => h) (Or.inl ⟨by rfl, ?_⟩) (by assumption) ?_
          rotate_left 1
          · intro w hSw; (try dsimp only at hSw); go_simp <;> with_reducible rfl
          (try simp only [Act.put]); (try simp only [List.setIfInBounds_toArray]); (try simp only [List.set_cons_succ]); (try simp only [List.set_cons_zero])
          refine wpAnyH_take (i := 4) (oi := ⟨_, _, _, _, _, _⟩) (v := ?_) rfl (by kernel_rfl) (by kernel_rfl) (by kernel_rfl) (fun _ _ _ h => h) (Or.inl ⟨by rfl, ?_⟩) (by assumption) ?_
          rotate_left 1
          · intro w hSw; (try dsimp only at hSw); go_simp <;> with_reducible rfl
          (try simp only [Act.put]); (try simp only [List.setIfInBounds_toArray]); (try simp only [List.set_cons_succ]); (try simp only [List.set_cons_zero])
          refine wpAnyH_take (i := 5) (oi := ⟨_, _, _, _, _, _⟩) (v := ?_) rfl (by kernel_rfl) (by kernel_rfl) (by kernel_rfl) (fun _ _ _ h => h) (Or.inl ⟨by rfl, ?_⟩) (by assumption) ?_
          rotate_left 1
          · intro w hSw; (try dsimp only at hSw); go_simp <;> with_reducible rfl
          (try simp only [Act.put]); (try simp only [List.setIfInBounds_toArray]); (try simp only [List.set_cons_succ]); (try simp only [List.set_cons_zero])
          refine wpAnyH_take (i := 6) (oi := ⟨_, _, _, _, _, _⟩) (v := ?_) rfl (by kernel_rfl) (by kernel_rfl) (by kernel_rfl) (fun _ _ _ h => h) (Or.inl ⟨by rfl, ?_⟩) (by assumption) ?_
          rotate_left 1
          · intro w hSw; (try dsimp only at hSw); go_simp <;> with_reducible rfl
          (try simp only [Act.put]); (try simp only [List.setIfInBounds_toArray]); (try simp only [List.set_cons_succ]); (try simp only [List.set_cons_zero])
          refine wpAnyH_take (i := 7) (oi := ⟨_, _, _, _, _, _⟩) (v := ?_) rfl (by kernel_rfl) (by kernel_rfl) (by kernel_rfl) (fun _ _ _ h => h) (Or.inl ⟨by rfl, ?_⟩) (by assumption) ?_
          rotate_left 1
          · intro w hSw; (try dsimp only at hSw); go_simp <;> with_reducible rfl
          (try simp only [Act.put]); (try simp only [List.setIfInBounds_toArray]); (try simp only [List.set_cons_succ]); (try simp only [List.set_cons_zero])
          refine wpAnyH_take (i := 8) (oi := ⟨_, _, _, _, _, _⟩) (v := ?_) rfl (by kernel_rfl) (by kernel_rfl) (by kernel_rfl) (fun _ _ _ h => h) (Or.inl ⟨by rfl, ?_⟩) (by assumption) ?_
          rotate_left 1
          · intro w hSw; (try dsimp only at hSw); go_simp <;> with_reducible rfl
          (try simp only [Act.put]); (try simp only [List.setIfInBounds_toArray]); (try simp only [List.set_cons_succ]); (try simp only [List.set_cons_zero])
          refine wpAnyH_take (i := 9) (oi := ⟨_, _, _, _, _, _⟩) (v := ?_) rfl (by kernel_rfl) (by kernel_rfl) (by kernel_rfl) (fun _ _ _ h => h) (Or.inl ⟨by rfl, ?_⟩) (by assumption) ?_
          rotate_left 1
          · intro w hSw; (try dsimp only at hSw); go_simp <;> with_reducible rfl
          (try simp only [Act.put]); (try simp only [List.setIfInBounds_toArray]); (try simp only [List.set_cons_succ]); (try simp only [List.set_cons_zero])
          refine wpAnyH_take (i := 10) (oi := ⟨_, _, _, _, _, _⟩) (v := ?_) rfl (by kernel_rfl) (by kernel_rfl) (by kernel_rfl) (fun _ _ _ h => h) (Or.inl ⟨by rfl, ?_⟩) (by assumption) ?_
          rotate_left 1
          · intro w hSw; (try dsimp only at hSw); go_simp <;> with_reducible rfl
          (try simp only [Act.put]); (try simp only [List.setIfInBounds_toArray]); (try simp only [List.set_cons_succ]); (try simp only [List.set_cons_zero])
          refine wpAnyH_take (i := 11) (oi := ⟨_, _, _, _, _, _⟩) (v := ?_) rfl (by kernel_rfl) (by kernel_rfl) (by kernel_rfl) (fun _ _ _ h => h) (Or.inl ⟨by rfl, ?_⟩) (by assumption) ?_
          rotate_left 1
          · intro w hSw; (try dsimp only at hSw); go_simp <;> with_reducible rfl
          (try simp only [Act.put]); (try simp only [List.setIfInBounds_toArray]); (try simp only [List.set_cons_succ]); (try simp only [List.set_cons_zero])
          refine wpAnyH_take (i := 12) (oi := ⟨_, _, _, _, _, _⟩) (v := ?_) rfl (by kernel_rfl) (by kernel_rfl) (by kernel_rfl) (fun _ _ _ h => h) (Or.inl ⟨by rfl, ?_⟩) (by assumption) ?_
          rotate_left 1
          · intro w hSw; (try dsimp only at hSw); go_simp <;> with_reducible rfl
          (try simp only [Act.put]); (try simp only [List.setIfInBounds_toArray]); (try simp only [List.set_cons_succ]); (try simp only [List.set_cons_zero])
          refine wpAnyH_take (i := 13) (oi := ⟨_, _, _, _, _, _⟩) (v := ?_) rfl (by kernel_rfl) (by kernel_rfl) (by kernel_rfl) (fun _ _ _ h => h) (Or.inl ⟨by rfl, ?_⟩) (by assumption) ?_
          rotate_left 1
          · intro w hSw; (try dsimp only at hSw); go_simp <;> with_reducible rfl
          (try simp only [Act.put]); (try simp only [List.setIfInBounds_toArray]); (try simp only [List.set_cons_succ]); (try simp only [List.set_cons_zero])
          refine wpAnyH_take (i := 14) (oi := ⟨_, _, _, _, _, _⟩) (v := ?_) rfl (by kernel_rfl) (by kernel_rfl) (by kernel_rfl) (fun _ _ _ h => h) (Or.inl ⟨by rfl, ?_⟩) (by assumption) ?_
          rotate_left 1
          · intro w hSw; (try dsimp only at hSw); go_simp <;> with_reducible rfl
          (try simp only [Act.put]); (try simp only [List.setIfInBounds_toArray]); (try simp only [List.set_cons_succ]); (try simp only [List.set_cons_zero])
          refine wpAnyH_take (i := 15) (oi := ⟨_, _, _, _, _, _⟩) (v := ?_) rfl (by kernel_rfl) (by kernel_rfl) (by kernel_rfl) (fun _ _ _ h => h) (Or.inl ⟨by rfl, ?_⟩) (by assumption) ?_
          rotate_left 1
          · intro w hSw; (try dsimp only at hSw); go_simp <;> with_reducible rfl
          (try simp only [Act.put]); (try simp only [List.setIfInBounds_toArray]); (try simp only [List.set_cons_succ]); (try simp only [List.set_cons_zero])
          refine wpAnyH_take (i := 16) (oi := ⟨_, _, _, _, _, _⟩) (v := ?_) rfl (by kernel_rfl) (by kernel_rfl) (by kernel_rfl) (fun _ _ _ h => h) (Or.inl ⟨by rfl, ?_⟩) (by assumption) ?_
          rotate_left 1
          · intro w hSw; (try dsimp only at hSw); go_simp <;> with_reducible rfl
          (try simp only [Act.put]); (try simp only [List.setIfInBounds_toArray]); (try simp only [List.set_cons_succ]); (try simp only [List.set_cons_zero])
          refine wpAnyH_take (i := 17) (oi := ⟨_, _, _, _, _, _⟩) (v := ?_) rfl (by kernel_rfl) (by kernel_rfl) (by kernel_rfl) (fun _ _ _ h => h) (Or.inl ⟨by rfl, ?_⟩) (by assumption) ?_
          rotate_left 1
          · intro w hSw; (try dsimp only at hSw); go_simp <;> with_reducible rfl
          (try simp only [Act.put]); (try simp only [List.setIfInBounds_toArray]); (try simp only [List.set_cons_succ]); (try simp only [List.set_cons_zero])
          refine wpAnyH_done (by kernel_rfl) ?_ _
          go_wp2_with fail
          refine bodyPost_ret (results_5 rfl _ _ _) rfl ?_
          refine ⟨_, _, rfl, (HOF.out.keep (HB2.out.2.trans HKD.out)).since HK.out, ?_⟩
          rw [HBQ.out]
          exact HOB.out.since (HK.out.trans HOF.out.2)
end Go.Proofs.YtijknodekomdfaaGreatDoor
