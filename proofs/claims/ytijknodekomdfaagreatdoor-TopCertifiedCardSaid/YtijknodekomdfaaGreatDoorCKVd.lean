/- Texts joined into one, what is needed of them (a program of ours). -/
import Derived.Test.YtijknodekomdfaaGreatDoorCKVc
import Derived.Test.YtijknodekomdfaaGreatDoorCKM
namespace Go.Proofs.YtijknodekomdfaaGreatDoor
open Go.RowKit Go.Lib Go.Shelf

theorem weight_any (z : NE) (k : Int) (w : World) :
    Calls Tryz.prog 237 #[.agg #[.int .i64 z.x.kd, .int .i64 z.x.sr, .int .i64 z.x.nd, .slice none 0 0, .slice z.ak z.x.ks.length z.ck], .int .i64 k] w fun e w' => e = .returned (.int .i64 1) ∧ Keeps w w' := by
  have K := (Keeps.refl w).alloc (.cells #[.int .i64 z.x.kd, .int .i64 z.x.sr, .int .i64 z.x.nd, .slice none 0 0, .slice z.ak z.x.ks.length z.ck] 194)
  have HK := Lib.hid K; clear K
  go_enter Tryz.func237, Tryz.ntmps237
  go_wp2_with fail
  go_ret
  exact ⟨rfl, HK.out⟩
/-- the cells of the array of what holds -/
def bcs (v : List Bool) : Array Value := Array.ofFn (n := 60) fun i => .bool (v.getD i.val false)
theorem bcs_at (v : List Bool) (i : Nat) (h : i < 60) : (bcs v)[i]? = some (.bool (v.getD i false)) := by
  unfold bcs; simp [h]
theorem bcs_set (v : List Bool) (b : Bool) (_h : v.length < 60) : (bcs v).setIfInBounds v.length (.bool b) = bcs (v ++ [b]) := by
  apply Array.ext
  · simp [bcs]
  · intro i h1 h2
    have hi : i < 60 := by simpa [bcs] using h2
    have e1 : ∀ (u : List Bool) (h3 : i < (bcs u).size), (bcs u)[i] = .bool (u.getD i false) := fun u h3 => by
      have h4 := bcs_at u i hi
      rw [Array.getElem?_eq_getElem h3] at h4
      exact Option.some.inj h4
    rw [Array.getElem_setIfInBounds (by simpa [bcs] using hi), e1, e1]
    by_cases e : v.length = i
    · subst e
      rw [if_pos rfl, getD_new]
    · rw [if_neg e]
      by_cases hlt : i < v.length
      · rw [getD_left false hlt]
      · rw [List.getD, List.getElem?_eq_none (by omega), List.getD, List.getElem?_eq_none (by rw [List.length_append, List.length_singleton]; omega)]
theorem bcs_nil : bcs [] = #[.bool false, .bool false, .bool false, .bool false, .bool false, .bool false, .bool false, .bool false, .bool false, .bool false, .bool false, .bool false, .bool false, .bool false, .bool false, .bool false, .bool false, .bool false, .bool false, .bool false, .bool false, .bool false, .bool false, .bool false, .bool false, .bool false, .bool false, .bool false, .bool false, .bool false, .bool false, .bool false, .bool false, .bool false, .bool false, .bool false, .bool false, .bool false, .bool false, .bool false, .bool false, .bool false, .bool false, .bool false, .bool false, .bool false, .bool false, .bool false, .bool false, .bool false, .bool false, .bool false, .bool false, .bool false, .bool false, .bool false, .bool false, .bool false, .bool false, .bool false] := rfl
theorem cntK_snoc (v : List Bool) (ks : List Nat) (k : Nat) (h : k < ks.length) : cntK v (ks.take (k + 1)) = cntK v (ks.take k) + (if v.getD (im ks k) false = true then 1 else 0) := by
  unfold cntK
  rw [getD_takeE ks k 0 h, List.filter_append, List.length_append, show ks.getD k 0 = im ks k from rfl]
  congr 1
  rw [List.filter_cons]
  cases hq : v.getD (im ks k) false <;> rfl
theorem holdsL_take (ns : List ND) (s : S) (i : Nat) (h : i < ns.length) : holdsL (ns.take (i + 1)) s = holdsL (ns.take i) s ++ [nvB s (holdsL (ns.take i) s) (ns.getD i nd9)] := by
  rw [getD_takeE ns i nd9 h, holdsL_snoc]
set_option maxHeartbeats 300000 in
theorem holds_any {x : List ND × Nat} {v : Value} (s : S) (w : World) (h : HasX w x v) (hv : VX x) :
    Calls Tryz.prog 220 #[v, .int .u16 (sv s)] w fun e w' => e = .returned (.bool (holdsV x s)) ∧ Keeps w w' := by
  obtain ⟨a, c, nes, rfl, hr, hk, hx⟩ := h
  obtain ⟨ns, root⟩ := x
  obtain ⟨v1, v2, v3⟩ := hv
  dsimp only at *
  subst hx
  rw [List.length_map] at v1 v2 v3
  have hvn : ∀ i, i < nes.length → VN i (neA nes i).x := fun i hi => by rw [neA_x]; exact v3 i hi
  have HV := Lib.hid hvn
  have HKS := Lib.hid hk
  have HR := Lib.hid hr
  have s1 := hr.small
  have hnc := hr.nc
  have hst : ∀ i, i < nes.length → holdsL ((nes.map NE.x).take (i + 1)) s = holdsL ((nes.map NE.x).take i) s ++ [nvB s (holdsL ((nes.map NE.x).take i) s) (neA nes i).x] := fun i hi => by
    rw [holdsL_take _ s i (by rw [List.length_map]; exact hi), neA_x]
  have hln : ∀ i, i ≤ nes.length → (holdsL ((nes.map NE.x).take i) s).length = i := fun i hi => by
    rw [holdsL_len, List.length_take, List.length_map]; omega
  have HST := Lib.hid hst; have HLN := Lib.hid hln
  have K1 := (Keeps.refl w).alloc (.cells #[.slice a nes.length c, .int .i64 root] 121)
  have b1 := Blk.new w 121 #[.slice a nes.length c, .int .i64 root]
  have hval : holdsV (nes.map NE.x, root) s = (holdsL ((nes.map NE.x).take (root + 1)) s).getD root false := rfl
  have HVAL := Lib.hid hval
  obtain ⟨hL, hLe⟩ : ∃ f : Nat → List Bool, ∀ i, f i = holdsL ((nes.map NE.x).take i) s := ⟨_, fun _ => rfl⟩
  simp only [← hLe] at hst hln hval
  have HST := Lib.hid hst; have HLN := Lib.hid hln; have HVAL := Lib.hid hval
  have HL0 : Hid (hL 0 = []) := Lib.hid (by rw [hLe, List.take_zero]; rfl)
  have B1 := Lib.hid b1; have HK1 := Lib.hid K1
  obtain ⟨W1, hW1⟩ : ∃ W, W = w.alloc (.cells #[.slice a nes.length c, .int .i64 root] 121) := ⟨_, rfl⟩
  have hsz : W1.heap.size = w.heap.size + 1 := by rw [hW1, World.size_alloc]
  rw [← hW1] at B1 HK1
  generalize hn : nes.length = n at *
  clear hst hln hval hLe hvn hk hr v3 K1 b1 hn
  go_enter Tryz.func220, Tryz.ntmps220
  go_upto_region 2 with fail
  rw [← hW1, ← bcs_nil]
  clear hW1
  have b2 := Blk.new W1 281 (bcs [])
  have K2 := (Keeps.refl W1).alloc (.cells (bcs []) 281)
  rw [hsz] at b2
  generalize W1.alloc (.cells (bcs []) 281) = W2 at *
  have e1 := B1.out.keep K2
  have c0 : W2.cell? ⟨w.heap.size, 0, none⟩ = some (.slice a n c) := e1.cell 0 rfl
  have c1 : W2.cell? ⟨w.heap.size, 1, none⟩ = some (.int .i64 root) := e1.cell 1 rfl
  rw [← HL0.out] at b2
  have B2 := Lib.hid b2; have K2' := Lib.hid K2; have HSZ := Lib.hid hsz
  clear e1 b2 K2 hsz HL0
  go_wp2_with fail
  clear c0 c1
  go_loopw [18] (fun u wr => ∃ i : Nat, i ≤ root + 1 ∧ u = .int .i64 i ∧ Keeps W1 wr ∧ Hid (Blk wr (w.heap.size + 1) 281 (bcs (hL i)))) (fun u _ => root + 1 - (RowKit.intOf u).toNat)
  case atStart => exact ⟨0, Nat.zero_le _, rfl, K2'.out, B2⟩
  case round =>
    obtain ⟨i, hi, rfl, K, HB⟩ := hrel
    have hlL := HLN.out i (by omega)
    by_cases hlt : i < root + 1
    · have hin : i < n := by omega
      obtain ⟨g0, g1, g2, g3, g4⟩ := nel_at (HR.out.keep (HK1.out.trans K)) hin
      have hao := HR.out.isSome (by omega)
      have hvn := HV.out i hin
      have hst := HST.out i hin
      have hrk := (HKS.out _ (neA_mem (i := i) (by have := nel_rdlen HR.out; omega))).keep (HK1.out.trans K)
      generalize hL i = v at *
      generalize neA nes i = z at *
      obtain ⟨⟨kd, sr, nd, ks⟩, ak, ck⟩ := z
      unfold RdE at hrk
      dsimp only at g0 g1 g2 g3 g4 hvn hrk hst
      have HL := Lib.hid hlL
      clear hlL
      have hf : ∀ o, (wr.alloc o).frozen? ⟨w.heap.size + 1, i, none⟩ = false := fun o => (HB.out.keep ((Keeps.refl wr).alloc o)).frozen i
      have hc2 : ∀ o, (wr.alloc o).cell? ⟨w.heap.size + 1, i, none⟩ = some (.bool (v.getD i false)) := fun o => (HB.out.keep ((Keeps.refl wr).alloc o)).cell i (bcs_at _ _ (by omega))
      have HK := Lib.hid K
      clear K
      rcases hvn with ⟨rfl, v3, v4, rfl, rfl⟩ | ⟨rfl, rfl, v3, v4, v5⟩
      · obtain ⟨q, rfl⟩ := Int.eq_ofNat_of_zero_le v3
        dsimp only at v4
        have hmin : min q 16 = q := by omega
        have hnv : nvB s v ⟨1, q, 0, []⟩ = (s >>> q &&& 1#16 == 1#16) := by
          unfold nvB
          rw [if_pos rfl, hbT]
          rfl
        rw [hnv] at hst
        have HST2 := Lib.hid hst
        clear hst hnv hrk v3
        simp only [List.length_nil] at g4
        go_wp2_with fail
        go_roundw
        case rel => exact ⟨i + 1, by omega, by go_num, keeps_set (HK.out.alloc _) (Nat.le_of_eq HSZ.out) i _, Lib.hid (by rw [HST2.out, ← bcs_set _ _ (by rw [HL.out]; omega), HL.out]; exact (HB.out.keep ((Keeps.refl _).alloc _)).set i _)⟩
        case measure => simp [RowKit.intOf]; omega
      · have hnv : nvB s v ⟨2, 0, nd, ks⟩ = decide (nd ≤ (cntK v ks : Int)) := by
          unfold nvB
          rw [if_neg (by show ¬ (2 : Int) = 1; decide)]
        rw [hnv] at hst
        have HST2 := Lib.hid hst
        have hks := hrk.small
        have hcs : ∀ k, k < ks.length → cntK v (ks.take (k + 1)) = cntK v (ks.take k) + (if v.getD (im ks k) false = true then 1 else 0) := fun k hk => cntK_snoc v ks k hk
        have hcb : ∀ k, k ≤ ks.length → cntK v (ks.take k) ≤ k := fun k hk => by
          have h1 := List.length_filter_le (fun j => v.getD j false) (ks.take k)
          rw [List.length_take] at h1
          unfold cntK
          omega
        have hfull : cntK v (ks.take ks.length) = cntK v ks := by rw [List.take_length]
        have hzero : cntK v (ks.take 0) = 0 := rfl
        obtain ⟨f, hfe⟩ : ∃ f : Nat → Nat, ∀ k, f k = cntK v (ks.take k) := ⟨_, fun _ => rfl⟩
        simp only [← hfe] at hcs hcb hfull hzero
        have HCS := Lib.hid hcs; have HCB := Lib.hid hcb; have HFULL := Lib.hid hfull; have HZERO := Lib.hid hzero
        have HKA := Lib.hid hrk
        have hkm : ∀ k, k < ks.length → im ks k < i := fun k hk => v5 _ (by unfold im; exact getD_memE 0 hk)
        have HKM := Lib.hid hkm
        have hil : ∀ k, k < ks.length → (il ks)[k]? = some (.int .i64 ((im ks k : Nat) : Int)) := fun k hk => il_at ks k hk
        have HIL := Lib.hid hil
        have hw := fun (k : Int) W => weight_any ⟨⟨2, 0, nd, ks⟩, ak, ck⟩ k W
        dsimp only at hw
        have hb3 := Blk.new wr 194 #[.int .i64 2, .int .i64 0, .int .i64 nd, .slice none 0 0, .slice ak ks.length ck]
        have hk3 := (Keeps.refl wr).alloc (.cells #[.int .i64 2, .int .i64 0, .int .i64 nd, .slice none 0 0, .slice ak ks.length ck] 194)
        generalize hkn : ks.length = m at *
        have HW := Lib.hid hw
        have HB3 := Lib.hid hb3; have HK3 := Lib.hid hk3
        clear hst hnv hrk v3 v5 hcs hcb hfull hzero hfe hkm hil hw hf hc2 hkn hb3 hk3
        go_wp2_with fail
        generalize wr.alloc (.cells #[.int .i64 2, .int .i64 0, .int .i64 nd, .slice none 0 0, .slice ak m ck] 194) = W3 at *
        clear g0 g1 g2 g3 g4
        go_loopw [8, 37] (fun u y wq => ∃ k : Nat, k ≤ m ∧ y = .int .i64 k ∧ u = .int .i64 ((f k : Nat) : Int) ∧ Keeps W3 wq) (fun _ y _ => m - (RowKit.intOf y).toNat)
        case atStart => exact ⟨0, Nat.zero_le _, rfl, by rw [HZERO.out]; rfl, Keeps.refl _⟩
        case round =>
          obtain ⟨k, hk, rfl, rfl, K⟩ := hrel
          obtain ⟨d0, d1, d2, d3, d4⟩ := (HB3.out.keep K).c5
          by_cases hlk : k < m
          · have g0 := ((HKA.out.keep HK3.out).keep K).cell k _ (HIL.out k hlk)
            have hak := HKA.out.isSome (by omega)
            have hkm := HKM.out k hlk
            have c2 := ((HB.out.keep HK3.out).keep K).cell (im ks k) (bcs_at v _ (by omega))
            have hcs := HCS.out k hlk
            have hcb := HCB.out k hk
            generalize im ks k = y at *
            cases hq : v.getD y false with
            | true =>
              rw [hq] at hcs c2
              have HF := Lib.hid hcs
              clear hcs hq
              have KK := Lib.hid K
              clear K
              go_wp2_with fail
              refine (HW.out _ _).mono ?_
              rintro e w1 ⟨rfl, K2⟩
              go_wp2_with fail
              go_roundw
              case rel => exact ⟨k + 1, by omega, by go_num, by rw [HF.out]; simp, KK.out.trans K2⟩
              case measure => simp [RowKit.intOf]; omega
            | false =>
              rw [hq] at hcs c2
              have HF := Lib.hid hcs
              clear hcs hq
              have KK := Lib.hid K
              clear K
              go_wp2_with fail
              go_roundw
              case rel => exact ⟨k + 1, by omega, by go_num, by rw [HF.out]; simp, KK.out⟩
              case measure => simp [RowKit.intOf]; omega
          · obtain rfl : k = m := by omega
            rw [HFULL.out]
            have hf := ((HB.out.keep HK3.out).keep K).frozen i
            have hc2 := ((HB.out.keep HK3.out).keep K).cell i (bcs_at v _ (by omega))
            have hcb := HCB.out k hk
            rw [HFULL.out] at hcb
            generalize cntK v ks = q at *
            have KK := Lib.hid K
            clear K
            go_wp2_with fail
            go_roundw
            case rel => exact ⟨i + 1, by omega, by go_num, keeps_set ((HK.out.trans HK3.out).trans KK.out) (Nat.le_of_eq HSZ.out) i _, Lib.hid (by rw [HST2.out, ← bcs_set _ _ (by rw [HL.out]; omega), HL.out]; exact (HB.out.keep (HK3.out.trans KK.out)).set i _)⟩
            case measure => simp [RowKit.intOf]; omega
    · obtain rfl : i = root + 1 := by omega
      have b3 := B1.out.keep K
      have c1 : wr.cell? ⟨w.heap.size, 1, none⟩ = some (.int .i64 root) := b3.cell 1 rfl
      have c2 := HB.out.cell root (bcs_at _ root (by omega))
      have HK := Lib.hid (HK1.out.trans K)
      have hq := HVAL.out
      clear K b3 hlL
      generalize (hL (root + 1)).getD root false = q at *
      have HQ := Lib.hid hq
      clear hq
      go_wp2_with fail
      go_ret
      exact ⟨by rw [HQ.out]; rfl, HK.out⟩
end Go.Proofs.YtijknodekomdfaaGreatDoor
namespace Go.Proofs.YtijknodekomdfaaGreatDoor
open Go.RowKit Go.Lib Go.Shelf

theorem Blk.x2 {w : World} {B : Nat} {T : TypeId} {v0 v1 : Value} (h : Blk w B T #[v0, v1]) : (w.cell? ⟨B, 0, none⟩ = some v0 ∧ w.cell? ⟨B, 1, none⟩ = some v1) := ⟨h.cell 0 rfl, h.cell 1 rfl⟩
set_option maxRecDepth 20000 in
set_option maxHeartbeats 800000 in
theorem eval_any {x : List ND × Nat} {v : Value} (s : S) (w : World) (h : HasX w x v) (hv : VX x) (hs : small s) :
    Calls Tryz.prog 191 #[v, .int .u16 (sv s)] w fun e w' => e = .returned (.tuple #[.bool (holdsV x s), .int .i64 0]) ∧ Keeps w w' := by
  have h1 := fun W (k : Keeps w W) => valid20_any W (h.keep k) hv
  have h2 := fun W (k : Keeps w W) => holds_any s W (h.keep k) hv
  have hs2 : sv s < 4096 := by unfold small at hs; unfold sv; omega
  generalize holdsV x s = q at *
  obtain ⟨a, c, nes, rfl, _, _, _⟩ := h
  have K1 := (Keeps.refl w).alloc (.cells #[.slice a nes.length c, .int .i64 x.2] 121)
  have b1 := Blk.new w 121 #[.slice a nes.length c, .int .i64 x.2]
  generalize nes.length = n at *
  generalize ((x.2 : Nat) : Int) = r at *
  have H1 := Lib.hid h1; have H2 := Lib.hid h2; have HK := Lib.hid K1; have HB := Lib.hid b1
  obtain ⟨c0, c1⟩ := b1.x2
  clear h1 h2 K1 b1 hs hv
  go_enter Tryz.func191, Tryz.ntmps191
  go_wp2_with fail
  refine (H1.out _ HK.out).mono ?_
  rintro e w1 ⟨rfl, K2⟩
  obtain ⟨d0, d1⟩ := (HB.out.keep K2).x2
  go_wp2_with fail
  refine (H2.out _ (HK.out.trans K2)).mono ?_
  rintro e w2 ⟨rfl, K3⟩
  go_wp2_with fail
  go_ret2
  exact ⟨rfl, (HK.out.trans K2).trans K3⟩
set_option maxHeartbeats 800000 in
theorem satisfied_any {x : List ND × Nat} {v : Value} (s : S) (w : World) (h : HasX w x v) (hv : VX x) (hs : small s) :
    Calls Tryz.prog 139 #[v, .int .u16 (sv s)] w fun e w' => e = .returned (.bool (holdsV x s)) ∧ Keeps w w' := by
  have h1 := fun W (k : Keeps w W) => eval_any s W (h.keep k) hv hs
  generalize holdsV x s = q at *
  obtain ⟨a, c, nes, rfl, _, _, _⟩ := h
  have K1 := (Keeps.refl w).alloc (.cells #[.slice a nes.length c, .int .i64 x.2] 121)
  have b1 := Blk.new w 121 #[.slice a nes.length c, .int .i64 x.2]
  generalize nes.length = n at *
  generalize ((x.2 : Nat) : Int) = r at *
  have H1 := Lib.hid h1; have HK := Lib.hid K1
  obtain ⟨c0, c1⟩ := b1.x2
  clear h1 K1 b1 hs hv
  go_enter Tryz.func139, Tryz.ntmps139
  go_wp2_with fail
  refine (H1.out _ HK.out).mono ?_
  rintro e w1 ⟨rfl, K2⟩
  go_wp2_with fail
  go_ret
  exact ⟨by cases q <;> rfl, HK.out.trans K2⟩
set_option maxHeartbeats 800000 in
theorem twoX_any {x y : List ND × Nat} {u v : Value} (w : World) (hx : HasX w x u) (hy : HasX w y v) (vx : VX x) (vy : VX y) :
    Calls Tryz.prog 133 #[u, v] w fun e w' => e = .returned (.int .i64 0) ∧ Keeps w w' := by
  have h1 := fun W (k : Keeps w W) => valid20_any W (hx.keep k) vx
  have h2 := fun W (k : Keeps w W) => valid20_any W (hy.keep k) vy
  obtain ⟨a, c, nes, rfl, _, _, _⟩ := hx
  obtain ⟨a2, c2, mes, rfl, _, _, _⟩ := hy
  have hs : ∀ o, (w.alloc o).heap.size = w.heap.size + 1 := fun o => World.size_alloc ..
  have k1 := (Keeps.refl (w.alloc (.cells #[.slice a nes.length c, .int .i64 x.2] 121))).alloc (.cells #[.slice a2 mes.length c2, .int .i64 y.2] 121)
  have K1 := ((Keeps.refl w).alloc (.cells #[.slice a nes.length c, .int .i64 x.2] 121)).trans k1
  have b1 := (Blk.new w 121 #[.slice a nes.length c, .int .i64 x.2]).keep k1
  have b2 := Blk.new (w.alloc (.cells #[.slice a nes.length c, .int .i64 x.2] 121)) 121 #[.slice a2 mes.length c2, .int .i64 y.2]
  rw [hs] at b2
  generalize nes.length = n at *
  generalize mes.length = m at *
  generalize ((x.2 : Nat) : Int) = r at *
  generalize ((y.2 : Nat) : Int) = q at *
  have H1 := Lib.hid h1; have H2 := Lib.hid h2; have HK := Lib.hid K1; have HB := Lib.hid b2
  obtain ⟨c0, c1⟩ := b1.x2
  obtain ⟨c2', c3⟩ := b2.x2
  clear h1 h2 K1 k1 b1 b2 vx vy hs
  go_enter Tryz.func133, Tryz.ntmps133
  go_wp2_with fail
  refine (H1.out _ HK.out).mono ?_
  rintro e w1 ⟨rfl, K2⟩
  obtain ⟨d0, d1⟩ := (HB.out.keep K2).x2
  go_wp2_with fail
  refine (H2.out _ (HK.out.trans K2)).mono ?_
  rintro e w2 ⟨rfl, K3⟩
  go_wp2_with fail
  go_ret
  exact ⟨rfl, (HK.out.trans K2).trans K3⟩
theorem supX_take (nes : List NE) (i : Nat) (h : i < nes.length) : supX ((nes.map NE.x).take (i + 1)) = sxN (supX ((nes.map NE.x).take i)) (neA nes i).x := by
  unfold supX
  rw [getD_takeE _ i nd9 (by rw [List.length_map]; exact h), List.foldl_append, neA_x]
  rfl
set_option maxHeartbeats 1600000 in
theorem support20_any {x : List ND × Nat} {v : Value} (w : World) (h : HasX w x v) (hv : VX x) :
    Calls Tryz.prog 135 #[v] w fun e w' => e = .returned (.int .u16 (sv (supX x.1))) ∧ Keeps w w' := by
  obtain ⟨a, c, nes, rfl, hr, hk, hx⟩ := h
  obtain ⟨ns, root⟩ := x
  obtain ⟨v1, v2, v3⟩ := hv
  dsimp only at *
  subst hx
  rw [List.length_map] at v1 v2 v3
  have hvn : ∀ i, i < nes.length → VN i (neA nes i).x := fun i hi => by rw [neA_x]; exact v3 i hi
  have hst := supX_take nes
  have hfull : supX ((nes.map NE.x).take nes.length) = supX (nes.map NE.x) := by rw [List.take_of_length_le (by rw [List.length_map]; exact Nat.le_refl _)]
  have hzero : supX ((nes.map NE.x).take 0) = 0#16 := rfl
  obtain ⟨f, hfe⟩ : ∃ f : Nat → S, ∀ k, f k = supX ((nes.map NE.x).take k) := ⟨_, fun _ => rfl⟩
  simp only [← hfe] at hst hfull hzero
  have HV := Lib.hid hvn; have HST := Lib.hid hst; have HFULL := Lib.hid hfull; have HZERO := Lib.hid hzero
  have HR := Lib.hid hr
  have s1 := hr.small
  have K1 := (Keeps.refl w).alloc (.cells #[.slice a nes.length c, .int .i64 root] 121)
  have b1 := Blk.new w 121 #[.slice a nes.length c, .int .i64 root]
  have HK1 := Lib.hid K1
  obtain ⟨c0, c1⟩ := b1.x2
  generalize hn : nes.length = n at *
  clear hst hfull hzero hfe hvn hk hr v3 K1 b1 hn
  go_enter Tryz.func135, Tryz.ntmps135
  go_wp2_with fail
  generalize w.alloc (.cells #[.slice a n c, .int .i64 root] 121) = W1 at *
  clear c0 c1
  go_loopw [3, 9] (fun u y wr => ∃ i : Nat, i ≤ n ∧ y = .int .i64 i ∧ u = .int .u16 (sv (f i)) ∧ Keeps W1 wr) (fun _ y _ => n - (RowKit.intOf y).toNat)
  case atStart => exact ⟨0, Nat.zero_le _, rfl, by rw [HZERO.out]; rfl, Keeps.refl _⟩
  case round =>
    obtain ⟨i, hi, rfl, rfl, K⟩ := hrel
    by_cases hlt : i < n
    · obtain ⟨g0, g1, g2, g3, g4⟩ := nel_at (HR.out.keep (HK1.out.trans K)) hlt
      have hao := HR.out.isSome (by omega)
      have hvn := HV.out i hlt
      have hst := HST.out i hlt
      generalize neA nes i = z at *
      obtain ⟨⟨kd, sr, nd, ks⟩, ak, ck⟩ := z
      dsimp only at g0 g1 g2 g3 g4 hvn hst
      unfold sxN at hst
      dsimp only at hst
      have KK := Lib.hid K
      clear K
      generalize ks.length = m at g4
      rcases hvn with ⟨e1, v3, v4, _, _⟩ | ⟨e1, _, _, _, _⟩
      · dsimp only at e1 v3 v4
        obtain ⟨q, rfl⟩ := Int.eq_ofNat_of_zero_le v3
        subst e1
        rw [if_pos rfl, Int.toNat_natCast] at hst
        have hmin : min q 16 = q := by omega
        have HS := Lib.hid hst
        clear hst
        go_wp2_with fail
        go_roundw
        case rel => exact ⟨i + 1, by omega, by go_num, by rw [HS.out], KK.out.alloc _⟩
        case measure => simp [RowKit.intOf]; omega
      · dsimp only at e1
        subst e1
        rw [if_neg (by decide)] at hst
        have HS := Lib.hid hst
        clear hst
        go_wp2_with fail
        go_roundw
        case rel => exact ⟨i + 1, by omega, by go_num, by rw [HS.out], KK.out.alloc _⟩
        case measure => simp [RowKit.intOf]; omega
    · obtain rfl : i = n := by omega
      have KK := Lib.hid (HK1.out.trans K)
      clear K
      go_wp2_with fail
      go_ret
      exact ⟨by rw [HFULL.out]; rfl, KK.out⟩
end Go.Proofs.YtijknodekomdfaaGreatDoor
namespace Go.Proofs.YtijknodekomdfaaGreatDoor
open Go.RowKit Go.Lib Go.Shelf

theorem run_app_block {P : Program} (w : World) (base : Nat) (t ty e : TypeId) (i : TypeInfo) (z : Value) (size bytes : Nat) (ht : P.underlying t = some (.slice e)) (hi : P.info? e = some i) (hz : i.zero = some z)
    (hsize : i.size = size) (hby : i.bytes = bytes) (hzs : z.cells.size = size)
    (v : Value) (n : Nat) (xs : List Value) (hown : w.ownsRow base e size v n xs)
    (a : Addr) (m c : Nat) (news : List Value) (hl : news.length = m * size) (hnews : ∀ j u, news[j]? = some u → w.cell? (a.add j) = some u) (h1 : ∀ u ∈ news, u.oneCell' = true)
    (h63 : n + m ≤ maxLen) (hbytes : (n + m) * bytes ≤ 140737488355328) :
    ∀ v' w', (Builtin.append_ #[t, t] ty #[v, .slice (some a) m c]).run P w = .ok v' w' → v'.ownBlock = v.ownBlock ∨ v'.ownBlock = some w.heap.size := by
  subst hsize
  subst hby
  have hsmall : n + m ≤ 9223372036854775807 := by simp only [maxLen] at h63; omega
  intro v' w' hr'
  rcases hown.2 with ⟨rfl, rfl⟩ | ⟨g, cap, cur, rfl, hbg, hg, hnc, hcm, hcs, htake⟩
  · by_cases hm : m = 0
    · subst hm
      have hr : (Builtin.append_ #[t, t] ty #[.slice none 0 0, .slice (some a) 0 c]).run P w = .ok (.slice none 0 0) w := by
        simp [Builtin.append_, run_underlying ht, sizeOf, typeInfo, hi, Builtin.lenOf, Builtin.firstCells, loadCells, loadCellsFrom]
      rw [hr] at hr'
      injection hr' with h2 _
      subst h2
      exact .inl rfl
    · have hr := run_append_nil (P := P) w t ty e i z ht hi hz a m c news hl hnews (by omega) (by omega) (by have hb := hbytes; simp only [Nat.zero_add] at hb; omega)
      rw [hr] at hr'
      injection hr' with h2 _
      subst h2
      exact .inr rfl
  · by_cases hroom : n + m ≤ cap
    · have hfit : n * i.size + news.length ≤ cur.size := by rw [hl, hcs, ← Nat.add_mul]; exact Nat.mul_le_mul_right _ hroom
      have hr := run_append_room (P := P) w t ty e i ht hi g n cap cur hg a m c news hl hnews h1 hroom hfit
      rw [hr] at hr'
      injection hr' with h2 _
      subst h2
      exact .inl rfl
    · have holds : ∀ j u, xs[j]? = some u → w.cell? ((⟨g, 0, none⟩ : Addr).add j) = some u := hown.cells (g := g) rfl
      have hr := run_append_grow (P := P) w t ty e i z ht hi hz ⟨g, 0, none⟩ n cap xs hown.1 holds a m c news hl hnews (by omega) (by omega) (growslice_fits (by omega) hbytes)
      rw [hr] at hr'
      injection hr' with h2 _
      subst h2
      exact .inr rfl
theorem op_app3 {P : Program} {t e : TypeId} {size bytes : Nat} (T : STy P t e size bytes) {w0 w : World} {o : Oper} {a : Act} {K : Act → World → Prop} {Q : Exit → Act → World → Prop}
    (s x : Operand) (ho : o.op = .call { callee := .builtin .append, args := #[s, x], argTypes := #[t, t] })
    {v : Value} {n : Nat} {xs : List Value} (hO : Own e size w0 w v n xs) (hs : a.eval s = v) {ad : Addr} {m c : Nat} {news : List Value} (hx : a.eval x = .slice (some ad) m c) (hr : Rd w (some ad) m c size news)
    (h1 : ∀ u ∈ news, u.oneCell' = true) (hn : n + m ≤ 10000000)
    (h : ∀ v' w', Own e size w0 w' v' (n + m) (xs ++ news) → w.grownBy w' v.ownBlock → (v'.ownBlock = v.ownBlock ∨ v'.ownBlock = some w.heap.size) → K (a.put o.dst v') w') : o.wp P a w K Q := by
  obtain ⟨i, z, i1, i2, i3, i4, i5⟩ := T.info
  have hlt := hO.1.lt
  have hk : ∀ w', w.grownBy w' v.ownBlock → Keeps w0 w' := fun w' hgr => Below.grown hO.2.below hgr hO.2.size (fun k hk => (hlt k hk).1)
  have hsm := T.small
  have hm : n + m ≤ maxLen := by unfold maxLen; omega
  have hby : (n + m) * bytes ≤ 140737488355328 := Nat.le_trans (Nat.mul_le_mul hn hsm) (by decide)
  obtain ⟨v', w', hrun, h2, h3, _⟩ := run_append_own (P := P) w w0.heap.size t o.type e i z size bytes T.u i1 i2 i3 i4 i5 T.pos v n xs hO.1 ad m c news hr.len (fun j u hj => hr.cell j u hj) h1 hm hby hO.2.size
  have hb := run_app_block (P := P) w w0.heap.size t o.type e i z size bytes T.u i1 i2 i3 i4 i5 v n xs hO.1 ad m c news hr.len (fun j u hj => hr.cell j u hj) h1 hm hby v' w' hrun
  unfold Oper.wp execOp
  simp only [ho, resolve, invoke, builtin, Sem.run_bind, Sem.run_pure, Result.andThen_ok, List.map_toArray, List.map_cons, List.map_nil, hs, hx, hrun]
  exact h v' w' ⟨h2, hk w' h3⟩ h3 hb
theorem wp_app3 {P : Program} {t e : TypeId} {size bytes : Nat} (T : STy P t e size bytes) {w0 w : World} {ops : Array Oper} {rest : List Oper} {o : Oper} {a : Act} {Q : Exit → Act → World → Prop}
    (hg : o.guard = none) (s x : Operand) (ho : o.op = .call { callee := .builtin .append, args := #[s, x], argTypes := #[t, t] })
    {v : Value} {n : Nat} {xs : List Value} (hO : Own e size w0 w v n xs) (hs : a.eval s = v) {ad : Addr} {m c : Nat} {news : List Value} (hx : a.eval x = .slice (some ad) m c) (hr : Rd w (some ad) m c size news)
    (h1 : ∀ u ∈ news, u.oneCell' = true) (hn : n + m ≤ 10000000)
    (h : ∀ v' w', Own e size w0 w' v' (n + m) (xs ++ news) → w.grownBy w' v.ownBlock → (v'.ownBlock = v.ownBlock ∨ v'.ownBlock = some w.heap.size) → wpList P ops Q rest (a.put o.dst v') w') : wpList P ops Q (o :: rest) a w :=
  wpList_plain hg fun _ hK => op_app3 T s x ho hO hs hx hr h1 hn fun v' w' h2 h3 h4 => hK _ _ (h v' w' h2 h3 h4)
end Go.Proofs.YtijknodekomdfaaGreatDoor
