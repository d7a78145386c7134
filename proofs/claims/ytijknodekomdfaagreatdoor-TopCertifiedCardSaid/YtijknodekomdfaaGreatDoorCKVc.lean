/- Texts joined into one, what is needed of them (a program of ours). -/
import Derived.Test.YtijknodekomdfaaGreatDoorCKVb
import Derived.Test.YtijknodekomdfaaGreatDoorCKZa
import Derived.Test.YtijknodekomdfaaGreatDoorCKVa
import Derived.Test.YtijknodekomdfaaGreatDoorCKC
import Derived.Test.YtijknodekomdfaaGreatDoorCKA
namespace Go.Proofs.YtijknodekomdfaaGreatDoor
open Go.RowKit Go.Lib Go.Shelf

/-- a node with the place of its kids -/
structure NE where
  x : ND
  ak : Option Addr
  ck : Nat
def ne0 : NE := ⟨nd9, none, 0⟩
def eND (z : NE) : List Value := [.int .i64 z.x.kd, .int .i64 z.x.sr, .int .i64 z.x.nd, .slice none 0 0, .slice z.ak z.x.ks.length z.ck]
def nel (l : List NE) : List Value := fle eND l
theorem eND_len (z : NE) : (eND z).length = 5 := rfl
def RdE (W : World) (z : NE) : Prop := Rd W z.ak z.x.ks.length z.ck 1 (il z.x.ks)
theorem RdE.keep {W W' : World} {z : NE} (h : RdE W z) (k : Keeps W W') : RdE W' z := Rd.keep h k
/-- the expression that a value holds -/
def HasX (W : World) (x : List ND × Nat) (v : Value) : Prop := ∃ a c nes, v = .agg #[.slice a nes.length c, .int .i64 x.2] ∧ Rd W a nes.length c 5 (nel nes) ∧ (∀ z ∈ nes, RdE W z) ∧ nes.map NE.x = x.1
theorem HasX.keep {W W' : World} {x : List ND × Nat} {v : Value} (h : HasX W x v) (k : Keeps W W') : HasX W' x v := by
  obtain ⟨a, c, nes, rfl, h1, h2, h3⟩ := h
  exact ⟨a, c, nes, rfl, h1.keep k, fun z hz => (h2 z hz).keep k, h3⟩
def neA (l : List NE) (i : Nat) : NE := l.getD i ne0
@[simp] theorem nel_len (l : List NE) : (nel l).length = l.length * 5 := fle_len eND 5 eND_len l
theorem nel_append (l m : List NE) : nel (l ++ m) = nel l ++ nel m := fle_append eND l m
theorem nel_cells (l : List NE) : ∀ v ∈ nel l, v.oneCell' = true := fle_cells eND (fun x v hv => by
  simp only [eND, List.mem_cons, List.not_mem_nil, or_false] at hv
  rcases hv with rfl | rfl | rfl | rfl | rfl <;> rfl) l
theorem nel_rdlen {w : World} {a : Option Addr} {n c : Nat} {l : List NE} (h : Rd w a n c 5 (nel l)) : l.length = n := rd_lenE eND 5 eND_len (by decide) h
theorem nel_at {w : World} {a : Option Addr} {n c : Nat} {l : List NE} (h : Rd w a n c 5 (nel l)) {i : Nat} (hi : i < n) :
    w.cell? (adr a (i * 5)) = some (.int .i64 (neA l i).x.kd) ∧ w.cell? ⟨(adr a (i * 5)).block, (adr a (i * 5)).off + 1, none⟩ = some (.int .i64 (neA l i).x.sr) ∧ w.cell? ⟨(adr a (i * 5)).block, (adr a (i * 5)).off + 2, none⟩ = some (.int .i64 (neA l i).x.nd) ∧ w.cell? ⟨(adr a (i * 5)).block, (adr a (i * 5)).off + 3, none⟩ = some (.slice none 0 0) ∧ w.cell? ⟨(adr a (i * 5)).block, (adr a (i * 5)).off + 4, none⟩ = some (.slice (neA l i).ak (neA l i).x.ks.length (neA l i).ck) :=
  ⟨rd_atE eND 5 eND_len (by decide) h hi ne0 0 (by decide) rfl, adr_off (rd_atE eND 5 eND_len (by decide) h hi ne0 1 (by decide) rfl) (by decide), adr_off (rd_atE eND 5 eND_len (by decide) h hi ne0 2 (by decide) rfl) (by decide), adr_off (rd_atE eND 5 eND_len (by decide) h hi ne0 3 (by decide) rfl) (by decide), adr_off (rd_atE eND 5 eND_len (by decide) h hi ne0 4 (by decide) rfl) (by decide)⟩
theorem neA_mem {l : List NE} {i : Nat} (h : i < l.length) : neA l i ∈ l := getD_memE ne0 h
theorem neA_x (l : List NE) (i : Nat) : (neA l i).x = (l.map NE.x).getD i nd9 := by
  unfold neA
  by_cases h : i < l.length
  · simp [List.getD, h]
  · rw [List.getD, List.getElem?_eq_none (by omega), List.getD, List.getElem?_eq_none (by rw [List.length_map]; omega)]; rfl
theorem info_nel : (Tryz.prog.info? 194).map (fun i => (i.zero, i.size, i.bytes)) = some (some (.agg #[.int .i64 0, .int .i64 0, .int .i64 0, .slice none 0 0, .slice none 0 0]), 5, 72) := by kernel_rfl
theorem ty_nel : STy Tryz.prog 119 194 5 72 := STy.of Tryz.underlying119 info_nel rfl (by decide) (by decide)
def eCH (x : CH) : List Value := [.int .i64 x.sr, .int .i64 x.x, .int .i64 x.y]
def chl (l : List CH) : List Value := fle eCH l
def chA (l : List CH) (i : Nat) : CH := l.getD i ch0
theorem eCH_len (x : CH) : (eCH x).length = 3 := rfl
@[simp] theorem chl_len (l : List CH) : (chl l).length = l.length * 3 := fle_len eCH 3 eCH_len l
theorem chl_append (l m : List CH) : chl (l ++ m) = chl l ++ chl m := fle_append eCH l m
theorem chl_cells (l : List CH) : ∀ v ∈ chl l, v.oneCell' = true := fle_cells eCH (fun x v hv => by
  simp only [eCH, List.mem_cons, List.not_mem_nil, or_false] at hv
  rcases hv with rfl | rfl | rfl <;> rfl) l
theorem chl_at {w : World} {a : Option Addr} {n c : Nat} {l : List CH} (h : Rd w a n c 3 (chl l)) {i : Nat} (hi : i < n) :
    w.cell? (adr a (i * 3)) = some (.int .i64 (chA l i).sr) ∧ w.cell? ⟨(adr a (i * 3)).block, (adr a (i * 3)).off + 1, none⟩ = some (.int .i64 (chA l i).x) ∧ w.cell? ⟨(adr a (i * 3)).block, (adr a (i * 3)).off + 2, none⟩ = some (.int .i64 (chA l i).y) :=
  ⟨rd_atE eCH 3 eCH_len (by decide) h hi ch0 0 (by decide) rfl, adr_off (rd_atE eCH 3 eCH_len (by decide) h hi ch0 1 (by decide) rfl) (by decide), adr_off (rd_atE eCH 3 eCH_len (by decide) h hi ch0 2 (by decide) rfl) (by decide)⟩
theorem take_chA (l : List CH) (i : Nat) (h : i < l.length) : l.take (i + 1) = l.take i ++ [chA l i] := getD_takeE l i ch0 h
theorem info_chl : (Tryz.prog.info? 206).map (fun i => (i.zero, i.size, i.bytes)) = some (some (.agg #[.int .i64 0, .int .i64 0, .int .i64 0]), 3, 24) := by kernel_rfl
theorem ty_chl : STy Tryz.prog 124 206 3 24 := STy.of Tryz.underlying124 info_chl rfl (by decide) (by decide)
end Go.Proofs.YtijknodekomdfaaGreatDoor
namespace Go.Proofs.YtijknodekomdfaaGreatDoor
open Go.RowKit Go.Lib Go.Shelf

theorem violated_any (x y b : S) (w : World) : Calls Tryz.prog 136 #[.int .u16 (sv x), .int .u16 (sv y), .int .u16 (sv b)] w fun e w' => e = .returned (.bool (x &&& y &&& ~~~b == 0#16)) ∧ w = w' := by
  go_enter Tryz.func136, Tryz.ntmps136
  go_wp2
  go_ret
  exact ⟨rfl, rfl⟩
set_option maxHeartbeats 2000000 in
theorem families_any (a1 : Option Addr) (n1 c1 : Nat) (f : List S) (a2 : Option Addr) (n2 c2 : Nat) (g : List S) (b : S) (w : World) (h1 : Rd w a1 n1 c1 1 (sl f)) (h2 : Rd w a2 n2 c2 1 (sl g)) :
    Calls Tryz.prog 74 #[.slice a1 n1 c1, .slice a2 n2 c2, .int .u16 (sv b)] w fun e w' => e = .returned (.bool (famB f g b)) ∧ Keeps w w' := by
  have s1 := h1.small; have s2 := h2.small
  have L1 := Lib.hid h1.lenS; have L2 := Lib.hid h2.lenS
  have HF := Lib.hid h1; have HG := Lib.hid h2
  clear h1 h2
  go_enter Tryz.func74, Tryz.ntmps74
  go_wp2_with fail
  go_loopw [13] (fun u wr => ∃ i : Nat, i ≤ n1 ∧ u = .int .i64 i ∧ Keeps w wr ∧ Hid (famB f g b = famB (f.drop i) g b)) (fun u _ => n1 - (RowKit.intOf u).toNat)
  case atStart => exact ⟨0, Nat.zero_le _, rfl, Keeps.refl _, Lib.hid (by rw [List.drop_zero])⟩
  case round =>
    obtain ⟨i, hi, rfl, K, HI⟩ := hrel
    by_cases hlt : i < n1
    · have g0 := (HF.out.keep K).at hlt
      have hao := HF.out.isSome (by omega)
      have HD := Lib.hid (dropH L1 hlt)
      generalize at_ f i = x at *
      have HK := Lib.hid K
      clear K
      go_wp2_with fail
      clear g0
      go_loopw [19] (fun u wr => ∃ j : Nat, j ≤ n2 ∧ u = .int .i64 j ∧ Keeps w wr ∧ Hid ((g.all fun y => !(x &&& y &&& ~~~b == 0#16)) = ((g.drop j).all fun y => !(x &&& y &&& ~~~b == 0#16)))) (fun u _ => n2 - (RowKit.intOf u).toNat)
      case atStart => exact ⟨0, Nat.zero_le _, rfl, HK.out, Lib.hid (by rw [List.drop_zero])⟩
      case round =>
        clear HK
        obtain ⟨j, hj, rfl, K, HJ⟩ := hrel
        by_cases hlj : j < n2
        · have g0 := (HG.out.keep K).at hlj
          have hao2 := HG.out.isSome (by omega)
          have HD2 := Lib.hid (dropH L2 hlj)
          generalize at_ g j = y at *
          have hv := fun W => violated_any x y b W
          have HK := Lib.hid K
          clear K
          cases hq : (x &&& y &&& ~~~b == 0#16) with
          | true =>
            rw [hq] at hv
            have HV := Lib.hid hv
            have HR : Hid (famB f g b = false) := Lib.hid (by
              rw [HI.out, HD.out]
              unfold famB
              rw [List.all_cons, HJ.out, HD2.out, List.all_cons, hq]
              rfl)
            clear hv hq
            go_wp2_with fail
            refine (HV.out _).mono ?_
            rintro e w' ⟨rfl, rfl⟩
            go_wp2_with fail
            go_ret
            exact ⟨by rw [HR.out]; rfl, HK.out⟩
          | false =>
            rw [hq] at hv
            have HV := Lib.hid hv
            have HN : Hid ((g.all fun y => !(x &&& y &&& ~~~b == 0#16)) = ((g.drop (j + 1)).all fun y => !(x &&& y &&& ~~~b == 0#16))) := Lib.hid (by rw [HJ.out, HD2.out, List.all_cons, hq]; rfl)
            clear hv hq
            go_wp2_with fail
            refine (HV.out _).mono ?_
            rintro e w' ⟨rfl, rfl⟩
            go_wp2_with fail
            go_roundw
            case rel => exact ⟨j + 1, by omega, by go_num, HK.out, HN⟩
            case measure => simp [RowKit.intOf]; omega
        · have HN : Hid (famB f g b = famB (f.drop (i + 1)) g b) := Lib.hid (by
            rw [HI.out, HD.out]
            unfold famB
            rw [List.all_cons, HJ.out, dropN L2 hlj]
            rfl)
          have HK := Lib.hid K
          clear K
          go_wp2_with fail
          go_roundw
          case rel => exact ⟨i + 1, by omega, by go_num, HK.out, HN⟩
          case measure => simp [RowKit.intOf]; omega
    · have HR : Hid (famB f g b = true) := Lib.hid (by rw [HI.out, dropN L1 hlt]; rfl)
      have HK := Lib.hid K
      clear K
      go_wp2_with fail
      go_ret
      exact ⟨by rw [HR.out]; rfl, HK.out⟩
end Go.Proofs.YtijknodekomdfaaGreatDoor
namespace Go.Proofs.YtijknodekomdfaaGreatDoor
open Go.RowKit Go.Lib Go.Shelf

theorem imA_mem {l : List Nat} {i : Nat} (h : i < l.length) : im l i ∈ l := by simp [im, List.getD, h]
theorem drop_imA (l : List Nat) (i : Nat) (h : i < l.length) : l.drop i = im l i :: l.drop (i + 1) := getD_dropE l i 0 h
set_option maxHeartbeats 1600000 in
theorem indexFuncN_any (a : Option Addr) (n c : Nat) (l : List Nat) (w : World) (g : Nat) (lb : Array Value) (p : Nat → Bool) (h : Rd w a n c 1 (il l))
    (eg : ∀ args w, (callFunc g args).run Tryz.prog w = .ok (.enter g args) w) (hp : PredK Tryz.prog g lb (fun m : Nat => .int .i64 (m : Int)) p l w) :
    Calls Tryz.prog 250 #[.slice a n c, .func (.func g) #[] lb] w fun e w' => e = .returned (.int .i64 (idxFrom p l 0)) ∧ Keeps w w' := by
  have s1 := h.small
  have l1 : l.length = n := by have := h.len; simpa [il] using this
  have L1 := Lib.hid l1; clear l1
  have HP := Lib.hid hp; clear hp
  go_enter Tryz.func250, Tryz.ntmps250
  go_wp2
  go_loopw [8] (fun v wr => ∃ k : Nat, k ≤ n ∧ v = .int .i64 k ∧ Keeps w wr ∧ Hid (idxFrom p l 0 = idxFrom p (l.drop k) k)) (fun v _ => n - (RowKit.intOf v).toNat)
  case atStart => exact ⟨0, Nat.zero_le _, rfl, Keeps.refl _, rfl⟩
  case round =>
    obtain ⟨k, hk, rfl, K1, HI⟩ := hrel
    by_cases hlt : k < n
    · have g0 := (h.keep K1).cell k _ (il_at l k (by have := L1.out; omega))
      have ha := h.isSome (by omega)
      have hcall := HP.out wr (im l k) (imA_mem (by have := L1.out; omega)) K1
      have HC := Lib.hid hcall; clear hcall
      have hdr := drop_imA l k (by have := L1.out; omega)
      have HDR := Lib.hid hdr; clear hdr
      generalize im l k = x at *
      cases hq : p x with
      | true =>
        rw [hq] at HC
        have HQ := Lib.hid hq; clear hq
        go_wp2_with (go_at_fn g; refine (HC.out).mono ?_; rintro e w' ⟨rfl, K2⟩)
        go_ret
        exact ⟨by rw [HI.out, HDR.out, idxFrom, if_pos HQ.out]; rfl, K1.trans K2⟩
      | false =>
        rw [hq] at HC
        have HQ := Lib.hid hq; clear hq
        go_wp2_with (go_at_fn g; refine (HC.out).mono ?_; rintro e w' ⟨rfl, K2⟩)
        go_roundw
        case rel => exact ⟨k + 1, by omega, by go_num, K1.trans K2, hrfl <| by rw [HI.out, HDR.out, idxFrom, if_neg (by rw [HQ.out]; simp)]⟩
        case measure => simp [RowKit.intOf]; omega
    · go_wp2
      go_ret
      exact ⟨by rw [HI.out, List.drop_eq_nil_iff.2 (by have := L1.out; omega), idxFrom]; rfl, K1⟩
set_option maxHeartbeats 800000 in
theorem containsFuncN_any (a : Option Addr) (n c : Nat) (l : List Nat) (w : World) (g : Nat) (lb : Array Value) (p : Nat → Bool) (h : Rd w a n c 1 (il l))
    (eg : ∀ args w, (callFunc g args).run Tryz.prog w = .ok (.enter g args) w) (hp : PredK Tryz.prog g lb (fun m : Nat => .int .i64 (m : Int)) p l w) :
    Calls Tryz.prog 236 #[.slice a n c, .func (.func g) #[] lb] w fun e w' => e = .returned (.bool (l.any p)) ∧ Keeps w w' := by
  have HX := Lib.hid (idxFrom_any p l 0)
  have hcon := indexFuncN_any a n c l w g lb p h eg hp
  generalize idxFrom p l 0 = r at hcon HX
  have HC := Lib.hid hcon; clear hcon eg hp h
  go_enter Tryz.func236, Tryz.ntmps236
  go_wp2_with (go_at_call 250; refine HC.out.mono ?_; rintro e w' ⟨rfl, K2⟩)
  go_ret
  exact ⟨by rw [← HX.out]; rfl, K2⟩

end Go.Proofs.YtijknodekomdfaaGreatDoor
namespace Go.Proofs.YtijknodekomdfaaGreatDoor
open Go.RowKit Go.Lib Go.Shelf

theorem any_no {α : Type} (l : List α) : (l.any fun _ => false) = false := by induction l with
  | nil => rfl
  | cons a r ih => rw [List.any_cons, ih]; rfl
theorem rd_nilI (w : World) : Rd w none 0 0 1 (il []) := ⟨rfl, Nat.le_refl _, Nat.zero_le _, fun h => absurd h (Nat.lt_irrefl _), fun j u hu => by simp [il] at hu⟩
theorem heavyPred (w : World) : PredK Tryz.prog 234 #[] (fun m : Nat => .int .i64 (m : Int)) (fun _ => false) [] w := fun W x hx _ => by cases hx
theorem unkPred (i B : Nat) (ks : List Nat) (w : World) (hk : ∀ k ∈ ks, k < i) (hc : w.cell? ⟨B, 0, none⟩ = some (.int .i64 i)) : PredK Tryz.prog 235 #[.pointer (some ⟨B, 0, none⟩)] (fun m : Nat => .int .i64 (m : Int)) (fun _ => false) ks w := fun W x hx hk' => by
  have hc' := hk'.cell hc
  have hlt := hk x hx
  show Calls Tryz.prog 235 #[.int .i64 x, .pointer (some ⟨B, 0, none⟩)] W _
  go_enter Tryz.func235, Tryz.ntmps235
  go_wp2
  go_ret
  exact ⟨ret_eq (by have h1 : ¬ ((x : Int) < 0) := by omega
                    have h2 : ¬ i ≤ x := by omega
                    simp [h1, h2]), Keeps.refl _⟩
theorem Blk.c5 {w : World} {B : Nat} {T : TypeId} {v0 v1 v2 v3 v4 : Value} (h : Blk w B T #[v0, v1, v2, v3, v4]) :
    (w.cell? ⟨B, 0, none⟩ = some v0 ∧ w.cell? ⟨B, 1, none⟩ = some v1 ∧ w.cell? ⟨B, 2, none⟩ = some v2 ∧ w.cell? ⟨B, 3, none⟩ = some v3 ∧ w.cell? ⟨B, 4, none⟩ = some v4) :=
  ⟨h.cell 0 rfl, h.cell 1 rfl, h.cell 2 rfl, h.cell 3 rfl, h.cell 4 rfl⟩
set_option maxHeartbeats 2000000 in
theorem nvalid_any (z : NE) (i : Nat) (w : World) (hr : RdE w z) (hv : VN i z.x) :
    Calls Tryz.prog 219 #[.agg #[.int .i64 z.x.kd, .int .i64 z.x.sr, .int .i64 z.x.nd, .slice none 0 0, .slice z.ak z.x.ks.length z.ck], .int .i64 i] w fun e w' => e = .returned (.int .i64 0) ∧ Keeps w w' := by
  obtain ⟨⟨kd, sr, nd, ks⟩, ak, ck⟩ := z
  unfold RdE at hr
  dsimp only at hr hv ⊢
  have hs : ∀ o, (w.alloc o).heap.size = w.heap.size + 1 := fun o => World.size_alloc ..
  have K2 := ((Keeps.refl w).alloc (.cells #[.int .i64 kd, .int .i64 sr, .int .i64 nd, .slice none 0 0, .slice ak ks.length ck] 194)).alloc (.cells #[.int .i64 i] 3)
  have b1 := (Blk.new w 194 #[.int .i64 kd, .int .i64 sr, .int .i64 nd, .slice none 0 0, .slice ak ks.length ck]).keep ((Keeps.refl _).alloc (.cells #[.int .i64 i] 3))
  have b2 := Blk.new (w.alloc (.cells #[.int .i64 kd, .int .i64 sr, .int .i64 nd, .slice none 0 0, .slice ak ks.length ck] 194)) 3 #[.int .i64 i]
  rw [hs] at b2
  have hk : ∀ k ∈ ks, k < i := by
    rcases hv with h | h
    · have e : ks = [] := h.2.2.2.2
      rw [e]; simp
    · exact h.2.2.2.2
  have h1 := fun W => containsFuncN_any none 0 0 [] W 234 #[] _ (rd_nilI W) (enters_of Tryz.func234 (by kernel_rfl) rfl) (heavyPred W)
  have h2 := fun W (k : Keeps ((w.alloc (.cells #[.int .i64 kd, .int .i64 sr, .int .i64 nd, .slice none 0 0, .slice ak ks.length ck] 194)).alloc (.cells #[.int .i64 i] 3)) W) => containsFuncN_any ak ks.length ck ks W 235 #[.pointer (some ⟨w.heap.size + 1, 0, none⟩)] _ ((hr.keep K2).keep k) (enters_of Tryz.func235 (by kernel_rfl) rfl) (unkPred i (w.heap.size + 1) ks W hk ((b2.keep k).cell 0 rfl))
  simp only [any_no] at h1 h2
  have H1 := Lib.hid h1; have H2 := Lib.hid h2; have B1 := Lib.hid b1; have HK := Lib.hid K2
  obtain ⟨c0, c1, c2, c3, c4⟩ := b1.c5
  clear h1 h2 b1 b2 K2 hs hk hr
  rcases hv with ⟨rfl, v1, v2, rfl, rfl⟩ | ⟨rfl, rfl, v2, v3, _⟩
  all_goals
    go_enter Tryz.func219, Tryz.ntmps219
    go_wp2_with fail
    refine (H1.out _).mono ?_
    rintro e w1 ⟨rfl, K3⟩
    obtain ⟨d0, d1, d2, d3, d4⟩ := (B1.out.keep K3).c5
    go_wp2_with fail
    refine (H2.out _ K3).mono ?_
    rintro e w2 ⟨rfl, K4⟩
    go_wp2_with fail
    go_ret
    exact ⟨rfl, (HK.out.trans K3).trans K4⟩
set_option maxHeartbeats 2000000 in
theorem valid20_any {x : List ND × Nat} {v : Value} (w : World) (h : HasX w x v) (hv : VX x) :
    Calls Tryz.prog 189 #[v] w fun e w' => e = .returned (.int .i64 0) ∧ Keeps w w' := by
  obtain ⟨a, c, nes, rfl, hr, hk, hx⟩ := h
  obtain ⟨ns, root⟩ := x
  obtain ⟨v1, v2, v3⟩ := hv
  dsimp only at *
  subst hx
  rw [List.length_map] at v1 v2 v3
  have hnv := fun (W : World) (k : Keeps w W) (i : Nat) (hi : i < nes.length) => nvalid_any (neA nes i) i W ((hk _ (neA_mem hi)).keep k) (by rw [neA_x]; exact v3 i hi)
  have HN := Lib.hid hnv
  have s1 := hr.small
  have HR := Lib.hid hr
  have K1 := (Keeps.refl w).alloc (.cells #[.slice a nes.length c, .int .i64 root] 121)
  have b1 := Blk.new w 121 #[.slice a nes.length c, .int .i64 root]
  have B1 := Lib.hid b1; have HK := Lib.hid K1
  generalize hn : nes.length = n at *
  have V2 : 0 < n := by omega
  have hb0 : ((n : Int) == 0) = false := by simp; omega
  clear hnv hr hk v3 b1 K1 hn
  go_enter Tryz.func189, Tryz.ntmps189
  go_wp2_with fail
  go_loopw [17] (fun u wr => ∃ i : Nat, i ≤ n ∧ u = .int .i64 i ∧ Keeps (w.alloc (.cells #[.slice a n c, .int .i64 root] 121)) wr) (fun u _ => n - (RowKit.intOf u).toNat)
  case atStart => exact ⟨0, Nat.zero_le _, rfl, Keeps.refl _⟩
  case round =>
    obtain ⟨i, hi, rfl, K⟩ := hrel
    have c0 := (B1.out.keep K).cell 0 rfl
    have c1 := (B1.out.keep K).cell 1 rfl
    by_cases hlt : i < n
    · obtain ⟨g0, g1, g2, g3, g4⟩ := nel_at (HR.out.keep (HK.out.trans K)) hlt
      have hao := HR.out.isSome (by omega)
      have hcall := fun W k => HN.out W k i hlt
      have HC := Lib.hid hcall; clear hcall
      generalize neA nes i = z at *
      have KK := Lib.hid K; clear K
      go_wp2_with fail
      refine (HC.out _ ((HK.out.trans KK.out).alloc _)).mono ?_
      rintro e w1 ⟨rfl, K3⟩
      go_wp2_with fail
      go_roundw
      case rel => exact ⟨i + 1, by omega, by go_num, (KK.out.alloc _).trans K3⟩
      case measure => simp [RowKit.intOf]; omega
    · have KK := Lib.hid K; clear K
      go_wp2_with fail
      go_ret
      exact ⟨rfl, HK.out.trans KK.out⟩
end Go.Proofs.YtijknodekomdfaaGreatDoor
