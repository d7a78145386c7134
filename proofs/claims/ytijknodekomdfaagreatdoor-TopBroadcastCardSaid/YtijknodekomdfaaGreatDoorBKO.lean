/- Texts joined into one, what is needed of them (a program of ours). -/
import Derived.Test.YtijknodekomdfaaGreatDoorBKL
namespace Go.Proofs.YtijknodekomdfaaGreatDoor
open Go.RowKit Go.Lib Go.Shelf

def eSd (s : Sd) : List Value := [.int .u16 (sv s.1), .int .u16 (sv s.2.1), .string s.2.2]
def sdl (l : List Sd) : List Value := fle eSd l
theorem eSd_len (x : Sd) : (eSd x).length = 3 := rfl
def sd0 : Sd := (0#16, 0#16, ByteArray.empty)
def sdA (l : List Sd) (i : Nat) : Sd := l.getD i sd0
theorem sd_at {w : World} {a : Option Addr} {n c : Nat} {l : List Sd} (h : Rd w a n c 3 (sdl l)) {i : Nat} (hi : i < n) :
    w.cell? (adr a (i * 3)) = some (.int .u16 (sv (sdA l i).1)) ∧ w.cell? ⟨(adr a (i * 3)).block, (adr a (i * 3)).off + 1, none⟩ = some (.int .u16 (sv (sdA l i).2.1)) ∧ w.cell? ⟨(adr a (i * 3)).block, (adr a (i * 3)).off + 2, none⟩ = some (.string (sdA l i).2.2) :=
  ⟨rd_atE eSd 3 eSd_len (by decide) h hi sd0 0 (by decide) rfl, adr_off (rd_atE eSd 3 eSd_len (by decide) h hi sd0 1 (by decide) rfl) (by decide), adr_off (rd_atE eSd 3 eSd_len (by decide) h hi sd0 2 (by decide) rfl) (by decide)⟩
theorem drop_sdA (l : List Sd) (i : Nat) (h : i < l.length) : l.drop i = sdA l i :: l.drop (i + 1) := getD_dropE l i sd0 h
theorem sdA_mem {l : List Sd} {i : Nat} (h : i < l.length) : sdA l i ∈ l := getD_memE sd0 h
/-- the error of Attack -/
def atkE (f b : List S) (N : Int) : Int := if ¬(1 ≤ N ∧ N ≤ 8) then 7 else if chk39 f b N.toNat ≠ 0 then chk39 f b N.toNat else if (splI N.toNat b f).isSome then 0 else 13
def RetAtk (w : World) (f b : List S) (N : Int) (e : Ending) (w' : World) : Prop :=
  Keeps w w' ∧ ((atkE f b N ≠ 0 ∧ e = .returned (.tuple #[zCast, .int .i64 (atkE f b N)])) ∨
    (atkE f b N = 0 ∧ ∃ q p t, splI N.toNat b f = some (q, p, t) ∧ ∃ nv nas' gv fl', e = .returned (.tuple #[vCast N t (tzS t) nv gv, .int .i64 0]) ∧ Own 153 9 w w' nv nas'.length (nl nas') ∧ Own 145 4 w w' gv fl'.length (cl fl') ∧ (∀ z ∈ nas', NOk w' z) ∧ atkS f b N.toNat q p t = ⟨nas'.map NA.x, fl'⟩))
def kndP (A p1 t : S) (v : Str) (j : Nat) : List Ct := (([2, 3] : List Int).take j).flatMap fun k => (memL (p1 &&& t)).flatMap fun i => sayL A k i v
def inP (A : S) (v : Str) (kd : Nat) (M : List Nat) : List Ct := M.flatMap fun i => sayL A kd i v
theorem kndP_two (A p1 t : S) (v : Str) (source : Nat) : sayL A 1 source v ++ kndP A p1 t v 2 = pushL A p1 t source v := rfl
theorem kndP_succ (A p1 t : S) (v : Str) (j : Nat) (h : j < 2) : kndP A p1 t v (j + 1) = kndP A p1 t v j ++ inP A v (im [2, 3] j) (memL (p1 &&& t)) := by
  rcases (by omega : j = 0 ∨ j = 1) with rfl | rfl
  · simp [kndP, inP, im]
  · simp [kndP, inP, im]
theorem inP_succ (A : S) (v : Str) (kd : Nat) (M : List Nat) (m : Nat) (h : m < M.length) : inP A v kd (M.take (m + 1)) = inP A v kd (M.take m) ++ sayL A kd (im M m) v := by
  unfold inP
  rw [List.take_succ_eq_append_getElem h, List.flatMap_append]
  simp [im, List.getD, h]
theorem ty3_int : ¬ Ty3 3 := by unfold Ty3; decide
theorem small_and {n : Nat} {q t : S} (h : q.toNat < 2 ^ n) (hn : n ≤ 8) : small (q &&& t) := small_lt hn (by rw [BitVec.toNat_and]; exact Nat.lt_of_le_of_lt Nat.and_le_left h)
theorem full_lt : ∀ n : Fin 9, (1#16 <<< n.val - 1#16).toNat < 2 ^ n.val := by decide
theorem rest_small {n : Nat} {t : S} (hn : n ≤ 8) : small (restS n t) := small_lt hn (and_not_lt (full_lt ⟨n, by omega⟩))
theorem RunW.setT {w0 W : World} {B : Nat} {fv bv : Value} {n : Nat} {byz : S} {source : Int} {nv : Value} {nas : List NA} {gv : Value} {fl : List Ct} {lv : Value} {ls : List Ct} (h : RunW w0 W B fv bv n byz source nv nas gv fl lv ls) {C : Nat} {T : TypeId} {cs : Array Value} (hC : Blk W C T cs)
    (h1 : T ≠ 148) (h2 : T ≠ 153) (h3 : T ≠ 145) (h4 : T ≠ 156) (hlo : w0.heap.size ≤ C) (i : Nat) (u : Value) : RunW w0 (W.setCell ⟨C, i, none⟩ u) B fv bv n byz source nv nas gv fl lv ls :=
  ⟨h.box.setOther (h.box.ne hC (Ne.symm h1)) i u, h.lo, own_oth9 h.own hC h2 hlo i u, own_oth9 h.fli hC h3 hlo i u, own_oth9 h.lie hC h3 hlo i u, h.apart, fun z hz => ⟨(h.rows z hz).1.set hC h4 i u, (h.rows z hz).2.set hC h4 i u⟩⟩
theorem RunW.since {w0 w1 W : World} {B : Nat} {fv bv : Value} {n : Nat} {byz : S} {source : Int} {nv : Value} {nas : List NA} {gv : Value} {fl : List Ct} {lv : Value} {ls : List Ct} (h : RunW w1 W B fv bv n byz source nv nas gv fl lv ls) (k : Keeps w0 w1) : RunW w0 W B fv bv n byz source nv nas gv fl lv ls :=
  ⟨h.box, Nat.le_trans k.size h.lo, h.own.since k, h.fli.since k, h.lie.since k, h.apart, h.rows⟩
set_option maxRecDepth 200000 in
set_option maxHeartbeats 4000000 in
theorem attack39_any (w : World) (hT : Tab w) (fa : Option Addr) (fm fc : Nat) (f : List S) (ba : Option Addr) (bm bc : Nat) (b : List S) (N : Int) (hf : Rd w fa fm fc 1 (sl f)) (hb : Rd w ba bm bc 1 (sl b)) :
    Calls Tryz.prog 83 #[.slice fa fm fc, .slice ba bm bc, .int .i64 N] w fun e w' => RetAtk w f b N e w' := by
  have hcast := Blk.new w 75 #[.int .i64 0, .int .u16 0, .int .i64 0, .slice none 0 0, .slice none 0 0]
  have kC := (Keeps.refl w).alloc (.cells #[.int .i64 0, .int .u16 0, .int .i64 0, .slice none 0 0, .slice none 0 0] 75)
  have HC := Lib.hid hcast; have HK := Lib.hid kC; have HT := Lib.hid hT
  have HF := Lib.hid hf; have HB := Lib.hid hb
  clear hcast kC hT hf hb
  by_cases h1 : N < 1
  · have hX : atkE f b N = 7 := by unfold atkE; rw [if_pos (by omega)]
    have HX := Lib.hid hX
    clear hX
    go_enter Tryz.func83, Tryz.ntmps83
    go_wp2_with fail
    exact bodyPost_ret (resCast (byz := 0#16) rfl HC.out rfl rfl) rfl ⟨HK.out, .inl ⟨by rw [HX.out]; decide, by rw [HX.out]; rfl⟩⟩
  by_cases h2 : N > 8
  · have hX : atkE f b N = 7 := by unfold atkE; rw [if_pos (by omega)]
    have HX := Lib.hid hX
    clear hX
    go_enter Tryz.func83, Tryz.ntmps83
    go_wp2_with fail
    exact bodyPost_ret (resCast (byz := 0#16) rfl HC.out rfl rfl) rfl ⟨HK.out, .inl ⟨by rw [HX.out]; decide, by rw [HX.out]; rfl⟩⟩
  obtain ⟨n, rfl⟩ : ∃ n : Nat, N = n := ⟨N.toNat, by omega⟩
  have hX : atkE f b n = if chk39 f b n ≠ 0 then chk39 f b n else if (splI n b f).isSome then 0 else 13 := by unfold atkE; rw [if_neg (by omega), Int.toNat_natCast]
  have HX := Lib.hid hX
  have hchk := check9_any n (by omega) fa fm fc f ba bm bc b _ (HF.out.keep HK.out) (HB.out.keep HK.out)
  have hspl := fun W (k : Keeps w W) => split39_any fa fm fc ba bm bc f b n (by omega) W (HF.out.keep k) (HB.out.keep k)
  have HCI := Lib.hid (fun h => chk_ins (f := f) (b := b) (n := n) h)
  have HCK := Lib.hid hchk; have HSP := Lib.hid hspl
  clear hchk hspl hX
  generalize hck : chk39 f b n = ck at HCK HX HCI
  clear hck
  go_enter Tryz.func83, Tryz.ntmps83
  go_wp2_with fail
  refine HCK.out.mono ?_
  rintro e w1 ⟨rfl, k1⟩
  have hBR := HC.out.keep k1
  have J := HK.out.trans k1
  clear HCK HC HK k1
  by_cases hc0 : ck = 0
  · subst hc0
    have hbn : ((0 : Int) != 0) = false := rfl
    have HINS := Lib.hid (HCI.out rfl)
    have HX := Lib.hid (show atkE f b n = if (splI n b f).isSome then 0 else 13 by rw [HX.out, if_neg (by simp)])
    have hsp := HSP.out _ J
    have HS2 := Lib.hid hsp
    clear HCI hsp HSP
    go_wp2_with fail
    refine HS2.out.mono ?_
    rintro e w2 ⟨rfl, k2⟩
    have hBR := hBR.keep k2
    have J := J.trans k2
    clear HS2 k2 hbn
    cases hsp : splI n b f with
    | none =>
      have HX := Lib.hid (show atkE f b n = 13 by rw [HX.out, hsp]; rfl)
      clear hsp
      have kA := (Keeps.refl w2).alloc (.cells #[.int .u16 0] 31)
      have hBR := hBR.keep kA
      have J := J.trans kA
      clear kA
      unfold splV
      obtain ⟨d0, d1, d2, d3, d4⟩ := c5 hBR
      obtain ⟨g0, g1, g2, g3, g4⟩ := f5 hBR
      go_wp2_with fail
      clear d0 d1 d2 d3 d4 g0 g1 g2 g3 g4
      exact bodyPost_ret (resCast (byz := 0#16) rfl (set5 hBR _ _ _ _ _) rfl rfl) rfl ⟨keeps_set5 J (Nat.le_refl _) _ _ _ _ _, .inl ⟨by rw [HX.out]; decide, by rw [HX.out]; rfl⟩⟩
    | some r =>
      obtain ⟨q, p, t⟩ := r
      have hf4 := splI_some hsp
      have HX := Lib.hid (show atkE f b n = 0 by rw [HX.out, hsp]; rfl)
      have HSP := Lib.hid hsp
      have hq := HINS.out.1 q hf4.1
      have hp := HINS.out.1 p hf4.2.1
      have ht := HINS.out.2.1 t hf4.2.2.1
      have HSPP := Lib.hid hf4.2.2.2
      have HLT := Lib.hid (And.intro hq (And.intro hp ht))
      have kA := (Keeps.refl w2).alloc (.cells #[.int .u16 (sv t)] 31)
      have hBB := Blk.new w2 31 #[.int .u16 (sv t)]
      have J := J.trans kA
      have hBR := hBR.keep kA
      have b0 := hBB.cell 0 (v := .int .u16 (sv t)) rfl
      have HBB := Lib.hid hBB; have HJ := Lib.hid J; have HBR := Lib.hid hBR
      have HBS : Hid (w2.heap.size ≠ w.heap.size) := Lib.hid (by have := (HBR.out.lt); have := hBR.ne hBB (by decide); omega)
      clear hsp hf4 hq hp ht kA hBB J hBR
      unfold splV
      have hsz : (w2.alloc (.cells #[.int .u16 (sv t)] 31)).heap.size = w2.heap.size + 1 := World.size_alloc ..
      have r0 : Rd ((w2.alloc (.cells #[.int .u16 (sv t)] 31)).alloc (.cells #[.int .u16 (sv (q &&& ~~~t)), .int .u16 (sv q), .string ⟨#[120]⟩, .int .u16 (sv (p &&& ~~~t)), .int .u16 (sv p), .string ⟨#[121]⟩] 219)) (some ⟨(w2.alloc (.cells #[.int .u16 (sv t)] 31)).heap.size, 0, none⟩) 2 2 3 (sdl [(q &&& ~~~t, q, strX), (p &&& ~~~t, p, strY)]) := rd_new 219 3 _ _ 2 (by decide) rfl
      rw [hsz] at r0
      have k0 := (Keeps.refl (w2.alloc (.cells #[.int .u16 (sv t)] 31))).alloc (.cells #[.int .u16 (sv (q &&& ~~~t)), .int .u16 (sv q), .string ⟨#[120]⟩, .int .u16 (sv (p &&& ~~~t)), .int .u16 (sv p), .string ⟨#[121]⟩] 219)
      have HRD := Lib.hid r0
      have HBB := Lib.hid (HBB.out.keep k0); have HJ := Lib.hid (HJ.out.trans k0); have HBR := Lib.hid (HBR.out.keep k0)
      clear hsz r0 k0
      go_upto_region 10 with fail
      clear b0
      generalize ((w2.alloc (.cells #[.int .u16 (sv t)] 31)).alloc (.cells #[.int .u16 (sv (q &&& ~~~t)), .int .u16 (sv q), .string ⟨#[120]⟩, .int .u16 (sv (p &&& ~~~t)), .int .u16 (sv p), .string ⟨#[121]⟩] 219)) = W9 at *
      generalize w2.heap.size = BB at *
      go_cut [72] (fun s72 wx => s72 = .bool (alone q p t) ∧ wx = W9)
      case first =>
        have b0 := HBB.out.cell 0 (v := .int .u16 (sv t)) rfl
        cases ha : (q &&& ~~~t == 0#16) with
        | true =>
          have HAL : Hid (alone q p t = true) := Lib.hid (by unfold alone; rw [ha]; rfl)
          go_wp2_with fail
          go_meet
          case rel => exact ⟨by rw [HAL.out], rfl⟩
        | false =>
          cases hb : (p &&& ~~~t == 0#16) with
          | true =>
            have HAL : Hid (alone q p t = true) := Lib.hid (by unfold alone; rw [ha, hb]; rfl)
            go_wp2_with fail
            go_meet
            case rel => exact ⟨by rw [HAL.out], rfl⟩
          | false =>
            have HAL : Hid (alone q p t = false) := Lib.hid (by unfold alone; rw [ha, hb]; rfl)
            go_wp2_with fail
            go_meet
            case rel => exact ⟨by rw [HAL.out], rfl⟩
      case rest =>
      obtain ⟨rfl, rfl⟩ := hcut
      go_upto_if 72 with fail
      go_cut [13] (fun s13 wx => ∃ a c, s13 = .slice a 2 c ∧ Rd wx a 2 c 3 (sdl (atkSides n q p t)) ∧ Keeps wc wx)
      case first =>
        cases ha : alone q p t with
        | false =>
          have HAS : Hid (atkSides n q p t = [(q &&& ~~~t, q, strX), (p &&& ~~~t, p, strY)]) := Lib.hid (by unfold atkSides; rw [if_neg (by rw [ha]; simp)])
          clear ha
          go_wp2_with fail
          go_meet
          case rel => exact ⟨_, _, rfl, by rw [HAS.out]; exact HRD.out, .refl _⟩
        | true =>
          have HM2 := Lib.hid (rest_two (by omega) HLT.out.2.2 ((splP_iff.1 HSPP.out).2.2 ha))
          have HMM := Lib.hid (fun W (k : Keeps wc W) => membersB_any (restS n t) W (HT.out.keep (HJ.out.trans k)) (rest_small (by omega)))
          have hmin : min n 16 = n := by omega
          have b0 := HBB.out.cell 0 (v := .int .u16 (sv t)) rfl
          obtain ⟨M, hM⟩ : ∃ M, M = memL (restS n t) := ⟨_, rfl⟩
          rw [← hM] at HM2 HMM
          have HMT := Lib.hid hM
          clear hM
          unfold restS at HMM
          cases hq1 : (q &&& ~~~t == 0#16) with
          | true =>
            have HAS : Hid (atkSides n q p t = [(1#16 <<< im M 0, q, strX), (1#16 <<< im M 1, q, strY)]) := Lib.hid (by unfold atkSides lonQ; rw [if_pos ha, if_pos hq1, HMT.out])
            clear ha
            go_upto_region 14 with fail
            clear b0
            have kd := (Keeps.refl wc).drew
            have hBB := HBB.out.keep kd
            have J9 := kd
            refine wp_region_held_drew (S := (fun w' => w'.cell? ⟨BB, 0, none⟩ = some (.int .u16 (sv t)))) (by kernel_rfl) ?_ (fun hHeld => ?_)
            · exact hBB.cell 0 rfl
            generalize wc.drew = V0 at *
            refine wpAnyH_take (i := 0) (oi := ⟨_, _, _, _, _, _⟩) (v := ?_) rfl (by kernel_rfl) (by kernel_rfl) (by kernel_rfl) (fun _ _ _ h => h) (Or.inl ⟨by rfl, ?_⟩) (by assumption) ?_
            rotate_left 1
            · intro w hSw; (try dsimp only at hSw); go_simp <;> with_reducible rfl
            (try simp only [Act.put]); (try simp only [List.setIfInBounds_toArray]); (try simp only [List.set_cons_succ]); (try simp only [List.set_cons_zero])
            refine wpAnyH_take (i := 1) (oi := ⟨_, _, _, _, _, _⟩) (v := ?_) rfl (by kernel_rfl) (by kernel_rfl) (by kernel_rfl) (fun _ _ _ h => h) (Or.inl ⟨by rfl, ?_⟩) (by assumption) ?_
            rotate_left 1
            · intro w hSw; (try dsimp only at hSw); go_simp <;> with_reducible rfl
            (try simp only [Act.put]); (try simp only [List.setIfInBounds_toArray]); (try simp only [List.set_cons_succ]); (try simp only [List.set_cons_zero])
            refine wpAnyH_take (i := 2) (oi := ⟨_, _, _, _, _, _⟩) (v := ?_) rfl (by kernel_rfl) (by kernel_rfl) (by kernel_rfl) (fun _ _ _ h => h) (Or.inl ⟨by rfl, ?_⟩) (by assumption) ?_
            rotate_left 1
            · intro w hSw; (try dsimp only at hSw); go_simp <;> with_reducible rfl
            (try simp only [Act.put]); (try simp only [List.setIfInBounds_toArray]); (try simp only [List.set_cons_succ]); (try simp only [List.set_cons_zero])
            refine wpAnyH_take (i := 3) (oi := ⟨_, _, _, _, _, _⟩) (v := ?_) rfl (by kernel_rfl) (by kernel_rfl) (by kernel_rfl) (fun _ _ _ h => h) (Or.inl ⟨by rfl, ?_⟩) (by assumption) ?_
            rotate_left 1
            · intro w hSw; (try dsimp only at hSw); go_simp <;> with_reducible rfl
            (try simp only [Act.put]); (try simp only [List.setIfInBounds_toArray]); (try simp only [List.set_cons_succ]); (try simp only [List.set_cons_zero])
            refine wpAnyH_take (i := 4) (oi := ⟨_, _, _, _, _, _⟩) (v := ?_) rfl (by kernel_rfl) (by kernel_rfl) (by kernel_rfl) (fun _ _ _ h => h) (Or.inl ⟨by rfl, ?_⟩) (by assumption) ?_
            rotate_left 1
            · intro w hSw; (try dsimp only at hSw); go_simp <;> with_reducible rfl
            (try simp only [Act.put]); (try simp only [List.setIfInBounds_toArray]); (try simp only [List.set_cons_succ]); (try simp only [List.set_cons_zero])
            refine wpAnyH_ready (rs := [5]) (by kernel_rfl) (by simp) ?_
            refine AllReadyH.cons (o := ⟨_, _, _, _, _, _⟩) rfl (fun K hK => ?_) AllReadyH.nil
            go_simp
            refine (HMM.out _ J9).mono ?_
            rintro e V1 ⟨mv, rfl, hI⟩
            obtain ⟨am, cm, rfl, hRM⟩ := hI.rd
            have hBB := hBB.keep hI.2
            have J9 := J9.trans hI.2
            refine hK.out _ _ ?_ (fun hHeld => ?_)
            · exact hBB.cell 0 rfl
            clear hK K
            (try simp only [Act.put]); (try simp only [List.setIfInBounds_toArray]); (try simp only [List.set_cons_succ]); (try simp only [List.set_cons_zero])
            refine wpAnyH_take (i := 6) (oi := ⟨_, _, _, _, _, _⟩) (v := ?_) rfl (by kernel_rfl) (by kernel_rfl) (by kernel_rfl) (fun _ _ _ h => h) (Or.inl ⟨by rfl, ?_⟩) (by assumption) ?_
            rotate_left 1
            · intro w hSw; (try dsimp only at hSw); go_simp <;> with_reducible rfl
            (try simp only [Act.put]); (try simp only [List.setIfInBounds_toArray]); (try simp only [List.set_cons_succ]); (try simp only [List.set_cons_zero])
            refine wpAnyH_done (by kernel_rfl) ?_ _
            have HRM := Lib.hid hRM
            have HJ9 := Lib.hid J9
            clear hI hRM J9 hBB
            go_upto_region 15 with fail
            have kd := (Keeps.refl V1).drew
            have hRM := HRM.out.keep kd
            have J9 := HJ9.out.trans kd
            have hm0 : im M 0 < n := HM2.out.2 0 (by decide)
            have hm1 : im M 1 < n := HM2.out.2 1 (by decide)
            have hml : 0 < M.length := by have := HM2.out.1; omega
            have hml1 : (1 : Int) < (M.length : Int) := by have := HM2.out.1; omega
            have q0 : min (im M 0) 16 = im M 0 := by omega
            have q1 : min (im M 1) 16 = im M 1 := by omega
            have hao := hRM.isSome (by omega)
            refine wp_region_held_drew (S := (fun w' => w'.cell? (adr am 0) = some (.int .i64 ((im M 0 : Nat) : Int)) ∧ w'.cell? (adr am 1) = some (.int .i64 ((im M 1 : Nat) : Int)))) (by kernel_rfl) ?_ (fun hHeld => ?_)
            · exact ⟨hRM.cell 0 _ (il_at M 0 (by omega)), hRM.cell 1 _ (il_at M 1 (by omega))⟩
            generalize V1.drew = V2 at *
            refine wpAnyH_take (i := 0) (oi := ⟨_, _, _, _, _, _⟩) (v := ?_) rfl (by kernel_rfl) (by kernel_rfl) (by kernel_rfl) (fun _ _ _ h => h) (Or.inl ⟨by rfl, ?_⟩) (by assumption) ?_
            rotate_left 1
            · intro w hSw; (try dsimp only at hSw); go_simp <;> with_reducible rfl
            (try simp only [Act.put]); (try simp only [List.setIfInBounds_toArray]); (try simp only [List.set_cons_succ]); (try simp only [List.set_cons_zero])
            refine wpAnyH_take (i := 1) (oi := ⟨_, _, _, _, _, _⟩) (v := ?_) rfl (by kernel_rfl) (by kernel_rfl) (by kernel_rfl) (fun _ _ _ h => h) (Or.inl ⟨by rfl, ?_⟩) (by assumption) ?_
            rotate_left 1
            · intro w hSw; (try dsimp only at hSw); go_simp <;> with_reducible rfl
            (try simp only [Act.put]); (try simp only [List.setIfInBounds_toArray]); (try simp only [List.set_cons_succ]); (try simp only [List.set_cons_zero])
            refine wpAnyH_take (i := 2) (oi := ⟨_, _, _, _, _, _⟩) (v := ?_) rfl (by kernel_rfl) (by kernel_rfl) (by kernel_rfl) (fun _ _ _ h => h) (Or.inl ⟨by rfl, ?_⟩) (by assumption) ?_
            rotate_left 1
            · intro w hSw; (try dsimp only at hSw); go_simp <;> with_reducible rfl
            (try simp only [Act.put]); (try simp only [List.setIfInBounds_toArray]); (try simp only [List.set_cons_succ]); (try simp only [List.set_cons_zero])
            refine wpAnyH_take (i := 3) (oi := ⟨_, _, _, _, _, _⟩) (v := ?_) rfl (by kernel_rfl) (by kernel_rfl) (by kernel_rfl) (fun _ _ _ h => h) (Or.inl ⟨by rfl, ?_⟩) (by assumption) ?_
            rotate_left 1
            · intro w hSw; (try dsimp only at hSw); go_simp <;> with_reducible rfl
            (try simp only [Act.put]); (try simp only [List.setIfInBounds_toArray]); (try simp only [List.set_cons_succ]); (try simp only [List.set_cons_zero])
            refine wpAnyH_take (i := 4) (oi := ⟨_, _, _, _, _, _⟩) (v := ?_) rfl (by kernel_rfl) (by kernel_rfl) (by kernel_rfl) (fun _ _ _ h => h) (Or.inl ⟨by rfl, ?_⟩) (by assumption) ?_
            rotate_left 1
            · intro w hSw; (try dsimp only at hSw); go_simp <;> with_reducible rfl
            (try simp only [Act.put]); (try simp only [List.setIfInBounds_toArray]); (try simp only [List.set_cons_succ]); (try simp only [List.set_cons_zero])
            refine wpAnyH_take (i := 5) (oi := ⟨_, _, _, _, _, _⟩) (v := ?_) rfl (by kernel_rfl) (by kernel_rfl) (by kernel_rfl) (fun _ _ _ h => h) (Or.inl ⟨by rfl, ?_⟩) (by assumption) ?_
            rotate_left 1
            · intro w hSw; (try dsimp only at hSw); go_simp <;> with_reducible rfl
            (try simp only [Act.put]); (try simp only [List.setIfInBounds_toArray]); (try simp only [List.set_cons_succ]); (try simp only [List.set_cons_zero])
            refine wpAnyH_take (i := 6) (oi := ⟨_, _, _, _, _, _⟩) (v := ?_) rfl (by kernel_rfl) (by kernel_rfl) (by kernel_rfl) (fun _ _ _ h => h) (Or.inl ⟨by rfl, ?_⟩) (by assumption) ?_
            rotate_left 1
            · intro w hSw; (try dsimp only at hSw); go_simp <;> with_reducible rfl
            (try simp only [Act.put]); (try simp only [List.setIfInBounds_toArray]); (try simp only [List.set_cons_succ]); (try simp only [List.set_cons_zero])
            refine wpAnyH_take (i := 7) (oi := ⟨_, _, _, _, _, _⟩) (v := ?_) rfl (by kernel_rfl) (by kernel_rfl) (by kernel_rfl) (fun _ _ _ h => h) (Or.inl ⟨by rfl, ?_⟩) (by assumption) ?_
            rotate_left 1
            · intro w hSw; (try dsimp only at hSw); go_simp <;> with_reducible rfl
            (try simp only [Act.put]); (try simp only [List.setIfInBounds_toArray]); (try simp only [List.set_cons_succ]); (try simp only [List.set_cons_zero])
            refine wpAnyH_take (i := 8) (oi := ⟨_, _, _, _, _, _⟩) (v := ?_) rfl (by kernel_rfl) (by kernel_rfl) (by kernel_rfl) (fun _ _ _ h => h) (Or.inl ⟨by rfl, ?_⟩) (by assumption) ?_
            rotate_left 1
            · intro w hSw; (try dsimp only at hSw); go_simp <;> with_reducible rfl
            (try simp only [Act.put]); (try simp only [List.setIfInBounds_toArray]); (try simp only [List.set_cons_succ]); (try simp only [List.set_cons_zero])
            refine wpAnyH_take (i := 9) (oi := ⟨_, _, _, _, _, _⟩) (v := ?_) rfl (by kernel_rfl) (by kernel_rfl) (by kernel_rfl) (fun _ _ _ h => h) (Or.inl ⟨by rfl, ?_⟩) (by assumption) ?_
            rotate_left 1
            · intro w hSw; (try dsimp only at hSw); go_simp <;> with_reducible rfl
            (try simp only [Act.put]); (try simp only [List.setIfInBounds_toArray]); (try simp only [List.set_cons_succ]); (try simp only [List.set_cons_zero])
            refine wpAnyH_take (i := 10) (oi := ⟨_, _, _, _, _, _⟩) (v := ?_) rfl (by kernel_rfl) (by kernel_rfl) (by kernel_rfl) (fun _ _ _ h => h) (Or.inl ⟨by rfl, ?_⟩) (by assumption) ?_
            rotate_left 1
            · intro w hSw; (try dsimp only at hSw); go_simp <;> with_reducible rfl
            (try simp only [Act.put]); (try simp only [List.setIfInBounds_toArray]); (try simp only [List.set_cons_succ]); (try simp only [List.set_cons_zero])
            refine wpAnyH_take (i := 11) (oi := ⟨_, _, _, _, _, _⟩) (v := ?_) rfl (by kernel_rfl) (by kernel_rfl) (by kernel_rfl) (fun _ _ _ h => h) (Or.inl ⟨by rfl, ?_⟩) (by assumption) ?_
            rotate_left 1
            · intro w hSw; (try dsimp only at hSw); go_simp <;> with_reducible rfl
            (try simp only [Act.put]); (try simp only [List.setIfInBounds_toArray]); (try simp only [List.set_cons_succ]); (try simp only [List.set_cons_zero])
            refine wpAnyH_ready (rs := [12]) (by kernel_rfl) (by simp) ?_
            refine AllReadyH.cons (o := ⟨_, _, _, _, _, _⟩) rfl (fun K hK => ?_) AllReadyH.nil
            go_simp
            have r1 : Rd (V2.alloc (.cells #[.int .u16 (sv (1#16 <<< im M 0)), .int .u16 (sv q), .string ⟨#[120]⟩, .int .u16 (sv (1#16 <<< im M 1)), .int .u16 (sv q), .string ⟨#[121]⟩] 219)) (some ⟨V2.heap.size, 0, none⟩) 2 2 3 (sdl [(1#16 <<< im M 0, q, strX), (1#16 <<< im M 1, q, strY)]) := rd_new 219 3 V2 _ 2 (by decide) rfl
            have kA := (Keeps.refl V2).alloc (.cells #[.int .u16 (sv (1#16 <<< im M 0)), .int .u16 (sv q), .string ⟨#[120]⟩, .int .u16 (sv (1#16 <<< im M 1)), .int .u16 (sv q), .string ⟨#[121]⟩] 219)
            have hRM := hRM.keep kA
            have J9 := J9.trans kA
            clear kA
            generalize V2.alloc (.cells #[.int .u16 (sv (1#16 <<< im M 0)), .int .u16 (sv q), .string ⟨#[120]⟩, .int .u16 (sv (1#16 <<< im M 1)), .int .u16 (sv q), .string ⟨#[121]⟩] 219) = V3 at *
            refine hK.out _ _ ?_ (fun hHeld => ?_)
            · exact ⟨hRM.cell 0 _ (il_at M 0 (by omega)), hRM.cell 1 _ (il_at M 1 (by omega))⟩
            clear hK K
            (try simp only [Act.put]); (try simp only [List.setIfInBounds_toArray]); (try simp only [List.set_cons_succ]); (try simp only [List.set_cons_zero])
            refine wpAnyH_take (i := 13) (oi := ⟨_, _, _, _, _, _⟩) (v := ?_) rfl (by kernel_rfl) (by kernel_rfl) (by kernel_rfl) (fun _ _ _ h => h) (Or.inl ⟨by rfl, ?_⟩) (by assumption) ?_
            rotate_left 1
            · intro w hSw; (try dsimp only at hSw); go_simp <;> with_reducible rfl
            (try simp only [Act.put]); (try simp only [List.setIfInBounds_toArray]); (try simp only [List.set_cons_succ]); (try simp only [List.set_cons_zero])
            refine wpAnyH_done (by kernel_rfl) ?_ _
            have HR1 := Lib.hid r1
            have HJ9 := Lib.hid J9
            clear r1 J9 hRM hm0 hm1 hml hml1 q0 q1 hao
            go_wp2_with fail
            go_meet
            case rel => exact ⟨_, _, rfl, by rw [HAS.out]; exact HR1.out, HJ9.out⟩
          | false =>
            have HAS : Hid (atkSides n q p t = [(1#16 <<< im M 0, p, strX), (1#16 <<< im M 1, p, strY)]) := Lib.hid (by unfold atkSides lonQ; rw [if_pos ha, if_neg (by rw [hq1]; simp), HMT.out])
            clear ha
            go_upto_region 14 with fail
            clear b0
            have kd := (Keeps.refl wc).drew
            have hBB := HBB.out.keep kd
            have J9 := kd
            refine wp_region_held_drew (S := (fun w' => w'.cell? ⟨BB, 0, none⟩ = some (.int .u16 (sv t)))) (by kernel_rfl) ?_ (fun hHeld => ?_)
            · exact hBB.cell 0 rfl
            generalize wc.drew = V0 at *
            refine wpAnyH_take (i := 0) (oi := ⟨_, _, _, _, _, _⟩) (v := ?_) rfl (by kernel_rfl) (by kernel_rfl) (by kernel_rfl) (fun _ _ _ h => h) (Or.inl ⟨by rfl, ?_⟩) (by assumption) ?_
            rotate_left 1
            · intro w hSw; (try dsimp only at hSw); go_simp <;> with_reducible rfl
            (try simp only [Act.put]); (try simp only [List.setIfInBounds_toArray]); (try simp only [List.set_cons_succ]); (try simp only [List.set_cons_zero])
            refine wpAnyH_take (i := 1) (oi := ⟨_, _, _, _, _, _⟩) (v := ?_) rfl (by kernel_rfl) (by kernel_rfl) (by kernel_rfl) (fun _ _ _ h => h) (Or.inl ⟨by rfl, ?_⟩) (by assumption) ?_
            rotate_left 1
            · intro w hSw; (try dsimp only at hSw); go_simp <;> with_reducible rfl
            (try simp only [Act.put]); (try simp only [List.setIfInBounds_toArray]); (try simp only [List.set_cons_succ]); (try simp only [List.set_cons_zero])
            refine wpAnyH_take (i := 2) (oi := ⟨_, _, _, _, _, _⟩) (v := ?_) rfl (by kernel_rfl) (by kernel_rfl) (by kernel_rfl) (fun _ _ _ h => h) (Or.inl ⟨by rfl, ?_⟩) (by assumption) ?_
            rotate_left 1
            · intro w hSw; (try dsimp only at hSw); go_simp <;> with_reducible rfl
            (try simp only [Act.put]); (try simp only [List.setIfInBounds_toArray]); (try simp only [List.set_cons_succ]); (try simp only [List.set_cons_zero])
            refine wpAnyH_take (i := 3) (oi := ⟨_, _, _, _, _, _⟩) (v := ?_) rfl (by kernel_rfl) (by kernel_rfl) (by kernel_rfl) (fun _ _ _ h => h) (Or.inl ⟨by rfl, ?_⟩) (by assumption) ?_
            rotate_left 1
            · intro w hSw; (try dsimp only at hSw); go_simp <;> with_reducible rfl
            (try simp only [Act.put]); (try simp only [List.setIfInBounds_toArray]); (try simp only [List.set_cons_succ]); (try simp only [List.set_cons_zero])
            refine wpAnyH_take (i := 4) (oi := ⟨_, _, _, _, _, _⟩) (v := ?_) rfl (by kernel_rfl) (by kernel_rfl) (by kernel_rfl) (fun _ _ _ h => h) (Or.inl ⟨by rfl, ?_⟩) (by assumption) ?_
            rotate_left 1
            · intro w hSw; (try dsimp only at hSw); go_simp <;> with_reducible rfl
            (try simp only [Act.put]); (try simp only [List.setIfInBounds_toArray]); (try simp only [List.set_cons_succ]); (try simp only [List.set_cons_zero])
            refine wpAnyH_ready (rs := [5]) (by kernel_rfl) (by simp) ?_
            refine AllReadyH.cons (o := ⟨_, _, _, _, _, _⟩) rfl (fun K hK => ?_) AllReadyH.nil
            go_simp
            refine (HMM.out _ J9).mono ?_
            rintro e V1 ⟨mv, rfl, hI⟩
            obtain ⟨am, cm, rfl, hRM⟩ := hI.rd
            have hBB := hBB.keep hI.2
            have J9 := J9.trans hI.2
            refine hK.out _ _ ?_ (fun hHeld => ?_)
            · exact hBB.cell 0 rfl
            clear hK K
            (try simp only [Act.put]); (try simp only [List.setIfInBounds_toArray]); (try simp only [List.set_cons_succ]); (try simp only [List.set_cons_zero])
            refine wpAnyH_take (i := 6) (oi := ⟨_, _, _, _, _, _⟩) (v := ?_) rfl (by kernel_rfl) (by kernel_rfl) (by kernel_rfl) (fun _ _ _ h => h) (Or.inl ⟨by rfl, ?_⟩) (by assumption) ?_
            rotate_left 1
            · intro w hSw; (try dsimp only at hSw); go_simp <;> with_reducible rfl
            (try simp only [Act.put]); (try simp only [List.setIfInBounds_toArray]); (try simp only [List.set_cons_succ]); (try simp only [List.set_cons_zero])
            refine wpAnyH_done (by kernel_rfl) ?_ _
            have HRM := Lib.hid hRM
            have HJ9 := Lib.hid J9
            clear hI hRM J9 hBB
            go_upto_region 15 with fail
            have kd := (Keeps.refl V1).drew
            have hRM := HRM.out.keep kd
            have J9 := HJ9.out.trans kd
            have hm0 : im M 0 < n := HM2.out.2 0 (by decide)
            have hm1 : im M 1 < n := HM2.out.2 1 (by decide)
            have hml : 0 < M.length := by have := HM2.out.1; omega
            have hml1 : (1 : Int) < (M.length : Int) := by have := HM2.out.1; omega
            have q0 : min (im M 0) 16 = im M 0 := by omega
            have q1 : min (im M 1) 16 = im M 1 := by omega
            have hao := hRM.isSome (by omega)
            refine wp_region_held_drew (S := (fun w' => w'.cell? (adr am 0) = some (.int .i64 ((im M 0 : Nat) : Int)) ∧ w'.cell? (adr am 1) = some (.int .i64 ((im M 1 : Nat) : Int)))) (by kernel_rfl) ?_ (fun hHeld => ?_)
            · exact ⟨hRM.cell 0 _ (il_at M 0 (by omega)), hRM.cell 1 _ (il_at M 1 (by omega))⟩
            generalize V1.drew = V2 at *
            refine wpAnyH_take (i := 0) (oi := ⟨_, _, _, _, _, _⟩) (v := ?_) rfl (by kernel_rfl) (by kernel_rfl) (by kernel_rfl) (fun _ _ _ h => h) (Or.inl ⟨by rfl, ?_⟩) (by assumption) ?_
            rotate_left 1
            · intro w hSw; (try dsimp only at hSw); go_simp <;> with_reducible rfl
            (try simp only [Act.put]); (try simp only [List.setIfInBounds_toArray]); (try simp only [List.set_cons_succ]); (try simp only [List.set_cons_zero])
            refine wpAnyH_take (i := 1) (oi := ⟨_, _, _, _, _, _⟩) (v := ?_) rfl (by kernel_rfl) (by kernel_rfl) (by kernel_rfl) (fun _ _ _ h => h) (Or.inl ⟨by rfl, ?_⟩) (by assumption) ?_
            rotate_left 1
            · intro w hSw; (try dsimp only at hSw); go_simp <;> with_reducible rfl
            (try simp only [Act.put]); (try simp only [List.setIfInBounds_toArray]); (try simp only [List.set_cons_succ]); (try simp only [List.set_cons_zero])
            refine wpAnyH_take (i := 2) (oi := ⟨_, _, _, _, _, _⟩) (v := ?_) rfl (by kernel_rfl) (by kernel_rfl) (by kernel_rfl) (fun _ _ _ h => h) (Or.inl ⟨by rfl, ?_⟩) (by assumption) ?_
            rotate_left 1
            · intro w hSw; (try dsimp only at hSw); go_simp <;> with_reducible rfl
            (try simp only [Act.put]); (try simp only [List.setIfInBounds_toArray]); (try simp only [List.set_cons_succ]); (try simp only [List.set_cons_zero])
            refine wpAnyH_take (i := 3) (oi := ⟨_, _, _, _, _, _⟩) (v := ?_) rfl (by kernel_rfl) (by kernel_rfl) (by kernel_rfl) (fun _ _ _ h => h) (Or.inl ⟨by rfl, ?_⟩) (by assumption) ?_
            rotate_left 1
            · intro w hSw; (try dsimp only at hSw); go_simp <;> with_reducible rfl
            (try simp only [Act.put]); (try simp only [List.setIfInBounds_toArray]); (try simp only [List.set_cons_succ]); (try simp only [List.set_cons_zero])
            refine wpAnyH_take (i := 4) (oi := ⟨_, _, _, _, _, _⟩) (v := ?_) rfl (by kernel_rfl) (by kernel_rfl) (by kernel_rfl) (fun _ _ _ h => h) (Or.inl ⟨by rfl, ?_⟩) (by assumption) ?_
            rotate_left 1
            · intro w hSw; (try dsimp only at hSw); go_simp <;> with_reducible rfl
            (try simp only [Act.put]); (try simp only [List.setIfInBounds_toArray]); (try simp only [List.set_cons_succ]); (try simp only [List.set_cons_zero])
            refine wpAnyH_take (i := 5) (oi := ⟨_, _, _, _, _, _⟩) (v := ?_) rfl (by kernel_rfl) (by kernel_rfl) (by kernel_rfl) (fun _ _ _ h => h) (Or.inl ⟨by rfl, ?_⟩) (by assumption) ?_
            rotate_left 1
            · intro w hSw; (try dsimp only at hSw); go_simp <;> with_reducible rfl
            (try simp only [Act.put]); (try simp only [List.setIfInBounds_toArray]); (try simp only [List.set_cons_succ]); (try simp only [List.set_cons_zero])
            refine wpAnyH_take (i := 6) (oi := ⟨_, _, _, _, _, _⟩) (v := ?_) rfl (by kernel_rfl) (by kernel_rfl) (by kernel_rfl) (fun _ _ _ h => h) (Or.inl ⟨by rfl, ?_⟩) (by assumption) ?_
            rotate_left 1
            · intro w hSw; (try dsimp only at hSw); go_simp <;> with_reducible rfl
            (try simp only [Act.put]); (try simp only [List.setIfInBounds_toArray]); (try simp only [List.set_cons_succ]); (try simp only [List.set_cons_zero])
            refine wpAnyH_take (i := 7) (oi := ⟨_, _, _, _, _, _⟩) (v := ?_) rfl (by kernel_rfl) (by kernel_rfl) (by kernel_rfl) (fun _ _ _ h => h) (Or.inl ⟨by rfl, ?_⟩) (by assumption) ?_
            rotate_left 1
            · intro w hSw; (try dsimp only at hSw); go_simp <;> with_reducible rfl
            (try simp only [Act.put]); (try simp only [List.setIfInBounds_toArray]); (try simp only [List.set_cons_succ]); (try simp only [List.set_cons_zero])
            refine wpAnyH_take (i := 8) (oi := ⟨_, _, _, _, _, _⟩) (v := ?_) rfl (by kernel_rfl) (by kernel_rfl) (by kernel_rfl) (fun _ _ _ h => h) (Or.inl ⟨by rfl, ?_⟩) (by assumption) ?_
            rotate_left 1
            · intro w hSw; (try dsimp only at hSw); go_simp <;> with_reducible rfl
            (try simp only [Act.put]); (try simp only [List.setIfInBounds_toArray]); (try simp only [List.set_cons_succ]); (try simp only [List.set_cons_zero])
            refine wpAnyH_take (i := 9) (oi := ⟨_, _, _, _, _, _⟩) (v := ?_) rfl (by kernel_rfl) (by kernel_rfl) (by kernel_rfl) (fun _ _ _ h => h) (Or.inl ⟨by rfl, ?_⟩) (by assumption) ?_
            rotate_left 1
            · intro w hSw; (try dsimp only at hSw); go_simp <;> with_reducible rfl
            (try simp only [Act.put]); (try simp only [List.setIfInBounds_toArray]); (try simp only [List.set_cons_succ]); (try simp only [List.set_cons_zero])
            refine wpAnyH_take (i := 10) (oi := ⟨_, _, _, _, _, _⟩) (v := ?_) rfl (by kernel_rfl) (by kernel_rfl) (by kernel_rfl) (fun _ _ _ h => h) (Or.inl ⟨by rfl, ?_⟩) (by assumption) ?_
            rotate_left 1
            · intro w hSw; (try dsimp only at hSw); go_simp <;> with_reducible rfl
            (try simp only [Act.put]); (try simp only [List.setIfInBounds_toArray]); (try simp only [List.set_cons_succ]); (try simp only [List.set_cons_zero])
            refine wpAnyH_take (i := 11) (oi := ⟨_, _, _, _, _, _⟩) (v := ?_) rfl (by kernel_rfl) (by kernel_rfl) (by kernel_rfl) (fun _ _ _ h => h) (Or.inl ⟨by rfl, ?_⟩) (by assumption) ?_
            rotate_left 1
            · intro w hSw; (try dsimp only at hSw); go_simp <;> with_reducible rfl
            (try simp only [Act.put]); (try simp only [List.setIfInBounds_toArray]); (try simp only [List.set_cons_succ]); (try simp only [List.set_cons_zero])
            refine wpAnyH_ready (rs := [12]) (by kernel_rfl) (by simp) ?_
            refine AllReadyH.cons (o := ⟨_, _, _, _, _, _⟩) rfl (fun K hK => ?_) AllReadyH.nil
            go_simp
            have r1 : Rd (V2.alloc (.cells #[.int .u16 (sv (1#16 <<< im M 0)), .int .u16 (sv p), .string ⟨#[120]⟩, .int .u16 (sv (1#16 <<< im M 1)), .int .u16 (sv p), .string ⟨#[121]⟩] 219)) (some ⟨V2.heap.size, 0, none⟩) 2 2 3 (sdl [(1#16 <<< im M 0, p, strX), (1#16 <<< im M 1, p, strY)]) := rd_new 219 3 V2 _ 2 (by decide) rfl
            have kA := (Keeps.refl V2).alloc (.cells #[.int .u16 (sv (1#16 <<< im M 0)), .int .u16 (sv p), .string ⟨#[120]⟩, .int .u16 (sv (1#16 <<< im M 1)), .int .u16 (sv p), .string ⟨#[121]⟩] 219)
            have hRM := hRM.keep kA
            have J9 := J9.trans kA
            clear kA
            generalize V2.alloc (.cells #[.int .u16 (sv (1#16 <<< im M 0)), .int .u16 (sv p), .string ⟨#[120]⟩, .int .u16 (sv (1#16 <<< im M 1)), .int .u16 (sv p), .string ⟨#[121]⟩] 219) = V3 at *
            refine hK.out _ _ ?_ (fun hHeld => ?_)
            · exact ⟨hRM.cell 0 _ (il_at M 0 (by omega)), hRM.cell 1 _ (il_at M 1 (by omega))⟩
            clear hK K
            (try simp only [Act.put]); (try simp only [List.setIfInBounds_toArray]); (try simp only [List.set_cons_succ]); (try simp only [List.set_cons_zero])
            refine wpAnyH_take (i := 13) (oi := ⟨_, _, _, _, _, _⟩) (v := ?_) rfl (by kernel_rfl) (by kernel_rfl) (by kernel_rfl) (fun _ _ _ h => h) (Or.inl ⟨by rfl, ?_⟩) (by assumption) ?_
            rotate_left 1
            · intro w hSw; (try dsimp only at hSw); go_simp <;> with_reducible rfl
            (try simp only [Act.put]); (try simp only [List.setIfInBounds_toArray]); (try simp only [List.set_cons_succ]); (try simp only [List.set_cons_zero])
            refine wpAnyH_done (by kernel_rfl) ?_ _
            have HR1 := Lib.hid r1
            have HJ9 := Lib.hid J9
            clear r1 J9 hRM hm0 hm1 hml hml1 q0 q1 hao
            go_wp2_with fail
            go_meet
            case rel => exact ⟨_, _, rfl, by rw [HAS.out]; exact HR1.out, HJ9.out⟩
      case rest =>
      obtain ⟨sa, sc, rfl, hSD, k10⟩ := hcut
      obtain ⟨W10, rfl⟩ : ∃ W, W = wc := ⟨_, rfl⟩
      have HSD := Lib.hid hSD
      have HBB10 := Lib.hid (HBB.out.keep k10); have HJ10 := Lib.hid (HJ.out.trans k10); have HBR10 := Lib.hid (HBR.out.keep k10)
      have HTZ := Lib.hid (fun W (k : Keeps W10 W) => tz_any t W (HT.out.keep (HJ10.out.trans k)) (splP_iff.1 HSPP.out).1)
      clear HBB HJ HBR HRD hSD k10
      go_upto_region 16 with fail
      go_cut [16] (fun s16 wx => ∃ BP B nv, s16 = .pointer (some ⟨BP, 0, none⟩) ∧ Blk wx BP 140 #[.pointer (some ⟨B, 0, none⟩)] ∧ RunW W10 wx B (.slice fa fm fc) (.slice ba bm bc) n t (tzS t) nv (startNA n) (.slice none 0 0) [] (.slice none 0 0) [])
      case first =>
        have J := (Keeps.refl W10).drew
        have hBB := HBB10.out.keep J
        refine wp_region_held_drew (S := (fun w' => w'.cell? ⟨BB, 0, none⟩ = some (.int .u16 (sv t)))) (by kernel_rfl) ?_ (fun hHeld => ?_)
        · exact hBB.cell 0 rfl
        generalize W10.drew = V0 at *
        refine wpAnyH_take (i := 0) (oi := ⟨_, _, _, _, _, _⟩) (v := ?_) rfl (by kernel_rfl) (by kernel_rfl) (by kernel_rfl) (fun _ _ _ h => h) (Or.inl ⟨by rfl, ?_⟩) (by assumption) ?_
        rotate_left 1
        · intro w hSw; (try dsimp only at hSw); go_simp <;> with_reducible rfl
        (try simp only [Act.put]); (try simp only [List.setIfInBounds_toArray]); (try simp only [List.set_cons_succ]); (try simp only [List.set_cons_zero])
        refine wpAnyH_take (i := 1) (oi := ⟨_, _, _, _, _, _⟩) (v := ?_) rfl (by kernel_rfl) (by kernel_rfl) (by kernel_rfl) (fun _ _ _ h => h) (Or.inl ⟨by rfl, ?_⟩) (by assumption) ?_
        rotate_left 1
        · intro w hSw; (try dsimp only at hSw); go_simp <;> with_reducible rfl
        (try simp only [Act.put]); (try simp only [List.setIfInBounds_toArray]); (try simp only [List.set_cons_succ]); (try simp only [List.set_cons_zero])
        refine wpAnyH_take (i := 2) (oi := ⟨_, _, _, _, _, _⟩) (v := ?_) rfl (by kernel_rfl) (by kernel_rfl) (by kernel_rfl) (fun _ _ _ h => h) (Or.inl ⟨by rfl, ?_⟩) (by assumption) ?_
        rotate_left 1
        · intro w hSw; (try dsimp only at hSw); go_simp <;> with_reducible rfl
        (try simp only [Act.put]); (try simp only [List.setIfInBounds_toArray]); (try simp only [List.set_cons_succ]); (try simp only [List.set_cons_zero])
        refine wpAnyH_take (i := 3) (oi := ⟨_, _, _, _, _, _⟩) (v := ?_) rfl (by kernel_rfl) (by kernel_rfl) (by kernel_rfl) (fun _ _ _ h => h) (Or.inl ⟨by rfl, ?_⟩) (by assumption) ?_
        rotate_left 1
        · intro w hSw; (try dsimp only at hSw); go_simp <;> with_reducible rfl
        (try simp only [Act.put]); (try simp only [List.setIfInBounds_toArray]); (try simp only [List.set_cons_succ]); (try simp only [List.set_cons_zero])
        refine wpAnyH_take (i := 4) (oi := ⟨_, _, _, _, _, _⟩) (v := ?_) rfl (by kernel_rfl) (by kernel_rfl) (by kernel_rfl) (fun _ _ _ h => h) (Or.inl ⟨by rfl, ?_⟩) (by assumption) ?_
        rotate_left 1
        · intro w hSw; (try dsimp only at hSw); go_simp <;> with_reducible rfl
        (try simp only [Act.put]); (try simp only [List.setIfInBounds_toArray]); (try simp only [List.set_cons_succ]); (try simp only [List.set_cons_zero])
        refine wpAnyH_ready (rs := [5, 7]) (by kernel_rfl) (by simp) ?_
        refine AllReadyH.cons (o := ⟨_, _, _, _, _, _⟩) rfl (fun K hK => ?_) (AllReadyH.cons (o := ⟨_, _, _, _, _, _⟩) rfl (fun K hK => ?_) AllReadyH.nil)
        · go_simp
          refine (HTZ.out _ J).mono ?_
          rintro e wz ⟨rfl, rfl⟩
          refine hK.out _ _ ?_ (fun hHeld => ?_)
          · exact hBB.cell 0 rfl
          clear hK K
          (try simp only [Act.put]); (try simp only [List.setIfInBounds_toArray]); (try simp only [List.set_cons_succ]); (try simp only [List.set_cons_zero])
          refine wpAnyH_ready (rs := [6, 7]) (by kernel_rfl) (by simp) ?_
          refine AllReadyH.cons (o := ⟨_, _, _, _, _, _⟩) rfl (fun K hK => ?_) (AllReadyH.cons (o := ⟨_, _, _, _, _, _⟩) rfl (fun K hK => ?_) AllReadyH.nil)
          · go_simp
            refine (newRun39_any V0 fa fm fc ba bm bc n t (tzS t) (by omega)).mono ?_
            rintro e V1 ⟨B, nv, rfl, kn, hR⟩
            have hR := hR.since J
            have J := J.trans kn
            have hBB := hBB.keep kn
            refine hK.out _ _ ?_ (fun hHeld => ?_)
            · exact hBB.cell 0 rfl
            clear hK K
            (try simp only [Act.put]); (try simp only [List.setIfInBounds_toArray]); (try simp only [List.set_cons_succ]); (try simp only [List.set_cons_zero])
            refine wpAnyH_ready (rs := [7]) (by kernel_rfl) (by simp) ?_
            refine AllReadyH.cons (o := ⟨_, _, _, _, _, _⟩) rfl (fun K hK => ?_) AllReadyH.nil
            go_simp
            have hBP := Blk.new V1 140 #[.pointer none]
            have kA := (Keeps.refl V1).alloc (.cells #[.pointer none] 140)
            have hlp : W10.heap.size ≤ V1.heap.size := J.size
            have J := J.trans kA
            have hBB := hBB.keep kA
            have hR := hR.keep kA
            clear kA
            generalize V1.alloc (.cells #[.pointer none] 140) = V2 at *
            generalize V1.heap.size = BP at *
            refine hK.out _ _ ?_ (fun hHeld => ?_)
            · exact hBB.cell 0 rfl
            clear hK K
            (try simp only [Act.put]); (try simp only [List.setIfInBounds_toArray]); (try simp only [List.set_cons_succ]); (try simp only [List.set_cons_zero])
            refine wpAnyH_ready (rs := [8]) (by kernel_rfl) (by simp) ?_
            refine AllReadyH.cons (o := ⟨_, _, _, _, _, _⟩) rfl (fun K hK => ?_) AllReadyH.nil
            have g0 := hBP.cell 0 rfl
            have f0 := hBP.frozen 0
            go_simp
            clear g0 f0
            have hR := hR.setT hBP (by decide) (by decide) (by decide) (by decide) hlp 0 (.pointer (some ⟨B, 0, none⟩))
            have hBB := hBB.setOther (hBB.ne hBP (by decide)) 0 (.pointer (some ⟨B, 0, none⟩))
            have hBP := hBP.set 0 (.pointer (some ⟨B, 0, none⟩))
            generalize V2.setCell ⟨BP, 0, none⟩ (.pointer (some ⟨B, 0, none⟩)) = VF at *
            refine hK.out _ _ ?_ (fun hHeld => ?_)
            · exact hBB.cell 0 rfl
            clear hK K
            (try simp only [Act.put]); (try simp only [List.setIfInBounds_toArray]); (try simp only [List.set_cons_succ]); (try simp only [List.set_cons_zero])
            refine wpAnyH_done (by kernel_rfl) ?_ _
            have HR := Lib.hid hR
            have HBPP := Lib.hid hBP
            clear hR hBP
            go_wp2_with fail
            go_meet
            case rel => exact ⟨BP, B, nv, rfl, HBPP.out, HR.out⟩
          · go_simp
            have hBP := Blk.new V0 140 #[.pointer none]
            have kA := (Keeps.refl V0).alloc (.cells #[.pointer none] 140)
            have hlp : W10.heap.size ≤ V0.heap.size := J.size
            have J := J.trans kA
            have hBB := hBB.keep kA
            clear kA
            generalize V0.alloc (.cells #[.pointer none] 140) = V1 at *
            generalize V0.heap.size = BP at *
            refine hK.out _ _ ?_ (fun hHeld => ?_)
            · exact hBB.cell 0 rfl
            clear hK K
            (try simp only [Act.put]); (try simp only [List.setIfInBounds_toArray]); (try simp only [List.set_cons_succ]); (try simp only [List.set_cons_zero])
            refine wpAnyH_ready (rs := [6]) (by kernel_rfl) (by simp) ?_
            refine AllReadyH.cons (o := ⟨_, _, _, _, _, _⟩) rfl (fun K hK => ?_) AllReadyH.nil
            go_simp
            refine (newRun39_any V1 fa fm fc ba bm bc n t (tzS t) (by omega)).mono ?_
            rintro e V2 ⟨B, nv, rfl, kn, hR⟩
            have hR := hR.since J
            have J := J.trans kn
            have hBB := hBB.keep kn
            have hBP := hBP.keep kn
            refine hK.out _ _ ?_ (fun hHeld => ?_)
            · exact hBB.cell 0 rfl
            clear hK K
            (try simp only [Act.put]); (try simp only [List.setIfInBounds_toArray]); (try simp only [List.set_cons_succ]); (try simp only [List.set_cons_zero])
            refine wpAnyH_ready (rs := [8]) (by kernel_rfl) (by simp) ?_
            refine AllReadyH.cons (o := ⟨_, _, _, _, _, _⟩) rfl (fun K hK => ?_) AllReadyH.nil
            have g0 := hBP.cell 0 rfl
            have f0 := hBP.frozen 0
            go_simp
            clear g0 f0
            have hR := hR.setT hBP (by decide) (by decide) (by decide) (by decide) hlp 0 (.pointer (some ⟨B, 0, none⟩))
            have hBB := hBB.setOther (hBB.ne hBP (by decide)) 0 (.pointer (some ⟨B, 0, none⟩))
            have hBP := hBP.set 0 (.pointer (some ⟨B, 0, none⟩))
            generalize V2.setCell ⟨BP, 0, none⟩ (.pointer (some ⟨B, 0, none⟩)) = VF at *
            refine hK.out _ _ ?_ (fun hHeld => ?_)
            · exact hBB.cell 0 rfl
            clear hK K
            (try simp only [Act.put]); (try simp only [List.setIfInBounds_toArray]); (try simp only [List.set_cons_succ]); (try simp only [List.set_cons_zero])
            refine wpAnyH_done (by kernel_rfl) ?_ _
            have HR := Lib.hid hR
            have HBPP := Lib.hid hBP
            clear hR hBP
            go_wp2_with fail
            go_meet
            case rel => exact ⟨BP, B, nv, rfl, HBPP.out, HR.out⟩
        · go_simp
          have hBP := Blk.new V0 140 #[.pointer none]
          have kA := (Keeps.refl V0).alloc (.cells #[.pointer none] 140)
          have hlp : W10.heap.size ≤ V0.heap.size := J.size
          have J := J.trans kA
          have hBB := hBB.keep kA
          clear kA
          generalize V0.alloc (.cells #[.pointer none] 140) = V1 at *
          generalize V0.heap.size = BP at *
          refine hK.out _ _ ?_ (fun hHeld => ?_)
          · exact hBB.cell 0 rfl
          clear hK K
          (try simp only [Act.put]); (try simp only [List.setIfInBounds_toArray]); (try simp only [List.set_cons_succ]); (try simp only [List.set_cons_zero])
          refine wpAnyH_ready (rs := [5]) (by kernel_rfl) (by simp) ?_
          refine AllReadyH.cons (o := ⟨_, _, _, _, _, _⟩) rfl (fun K hK => ?_) AllReadyH.nil
          go_simp
          refine (HTZ.out _ J).mono ?_
          rintro e wz ⟨rfl, rfl⟩
          refine hK.out _ _ ?_ (fun hHeld => ?_)
          · exact hBB.cell 0 rfl
          clear hK K
          (try simp only [Act.put]); (try simp only [List.setIfInBounds_toArray]); (try simp only [List.set_cons_succ]); (try simp only [List.set_cons_zero])
          refine wpAnyH_ready (rs := [6]) (by kernel_rfl) (by simp) ?_
          refine AllReadyH.cons (o := ⟨_, _, _, _, _, _⟩) rfl (fun K hK => ?_) AllReadyH.nil
          go_simp
          refine (newRun39_any V1 fa fm fc ba bm bc n t (tzS t) (by omega)).mono ?_
          rintro e V2 ⟨B, nv, rfl, kn, hR⟩
          have hR := hR.since J
          have J := J.trans kn
          have hBB := hBB.keep kn
          have hBP := hBP.keep kn
          refine hK.out _ _ ?_ (fun hHeld => ?_)
          · exact hBB.cell 0 rfl
          clear hK K
          (try simp only [Act.put]); (try simp only [List.setIfInBounds_toArray]); (try simp only [List.set_cons_succ]); (try simp only [List.set_cons_zero])
          refine wpAnyH_ready (rs := [8]) (by kernel_rfl) (by simp) ?_
          refine AllReadyH.cons (o := ⟨_, _, _, _, _, _⟩) rfl (fun K hK => ?_) AllReadyH.nil
          have g0 := hBP.cell 0 rfl
          have f0 := hBP.frozen 0
          go_simp
          clear g0 f0
          have hR := hR.setT hBP (by decide) (by decide) (by decide) (by decide) hlp 0 (.pointer (some ⟨B, 0, none⟩))
          have hBB := hBB.setOther (hBB.ne hBP (by decide)) 0 (.pointer (some ⟨B, 0, none⟩))
          have hBP := hBP.set 0 (.pointer (some ⟨B, 0, none⟩))
          generalize V2.setCell ⟨BP, 0, none⟩ (.pointer (some ⟨B, 0, none⟩)) = VF at *
          refine hK.out _ _ ?_ (fun hHeld => ?_)
          · exact hBB.cell 0 rfl
          clear hK K
          (try simp only [Act.put]); (try simp only [List.setIfInBounds_toArray]); (try simp only [List.set_cons_succ]); (try simp only [List.set_cons_zero])
          refine wpAnyH_done (by kernel_rfl) ?_ _
          have HR := Lib.hid hR
          have HBPP := Lib.hid hBP
          clear hR hBP
          go_wp2_with fail
          go_meet
          case rel => exact ⟨BP, B, nv, rfl, HBPP.out, HR.out⟩
      case rest =>
      obtain ⟨BP, B, nv, rfl, hBP, hR⟩ := hcut
      have HLL := Lib.hid (sides_lt (by omega) HLT.out.1 HLT.out.2.1 HLT.out.2.2 HSPP.out)
      have HL2 := Lib.hid (sides_len n q p t)
      have HSR := Lib.hid (tz_bit (small_lt (by omega) HLT.out.2.2) (splP_iff.1 HSPP.out).1).1
      have HATK : Hid (atkS f b n q p t = foldSd f b n t (tzS t) (atkSides n q p t) ⟨startN n, []⟩) := Lib.hid rfl
      generalize atkSides n q p t = L at *
      have HR := Lib.hid hR; have HBP := Lib.hid hBP
      clear hR hBP HTZ
      go_wp2_with fail
      go_loopw [107] (fun u wr => ∃ (k : Nat) (nv : Value) (nas : List NA) (gv : Value) (fl : List Ct), k ≤ 2 ∧ u = .int .i64 k ∧ RunW W10 wr B (.slice fa fm fc) (.slice ba bm bc) n t (tzS t) nv nas gv fl (.slice none 0 0) [] ∧ Blk wr BP 140 #[.pointer (some ⟨B, 0, none⟩)] ∧ Hid (foldSd f b n t (tzS t) L ⟨startN n, []⟩ = foldSd f b n t (tzS t) (L.drop k) ⟨nas.map NA.x, fl⟩) ∧ Hid (AOk n ⟨nas.map NA.x, fl⟩) ∧ Hid (fl.length ≤ 1000 * k)) (fun u _ => 2 - (RowKit.intOf u).toNat)
      case atStart => exact ⟨0, nv, startNA n, _, [], by omega, rfl, HR.out, HBP.out, Lib.hid (by rw [startNA_x]; rfl), Lib.hid (by rw [startNA_x]; exact AOk.start n (by omega)), Lib.hid (by simp)⟩
      case round =>
        clear HR HBP
        obtain ⟨k, nv, nas, gv, fl, hk, rfl, hR, hBP, HFO, HA, HLF⟩ := hrel
        by_cases hlt : k < 2
        · obtain ⟨s0, s1, s2⟩ := sd_at (HSD.out.keep hR.keeps) hlt
          have hao := (HSD.out.keep hR.keeps).isSome (by omega)
          have HDR := Lib.hid (drop_sdA L k (by rw [HL2.out]; exact hlt))
          have HSK := Lib.hid (HLL.out _ (sdA_mem (l := L) (i := k) (by rw [HL2.out]; exact hlt)))
          generalize sdA L k = sk at *
          obtain ⟨A, p1, v⟩ := sk
          dsimp only at s0 s1 s2
          have kA := (Keeps.refl wr).alloc (.cells #[.int .u16 (sv A), .int .u16 (sv p1), .string v] 219)
          have HBS := Lib.hid (Blk.new wr 219 #[.int .u16 (sv A), .int .u16 (sv p1), .string v])
          have HR := Lib.hid (hR.keep kA); have HBP := Lib.hid (hBP.keep kA)
          clear hR hBP kA
          go_upto_region 21 with fail
          clear s0 s1 s2
          generalize wr.alloc (.cells #[.int .u16 (sv A), .int .u16 (sv p1), .string v] 219) = wS at *
          generalize wr.heap.size = BS at *
          have HSA := Lib.hid (small_lt (n := n) (by omega) HSK.out.1)
          have hsay := say39_any W10 wS (HT.out.keep (HJ10.out.trans HR.out.keeps)) B BS BP _ _ n t (tzS t) nv nas gv fl _ _ A p1 v 1 (tzS t) HSA.out (by have := HLF.out; omega) HBS.out HBP.out HR.out
          have HSAY := Lib.hid hsay
          have p0 := HBP.out.cell 0 (v := .pointer (some ⟨B, 0, none⟩)) rfl
          have b4 := HR.out.box.cell 4 (v := .int .i64 (tzS t)) rfl
          clear hsay
          go_wp2_with fail
          refine HSAY.out.mono ?_
          rintro e w3 ⟨rfl, gv1, hR, hT3⟩
          have hBS := hT3.2 _ _ _ HBS.out ty3_sd
          have hBP := hT3.2 _ _ _ HBP.out ty3_p
          have kB := (Keeps.refl w3).alloc (.cells #[.int .i64 2, .int .i64 3] 3)
          have r2 : Rd (w3.alloc (.cells #[.int .i64 2, .int .i64 3] 3)) (some ⟨w3.heap.size, 0, none⟩) 2 2 1 (il [2, 3]) := rd_new 3 1 w3 _ 2 (by decide) rfl
          have o2 : Row0 3 1 (w3.alloc (.cells #[.int .i64 2, .int .i64 3] 3)) (.slice (some ⟨w3.heap.size, 0, none⟩) 2 2) 2 (il [2, 3]) := (Own.made (e := 3) (sz := 1) (Keeps.refl w3) (il [2, 3]) 2 (by decide) rfl).row0
          have HR1 := Lib.hid (hR.keep kB); have HBS1 := Lib.hid (hBS.keep kB); have HBP1 := Lib.hid (hBP.keep kB); have HK2 := Lib.hid o2
          clear hT3 HBS HBP HR HSAY p0 b4 hR hBS hBP kB r2 o2
          go_wp2_with fail
          generalize w3.alloc (.cells #[.int .i64 2, .int .i64 3] 3) = w4 at *
          generalize w3.heap.size = BK at *
          obtain ⟨F1, hF1⟩ : ∃ F1, F1 = fl ++ sayL A 1 (tzS t) v := ⟨_, rfl⟩
          rw [← hF1] at HR1
          have HF1 := Lib.hid hF1
          have HL1 : Hid (F1.length ≤ 1000 * k + 16) := Lib.hid (by have h1 := sayL_len A 1 (tzS t) v; have h2 := HLF.out; rw [hF1, List.length_append]; omega)
          clear hF1
          go_loopw [121] (fun u wr => ∃ (j : Nat) (gv : Value) (F2 : List Ct), j ≤ 2 ∧ u = .int .i64 j ∧ RunW W10 wr B (.slice fa fm fc) (.slice ba bm bc) n t (tzS t) nv nas gv F2 (.slice none 0 0) [] ∧ TyF w4 wr ∧ Hid (F2 = F1 ++ kndP A p1 t v j) ∧ Hid (F2.length ≤ 1000 * k + 16 + 300 * j)) (fun u _ => 2 - (RowKit.intOf u).toNat)
          case atStart => exact ⟨0, _, F1, by omega, rfl, HR1.out, .refl _, Lib.hid (by simp [kndP]), Lib.hid (by have := HL1.out; omega)⟩
          case round =>
            clear HR1
            obtain ⟨j, gv2, F2, hj, rfl, hR, hT4, HF2, HL2'⟩ := hrel
            have HR := Lib.hid hR
            have HT4 := Lib.hid hT4
            have hBS := hT4.2 _ _ _ HBS1.out ty3_sd
            have hBP := hT4.2 _ _ _ HBP1.out ty3_p
            have HBS := Lib.hid hBS
            have HBP := Lib.hid hBP
            by_cases hlj : j < 2
            · have hI := (HK2.out.tyf ty3_int hT4).rd
              have q0 := hI.cell j _ (il_at [2, 3] j hlj)
              rw [adr_some, Nat.zero_add] at q0
              have s1 := hBS.cell 1 (v := .int .u16 (sv p1)) rfl
              have b0 := (HBB10.out.keep hR.keeps).cell 0 (v := .int .u16 (sv t)) rfl
              have hm := membersB_any (p1 &&& t) wr (HT.out.keep (HJ10.out.trans hR.keeps)) (small_and HSK.out.2 (by omega))
              have HSU := Lib.hid (kndP_succ A p1 t v j hlj)
              have hml := memL_len (p1 &&& t)
              generalize im [2, 3] j = kd at *
              generalize memL (p1 &&& t) = M at *
              have HM := Lib.hid hm
              clear hm hI hBS hBP hT4 hR
              go_wp2_with fail
              refine HM.out.mono ?_
              rintro e w5 ⟨mv, rfl, hI⟩
              obtain ⟨am, cm, rfl, _⟩ := hI.rd
              have HI := Lib.hid hI.row0
              have HR5 := Lib.hid (HR.out.keep hI.2); have HBS5 := Lib.hid (HBS.out.keep hI.2); have HBP5 := Lib.hid (HBP.out.keep hI.2)
              have HT5 := Lib.hid (HT4.out.trans (.of hI.2))
              clear HM hI q0 s1 b0 HR HBS HBP HT4
              go_wp2_with fail
              go_loopw [131] (fun u wr => ∃ (m : Nat) (gv : Value) (F3 : List Ct), m ≤ M.length ∧ u = .int .i64 m ∧ RunW W10 wr B (.slice fa fm fc) (.slice ba bm bc) n t (tzS t) nv nas gv F3 (.slice none 0 0) [] ∧ TyF w5 wr ∧ Hid (F3 = F2 ++ inP A v kd (M.take m)) ∧ Hid (F3.length ≤ F2.length + 16 * m)) (fun u _ => M.length - (RowKit.intOf u).toNat)
              case atStart => exact ⟨0, _, F2, by omega, rfl, HR5.out, .refl _, Lib.hid (by simp [inP]), Lib.hid (by omega)⟩
              case round =>
                clear HR5
                obtain ⟨m, gv3, F3, hm, rfl, hR, hT6, HF3, HL3⟩ := hrel
                by_cases hlm : m < M.length
                · have hI := (HI.out.tyf ty3_int hT6).rd
                  have q0 := hI.cell m _ (il_at M m hlm)
                  have hao := hI.isSome (by omega)
                  have HIS := Lib.hid (inP_succ A v kd M m hlm)
                  generalize im M m = ii at *
                  have hsay := say39_any W10 wr (HT.out.keep (HJ10.out.trans hR.keeps)) B BS BP _ _ n t (tzS t) nv nas gv3 F3 _ _ A p1 v kd ii HSA.out (by have h1 := HL3.out; have h2 := HL2'.out; omega) (hT6.2 _ _ _ HBS5.out ty3_sd) (hT6.2 _ _ _ HBP5.out ty3_p) hR
                  have HSAY := Lib.hid hsay
                  have HT6 := Lib.hid hT6
                  clear hsay hI hR hT6
                  go_wp2_with fail
                  refine HSAY.out.mono ?_
                  rintro e w7 ⟨rfl, gv4, hR, hT7⟩
                  have HR7 := Lib.hid hR
                  have HT7 := Lib.hid (HT6.out.trans hT7)
                  clear hR hT7 HSAY q0
                  go_wp2_with fail
                  go_roundw
                  case rel => exact ⟨m + 1, _, _, by omega, by go_num, HR7.out, HT7.out, Lib.hid (by rw [HIS.out, HF3.out, List.append_assoc]), Lib.hid (by have h1 := sayL_len A kd ii v; have h2 := HL3.out; rw [List.length_append]; omega)⟩
                  case measure => simp [RowKit.intOf]; omega
                · have e1 : m = M.length := by omega
                  have HR8 := Lib.hid hR
                  have HT8 := Lib.hid (HT5.out.trans hT6)
                  have HF8 : Hid (F3 = F1 ++ kndP A p1 t v (j + 1)) := Lib.hid (by rw [HF3.out, HF2.out, HSU.out, e1, List.take_length, List.append_assoc])
                  have HL8 : Hid (F3.length ≤ 1000 * k + 16 + 300 * (j + 1)) := Lib.hid (by have h1 := HL3.out; have h2 := HL2'.out; omega)
                  clear hR hT6 e1
                  go_wp2_with fail
                  go_roundw
                  case rel => exact ⟨j + 1, _, F3, by omega, by go_num, HR8.out, HT8.out, HF8, HL8⟩
                  case measure => simp [RowKit.intOf]; omega
            · have HFP : Hid (F2 = fl ++ pushL A p1 t (tzS t) v) := Lib.hid (by
                rw [HF2.out, HF1.out, show j = 2 by omega, List.append_assoc, kndP_two])
              have HLP : Hid (F2.length ≤ 1000 * k + 616) := Lib.hid (by have := HL2'.out; omega)
              have hAP := HA.out.push (A := A) (p := p1) (byz := t) (source := tzS t) (by have := HSR.out; omega) (inN_of HSK.out.1) v
              dsimp only at hAP
              rw [← HFP.out] at hAP
              have HAP := Lib.hid hAP
              have HM0 := Lib.hid (hAP.meas (by omega))
              obtain ⟨ag, cg, rfl, _⟩ := hR.fli.rd
              clear hBS hBP hT4 hR hAP
              go_wp2_with fail
              go_loopg [24] (measS n ⟨nas.map NA.x, F2⟩ + 1) (fun gq s24 wr => ∃ (nv : Value) (nas' : List NA) (ag : Option Addr) (cg : Nat) (fl' : List Ct), RunW W10 wr B (.slice fa fm fc) (.slice ba bm bc) n t (tzS t) nv nas' (.slice ag fl'.length cg) fl' (.slice none 0 0) [] ∧ Blk wr BS 219 #[.int .u16 (sv A), .int .u16 (sv p1), .string v] ∧ Blk wr BP 140 #[.pointer (some ⟨B, 0, none⟩)] ∧ Hid (playS f b n t A ⟨nas.map NA.x, F2⟩ = playS f b n t A ⟨nas'.map NA.x, fl'⟩) ∧ Hid (AOk n ⟨nas'.map NA.x, fl'⟩) ∧ Hid (measS n ⟨nas'.map NA.x, fl'⟩ < gq ∧ measS n ⟨nas'.map NA.x, fl'⟩ ≤ 1000 * k + 800))
              case atStart => exact ⟨_, nas, ag, cg, F2, HR.out, HBS.out, HBP.out, Lib.hid rfl, HAP, Lib.hid ⟨Nat.lt_succ_self _, by have h1 := HM0.out; have h2 := HLP.out; omega⟩⟩
              case round =>
                clear HR HBS HBP
                obtain ⟨nv, nas', ag, cg, fl', hR, hBS, hBP, HPL, HAO, HME⟩ := hrel
                have hix := indexFuncC_any ag fl'.length cg fl' wr 154 #[.pointer (some ⟨BS, 0, none⟩), .pointer (some ⟨BB, 0, none⟩)] (inA A t) hR.fli.row0.rd (enters_of Tryz.func154 (by kernel_rfl) rfl) (fun W c hc hk => atkPred_any A p1 t v c BS BB W (hBS.keep hk) ((HBB10.out.keep hR.keeps).keep hk) (by obtain ⟨d, h1, h2⟩ := HAO.out.dst.2 c hc; exact ⟨d, h1, by omega⟩) (HAO.out.ids.2 c hc))
                rw [idx_idxL] at hix
                have p0 := hBP.cell 0 (v := .pointer (some ⟨B, 0, none⟩)) rfl
                have b6 := hR.box.cell 6 (v := .slice ag fl'.length cg) rfl
                have HR := Lib.hid hR; have HBS := Lib.hid hBS; have HBP := Lib.hid hBP
                cases hq : idxL (inA A t) fl' with
                | none =>
                  rw [hq] at hix
                  dsimp only at hix
                  have HIX := Lib.hid hix
                  have HQ := Lib.hid hq
                  clear hix hq hR hBS hBP
                  go_wp2_with fail
                  refine HIX.out.mono ?_
                  rintro e w' ⟨rfl, k1⟩
                  have HK1 := Lib.hid k1
                  clear k1 HIX p0 b6
                  go_wp2_with fail
                  go_roundw
                  case rel => exact ⟨k + 1, _, nas', _, fl', by omega, by go_num, HR.out.keep HK1.out, HBP.out.keep HK1.out, Lib.hid (by
                    rw [HFO.out, HDR.out]
                    show foldSd f b n t (tzS t) (L.drop (k + 1)) (playS f b n t A ⟨nas.map NA.x, fl ++ pushL A p1 t (tzS t) v⟩) = _
                    rw [← HFP.out, HPL.out, playS_end HQ.out]), HAO, Lib.hid (by have h1 := HME.out.2; unfold measS at h1; dsimp only at h1; omega)⟩
                  case measure => simp [RowKit.intOf]; omega
                | some i =>
                  rw [hq] at hix
                  dsimp only at hix
                  rw [Nat.zero_add] at hix
                  have HIX := Lib.hid hix
                  have HQ := Lib.hid hq
                  have hif := (idxL_some hq).1
                  have hdel := fun W (kk : Keeps wr W) => deliver39_any W10 W B fa fm fc f ba bm bc b n t (tzS t) nv nas' (.slice ag fl'.length cg) fl' (.slice none 0 0) [] i (HF.out.keep HJ10.out) (HB.out.keep HJ10.out) (by omega) (by have := HME.out.2; unfold measS at this; dsimp only at this; omega) hif (dst9' HAO.out.dst hif) (small9 HAO.out.sm) (HR.out.keep kk)
                  have HDEL := Lib.hid hdel
                  have HIF := Lib.hid hif
                  clear hix hq hR hBS hBP hdel hif
                  go_wp2_with fail
                  refine HIX.out.mono ?_
                  rintro e w' ⟨rfl, k1⟩
                  have HK1 := Lib.hid k1
                  have hni : ¬ ((i : Int) < 0) := by omega
                  have p0 := (HBP.out.keep k1).cell 0 (v := .pointer (some ⟨B, 0, none⟩)) rfl
                  clear k1 HIX b6
                  go_wp2_with fail
                  refine (HDEL.out _ HK1.out).mono ?_
                  rintro e W5 ⟨rfl, nas2, gv2, fl2, hR2, hT, hst⟩
                  obtain ⟨ag2', cg2', rfl, _⟩ := hR2.fli.rd
                  have HR2 := Lib.hid hR2
                  have HST := Lib.hid hst
                  have HB2 := Lib.hid (And.intro (hT.2 _ _ _ (HBS.out.keep HK1.out) ty3_sd) (hT.2 _ _ _ (HBP.out.keep HK1.out) ty3_p))
                  clear hR2 hst HDEL hT p0 hni
                  go_wp2_with fail
                  go_roundg (gk - 1)
                  case measure => have := HME.out.1; omega
                  case rel => exact ⟨_, nas2, ag2', cg2', fl2, HR2.out, HB2.out.1, HB2.out.2, Lib.hid (by rw [HPL.out, HST.out]; exact playS_step HAO.out.dst HQ.out), Lib.hid (by rw [HST.out]; exact HAO.out.deliv i), Lib.hid (by rw [HST.out]; have h1 := deliv_meas (f := f) (b := b) (n := n) (byz := t) HIF.out (dst_at HAO.out.dst HIF.out); have h2 := HME.out; omega)⟩
        · have e1 : k = 2 := by omega
          obtain ⟨an3, cn3, rfl, _⟩ := hR.own.rd
          obtain ⟨ag3, cg3, rfl, _⟩ := hR.fli.rd
          have hBR := HBR10.out.keep hR.keeps
          have hRw := hR.since HJ10.out
          have HRW := Lib.hid hRw
          have HBRR := Lib.hid hBR
          have HFE : Hid (atkS f b n q p t = ⟨nas.map NA.x, fl⟩) := Lib.hid (by rw [HATK.out, HFO.out, e1, List.drop_of_length_le (by rw [HL2.out]; exact Nat.le_refl _)]; rfl)
          have p0 := hBP.cell 0 (v := .pointer (some ⟨B, 0, none⟩)) rfl
          obtain ⟨q0, q1, q2, q3, q4, q5, q6⟩ := hR.box.c7
          obtain ⟨d0, d1, d2, d3, d4⟩ := c5 hBR
          obtain ⟨g0, g1, g2, g3, g4⟩ := f5 hBR
          clear hR hBR hBP hRw e1
          go_wp2_with fail
          clear q0 q1 q2 q3 q4 q5 q6 d0 d1 d2 d3 d4 g0 g1 g2 g3 g4 p0
          refine bodyPost_ret (resCast (n := (n : Int)) (byz := t) (source := (tzS t : Int)) (nv := .slice an3 nas.length cn3) (gv := .slice ag3 fl.length cg3) rfl (set5 HBRR.out _ _ _ _ _) rfl rfl) rfl ?_
          have hC := HRW.out.cast2 HBRR.out (Nat.le_refl _) (.int .i64 n) (.int .u16 (sv t)) (.int .i64 (tzS t)) (.slice an3 nas.length cn3) (.slice ag3 fl.length cg3)
          exact ⟨hC.1.2, .inr ⟨HX.out, q, p, t, by rw [Int.toNat_natCast]; exact HSP.out, _, nas, _, fl, rfl, hC.1, hC.2.1, hC.2.2, by rw [Int.toNat_natCast]; exact HFE.out⟩⟩
  · have hcb : (ck != 0) = true := by simpa using hc0
    have HX := Lib.hid (show atkE f b n = ck by rw [HX.out, if_pos hc0])
    obtain ⟨d0, d1, d2, d3, d4⟩ := c5 hBR
    obtain ⟨g0, g1, g2, g3, g4⟩ := f5 hBR
    go_wp2_with fail
    clear d0 d1 d2 d3 d4 g0 g1 g2 g3 g4
    exact bodyPost_ret (resCast (byz := 0#16) rfl (set5 hBR _ _ _ _ _) rfl rfl) rfl ⟨keeps_set5 J (Nat.le_refl _) _ _ _ _ _, .inl ⟨by rw [HX.out]; exact hc0, by rw [HX.out]; rfl⟩⟩
end Go.Proofs.YtijknodekomdfaaGreatDoor
