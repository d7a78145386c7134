/- Texts joined into one, what is needed of them (a program of ours). -/
import Derived.Test.YtijknodekomdfaaGreatDoorBKI
namespace Go.Proofs.YtijknodekomdfaaGreatDoor
open Go.RowKit Go.Lib Go.Shelf

def zCast : Value := vCast 0 0#16 0 (.slice none 0 0) (.slice none 0 0)
def RngOk (N : Int) (byz : S) (source : Int) : Prop := 1 ≤ N ∧ N ≤ 8 ∧ byz >>> N.toNat = 0#16 ∧ 0 ≤ source ∧ source < N
set_option maxHeartbeats 1000000 in
theorem runRange_any (w : World) (fv bv cv : Value) (N : Int) (byz : S) (source : Int) (h : ¬ RngOk N byz source) :
    Calls Tryz.prog 30 #[fv, bv, .int .i64 N, .int .u16 (sv byz), .int .i64 source, cv] w fun e w' => e = .returned (.tuple #[zCast, .int .i64 7]) ∧ Keeps w w' := by
  have hcast := Blk.new w 75 #[.int .i64 0, .int .u16 0, .int .i64 0, .slice none 0 0, .slice none 0 0]
  have kC := (Keeps.refl w).alloc (.cells #[.int .i64 0, .int .u16 0, .int .i64 0, .slice none 0 0, .slice none 0 0] 75)
  have HC := Lib.hid hcast; have HK := Lib.hid kC; have HR := Lib.hid h
  clear hcast kC h
  by_cases h1 : N < 1
  · go_enter Tryz.func30, Tryz.ntmps30
    go_wp2_with fail
    exact bodyPost_ret (resCast (byz := 0#16) rfl HC.out rfl rfl) rfl ⟨rfl, HK.out⟩
  by_cases h2 : N > 8
  · go_enter Tryz.func30, Tryz.ntmps30
    go_wp2_with fail
    exact bodyPost_ret (resCast (byz := 0#16) rfl HC.out rfl rfl) rfl ⟨rfl, HK.out⟩
  obtain ⟨n, rfl⟩ : ∃ n : Nat, N = n := ⟨N.toNat, by omega⟩
  have hmin : min n 16 = n := by omega
  by_cases h3 : byz >>> n = 0#16
  · have hbz2 : (byz >>> n != 0#16) = false := by rw [h3]; rfl
    have HBZ := Lib.hid h3
    clear h3
    by_cases h4 : source < 0
    · go_enter Tryz.func30, Tryz.ntmps30
      go_wp2_with fail
      exact bodyPost_ret (resCast (byz := 0#16) rfl HC.out rfl rfl) rfl ⟨rfl, HK.out⟩
    · have h5 : source ≥ n := Classical.byContradiction fun h5 => HR.out ⟨by omega, by omega, by rw [Int.toNat_natCast]; exact HBZ.out, by omega, by omega⟩
      go_enter Tryz.func30, Tryz.ntmps30
      go_wp2_with fail
      exact bodyPost_ret (resCast (byz := 0#16) rfl HC.out rfl rfl) rfl ⟨rfl, HK.out⟩
  · have hbz2 : (byz >>> n != 0#16) = true := by simpa using h3
    clear h3
    go_enter Tryz.func30, Tryz.ntmps30
    go_wp2_with fail
    exact bodyPost_ret (resCast (byz := 0#16) rfl HC.out rfl rfl) rfl ⟨rfl, HK.out⟩
/-- the error of lists or of too many choices -/
def lstErr (f b : List S) (n : Nat) (m : Nat) : Int := if chk39 f b n ≠ 0 then chk39 f b n else if m > 200 then 3 else 0
set_option maxHeartbeats 1000000 in
theorem runList_any (w : World) (fa : Option Addr) (fm fc : Nat) (f : List S) (ba : Option Addr) (bm bc : Nat) (b : List S) (n : Nat) (byz : S) (source : Nat) (ca : Option Addr) (cm cc : Nat)
    (hf : Rd w fa fm fc 1 (sl f)) (hb : Rd w ba bm bc 1 (sl b)) (hn1 : 1 ≤ n) (hn2 : n ≤ 8) (hbz : byz >>> n = 0#16) (hsn : source < n) (hE : lstErr f b n cm ≠ 0) (hcb : cm ≤ 1000000) :
    Calls Tryz.prog 30 #[.slice fa fm fc, .slice ba bm bc, .int .i64 n, .int .u16 (sv byz), .int .i64 source, .slice ca cm cc] w fun e w' => e = .returned (.tuple #[zCast, .int .i64 (lstErr f b n cm)]) ∧ Keeps w w' := by
  have hmin : min n 16 = n := by omega
  have hbz2 : (byz >>> n != 0#16) = false := by rw [hbz]; rfl
  have hcast := Blk.new w 75 #[.int .i64 0, .int .u16 0, .int .i64 0, .slice none 0 0, .slice none 0 0]
  have kC := (Keeps.refl w).alloc (.cells #[.int .i64 0, .int .u16 0, .int .i64 0, .slice none 0 0, .slice none 0 0] 75)
  have hchk := check9_any n (by omega) fa fm fc f ba bm bc b _ (hf.keep kC) (hb.keep kC)
  have HCK := Lib.hid hchk; have HC := Lib.hid hcast; have HK := Lib.hid kC
  clear hchk hcast kC hbz hf hb
  have hX : lstErr f b n cm = if chk39 f b n ≠ 0 then chk39 f b n else if cm > 200 then 3 else 0 := rfl
  generalize lstErr f b n cm = er at *
  generalize chk39 f b n = ck at *
  have HX := Lib.hid hX; have HE := Lib.hid hE
  clear hX hE
  go_enter Tryz.func30, Tryz.ntmps30
  go_wp2_with fail
  refine HCK.out.mono ?_
  rintro e w1 ⟨rfl, k1⟩
  have e5 := c5 (HC.out.keep k1)
  obtain ⟨g0, g1, g2, g3, g4⟩ := f5 (HC.out.keep k1)
  obtain ⟨e0, e1, e2, e3, e4⟩ := e5
  have HK1 := Lib.hid k1
  clear k1 hbz2
  by_cases hc : ck = 0
  · subst hc
    have hm : cm > 200 := Classical.byContradiction fun h => HE.out (by rw [HX.out]; simp [h])
    go_wp2_with fail
    exact bodyPost_ret (resCast (byz := 0#16) rfl (set5 (HC.out.keep HK1.out) _ _ _ _ _) rfl rfl) rfl ⟨by rw [HX.out]; simp [hm]; rfl, by
      have := HK.out.trans HK1.out
      exact keeps_set (keeps_set (keeps_set (keeps_set (keeps_set this (Nat.le_refl _) _ _) (Nat.le_refl _) _ _) (Nat.le_refl _) _ _) (Nat.le_refl _) _ _) (Nat.le_refl _) _ _⟩
  · have hc2 : (ck != 0) = true := by simpa using hc
    go_wp2_with fail
    exact bodyPost_ret (resCast (byz := 0#16) rfl (set5 (HC.out.keep HK1.out) _ _ _ _ _) rfl rfl) rfl ⟨by rw [HX.out]; simp [hc]; rfl, by
      have := HK.out.trans HK1.out
      exact keeps_set (keeps_set (keeps_set (keeps_set (keeps_set this (Nat.le_refl _) _ _) (Nat.le_refl _) _ _) (Nat.le_refl _) _ _) (Nat.le_refl _) _ _) (Nat.le_refl _) _ _⟩
end Go.Proofs.YtijknodekomdfaaGreatDoor
namespace Go.Proofs.YtijknodekomdfaaGreatDoor
open Go.RowKit Go.Lib Go.Shelf

theorem RunW.cast2 {w0 W : World} {B : Nat} {fv bv : Value} {n : Nat} {byz : S} {source : Int} {nv : Value} {nas : List NA} {gv : Value} {fl : List Ct} {lv : Value} {ls : List Ct} (h : RunW w0 W B fv bv n byz source nv nas gv fl lv ls) {C : Nat} {cs : Array Value} (hB : Blk W C 75 cs) (hlo : w0.heap.size ≤ C) (u0 u1 u2 u3 u4 : Value) :
    Own 153 9 w0 (st5 W C u0 u1 u2 u3 u4) nv nas.length (nl nas) ∧ Own 145 4 w0 (st5 W C u0 u1 u2 u3 u4) gv fl.length (cl fl) ∧ ∀ y ∈ nas, NOk (st5 W C u0 u1 u2 u3 u4) y := by
  have b1 := hB.set 0 u0; have b2 := b1.set 1 u1; have b3 := b2.set 2 u2; have b4 := b3.set 3 u3
  refine ⟨?_, ?_, fun y hy => ?_⟩
  · exact own_oth9 (own_oth9 (own_oth9 (own_oth9 (own_oth9 h.own hB (by decide) hlo 0 _) b1 (by decide) hlo 1 _) b2 (by decide) hlo 2 _) b3 (by decide) hlo 3 _) b4 (by decide) hlo 4 _
  · exact own_oth9 (own_oth9 (own_oth9 (own_oth9 (own_oth9 h.fli hB (by decide) hlo 0 _) b1 (by decide) hlo 1 _) b2 (by decide) hlo 2 _) b3 (by decide) hlo 3 _) b4 (by decide) hlo 4 _
  · have hN := h.rows y hy
    exact ⟨((((hN.1.set hB (by decide) 0 _).set b1 (by decide) 1 _).set b2 (by decide) 2 _).set b3 (by decide) 3 _).set b4 (by decide) 4 _, ((((hN.2.set hB (by decide) 0 _).set b1 (by decide) 1 _).set b2 (by decide) 2 _).set b3 (by decide) 3 _).set b4 (by decide) 4 _⟩
theorem dst_ok9 {n : Nat} {byz : S} {nodes : List Nd} {fl : List Ct} (hn : nodes.length = n) (h : (fl.any fun c => !corrI n byz c.dst) = false) : DstOk n ⟨nodes, fl⟩ := by
  refine ⟨hn, fun c hc => ?_⟩
  have h1 := List.any_eq_false.1 h c hc
  have h2 : corrI n byz c.dst = true := by simpa using h1
  unfold corrI at h2
  rw [Bool.and_eq_true, decide_eq_true_eq] at h2
  exact ⟨c.dst.toNat, by omega, corr_lt h2.2⟩
theorem meas9 {n : Nat} {nodes : List Nd} {fl : List Ct} (hn : nodes.length = n) (h8 : n ≤ 8) : measS n ⟨nodes, fl⟩ ≤ fl.length + 128 := by
  have h : ∀ l : List Nd, (l.map unS).sum ≤ l.length * 2 := fun l => by
    induction l with
    | nil => simp
    | cons x t ih =>
      have : unS x ≤ 2 := by unfold unS; split <;> split <;> omega
      rw [List.map_cons, List.sum_cons, List.length_cons]; omega
  have h2 := h nodes
  have h3 : n * (nodes.map unS).sum ≤ 8 * 16 := Nat.mul_le_mul h8 (by omega)
  unfold measS measN
  dsimp only
  omega
theorem dst9' {n : Nat} {nas : List NA} {fl : List Ct} (h : DstOk n ⟨nas.map NA.x, fl⟩) {i : Nat} (hi : i < fl.length) : ∃ d : Nat, (ctA fl i).dst = (d : Int) ∧ d < nas.length := by
  have h2 : nas.length = n := by have := h.1; rw [List.length_map] at this; exact this
  rw [h2]; exact dst9 h hi
theorem ty3_g : ¬ Ty3 75 := by unfold Ty3; decide
theorem ty3_p : ¬ Ty3 140 := by unfold Ty3; decide
def idsB : List Nd → Nat → Bool
  | [], _ => true
  | x :: t, k => decide (x.id = (k : Int)) && idsB t (k + 1)
/-- the error of Settle -/
def setE (f b : List S) (N : Int) (byz : S) (nodes : List Nd) (fl : List Ct) : Int :=
  if ¬(1 ≤ N ∧ N ≤ 8 ∧ (nodes.length : Int) = N) then 1 else if idsB nodes 0 = false then 1 else if (fl.any fun c => !corrI N.toNat byz c.dst) = true then 1 else chk39 f b N.toNat
theorem setE_rng {f b : List S} {N : Int} {byz : S} {nodes : List Nd} {fl : List Ct} (h : ¬(1 ≤ N ∧ N ≤ 8 ∧ (nodes.length : Int) = N)) : setE f b N byz nodes fl = 1 := by unfold setE; rw [if_pos h]
theorem setE_ids {f b : List S} {n : Nat} {byz : S} {nodes : List Nd} {fl : List Ct} (h1 : 1 ≤ n ∧ n ≤ 8 ∧ nodes.length = n) (h : idsB nodes 0 = false) : setE f b n byz nodes fl = 1 := by unfold setE; rw [if_neg (by omega), if_pos h]
theorem setE_dst {f b : List S} {n : Nat} {byz : S} {nodes : List Nd} {fl : List Ct} (h1 : 1 ≤ n ∧ n ≤ 8 ∧ nodes.length = n) (h : idsB nodes 0 = true) (h2 : (fl.any fun c => !corrI n byz c.dst) = true) : setE f b n byz nodes fl = 1 := by unfold setE; rw [if_neg (by omega), if_neg (by rw [h]; simp), Int.toNat_natCast, if_pos h2]
theorem setE_chk {f b : List S} {n : Nat} {byz : S} {nodes : List Nd} {fl : List Ct} (h1 : 1 ≤ n ∧ n ≤ 8 ∧ nodes.length = n) (h : idsB nodes 0 = true) (h2 : (fl.any fun c => !corrI n byz c.dst) = false) : setE f b n byz nodes fl = chk39 f b n := by unfold setE; rw [if_neg (by omega), if_neg (by rw [h]; simp), Int.toNat_natCast, if_neg (by rw [h2]; simp)]
def RetSet (w : World) (f b : List S) (N : Int) (byz : S) (source : Int) (nodes : List Nd) (fl : List Ct) (e : Ending) (w' : World) : Prop :=
  Keeps w w' ∧ ((setE f b N byz nodes fl ≠ 0 ∧ e = .returned (.tuple #[zCast, .int .i64 (setE f b N byz nodes fl)])) ∨
    (setE f b N byz nodes fl = 0 ∧ ∃ nv nas' gv fl', e = .returned (.tuple #[vCast N byz source nv gv, .int .i64 0]) ∧ Own 153 9 w w' nv nas'.length (nl nas') ∧ Own 145 4 w w' gv fl'.length (cl fl') ∧ (∀ z ∈ nas', NOk w' z) ∧ settleS f b N.toNat byz ⟨nodes, fl⟩ = ⟨nas'.map NA.x, fl'⟩))
theorem keeps_set5 {w W : World} (k : Keeps w W) {B : Nat} (hB : w.heap.size ≤ B) (u0 u1 u2 u3 u4 : Value) : Keeps w (st5 W B u0 u1 u2 u3 u4) :=
  keeps_set (keeps_set (keeps_set (keeps_set (keeps_set k hB 0 u0) hB 1 u1) hB 2 u2) hB 3 u3) hB 4 u4
theorem len_snocN (l : List NA) (z : NA) : l.length + 1 = (l ++ [z]).length := by simp
theorem take_naA_x (l : List NA) (k : Nat) (h : k < l.length) : (l.map NA.x).take (k + 1) = (l.map NA.x).take k ++ [(naA l k).x] := by
  rw [← List.map_take, ← List.map_take, take_naA l k h, List.map_append]; rfl
theorem drop_naA_x (l : List NA) (k : Nat) (h : k < l.length) : (l.map NA.x).drop k = (naA l k).x :: (l.map NA.x).drop (k + 1) := by
  rw [← List.map_drop, ← List.map_drop, drop_naA l k h, List.map_cons]
theorem RunW.appendN {w0 W W' : World} {B : Nat} {fv bv : Value} {n : Nat} {byz : S} {source : Int} {nv : Value} {nas : List NA} {gv : Value} {fl : List Ct} {lv : Value} {ls : List Ct} (h : RunW w0 W B fv bv n byz source nv nas gv fl lv ls) {nv' : Value} {nas' : List NA} {z : NA}
    (hO : Own 153 9 w0 W' nv' nas'.length (nl nas')) (hg : W.grownBy W' nv.ownBlock) (hN : NOk W z) (hL : nas' = nas ++ [z]) :
    RunW w0 (W'.setCell ⟨B, 5, none⟩ nv') B fv bv n byz source nv' nas' gv fl lv ls := by
  have hbox : Blk W' B 148 #[fv, bv, .int .i64 n, .int .u16 (sv byz), .int .i64 source, nv, gv] := blk_grown9 h.box hg (blk_ne h.box h.own.1 (by decide))
  have hT : TyF W W' := FrB.grown' h.own.1 (fun _ _ => ty3_node) hg
  have hT2 : TyF W' (W'.setCell ⟨B, 5, none⟩ nv') := .set hbox ty3_run 5 nv'
  have hK := keeps_set hO.2 h.lo 5 nv'
  have hf := row_kept h.fli.1 h.own.1 (by decide) hg
  have hl := row_kept h.lie.1 h.own.1 (by decide) hg
  refine ⟨hbox.set 5 nv', h.lo, ⟨row_set hO.1 hbox (by decide) 5 nv', hK⟩, ⟨row_set hf hbox (by decide) 5 nv', hK⟩, ⟨row_set hl hbox (by decide) 5 nv', hK⟩, h.apart, fun y hy => ?_⟩
  subst hL
  rcases List.mem_append.1 hy with hy | hy
  · exact ((h.rows y hy).tyf hT).tyf hT2
  · rw [List.mem_singleton.1 hy]; exact (hN.tyf hT).tyf hT2
/-- whether a cast goes to a node that is not correct -/
theorem settle1_any (n : Nat) (hn : n ≤ 16) (byz : S) (B BP : Nat) (fv bv sv' nv gv : Value) (c : Ct) (w : World) (hB : Blk w B 148 #[fv, bv, .int .i64 n, .int .u16 (sv byz), sv', nv, gv]) (hP : Blk w BP 140 #[.pointer (some ⟨B, 0, none⟩)]) :
    Calls Tryz.prog 96 (#[vc c] ++ #[.pointer (some ⟨BP, 0, none⟩)]) w fun e w' => e = .returned (.bool (!corrI n byz c.dst)) ∧ Keeps w w' := by
  have kA := (Keeps.refl w).alloc (.cells #[.int .i64 c.kind, .int .i64 c.src, .int .i64 c.dst, .string c.v] 145)
  have hp := (hP.keep kA).cell 0 rfl
  have hc := correct39_any n hn byz c.dst B fv bv sv' nv gv _ (hB.keep kA)
  have HC := Lib.hid hc; have HK := Lib.hid kA
  clear hc kA hB hP
  unfold vc
  go_enter Tryz.func96, Tryz.ntmps96
  go_wp2_with fail
  refine HC.out.mono ?_
  rintro e w' ⟨rfl, rfl⟩
  go_wp2_with fail
  go_ret
  exact ⟨rfl, HK.out⟩

set_option maxRecDepth 200000 in
set_option maxHeartbeats 4000000 in
theorem settle39_any (w : World) (fa : Option Addr) (fm fc : Nat) (f : List S) (ba : Option Addr) (bm bc : Nat) (b : List S) (N : Int) (byz : S) (source : Int) (an : Option Addr) (cn : Nat) (nas : List NA) (ag : Option Addr) (cg : Nat) (fl : List Ct)
    (hf : Rd w fa fm fc 1 (sl f)) (hb : Rd w ba bm bc 1 (sl b)) (hn : Rd w an nas.length cn 9 (nl nas)) (hg : Rd w ag fl.length cg 4 (cl fl)) (hfl : fl.length ≤ 10000) (hnn : nas.length ≤ 10000)
    (hh : ∀ z ∈ nas, Rd w z.ae z.x.echoes.length z.ce 2 (hl z.x.echoes) ∧ Rd w z.ar z.x.readies.length z.cr 2 (hl z.x.readies)) (hsm : SmallS ⟨nas.map NA.x, fl⟩) :
    Calls Tryz.prog 33 #[.slice fa fm fc, .slice ba bm bc, vCast N byz source (.slice an nas.length cn) (.slice ag fl.length cg)] w fun e w' => RetSet w f b N byz source (nas.map NA.x) fl e w' := by
  have hs : ∀ (W : World) o, (W.alloc o).heap.size = W.heap.size + 1 := fun W o => World.size_alloc ..
  have kX := (Keeps.refl w).alloc (.cells #[.int .i64 N, .int .u16 (sv byz), .int .i64 source, .slice an nas.length cn, .slice ag fl.length cg] 75)
  have hBX := Blk.new w 75 #[.int .i64 N, .int .u16 (sv byz), .int .i64 source, .slice an nas.length cn, .slice ag fl.length cg]
  generalize hW1 : w.alloc (.cells #[.int .i64 N, .int .u16 (sv byz), .int .i64 source, .slice an nas.length cn, .slice ag fl.length cg] 75) = W1 at *
  have e1 : W1.heap.size = w.heap.size + 1 := by rw [← hW1, hs]
  have kR := (Keeps.refl W1).alloc (.cells #[.int .i64 0, .int .u16 0, .int .i64 0, .slice none 0 0, .slice none 0 0] 75)
  have hBR := Blk.new W1 75 #[.int .i64 0, .int .u16 0, .int .i64 0, .slice none 0 0, .slice none 0 0]
  generalize hW2 : W1.alloc (.cells #[.int .i64 0, .int .u16 0, .int .i64 0, .slice none 0 0, .slice none 0 0] 75) = W2 at *
  have e2 : W2.heap.size = w.heap.size + 1 + 1 := by rw [← hW2, hs, e1]
  have kB := (Keeps.refl W2).alloc (.cells #[.slice fa fm fc, .slice ba bm bc, .int .i64 N, .int .u16 (sv byz), .int .i64 source, .slice an nas.length cn, .slice ag fl.length cg] 148)
  have hB := Blk.new W2 148 #[.slice fa fm fc, .slice ba bm bc, .int .i64 N, .int .u16 (sv byz), .int .i64 source, .slice an nas.length cn, .slice ag fl.length cg]
  generalize hW3 : W2.alloc (.cells #[.slice fa fm fc, .slice ba bm bc, .int .i64 N, .int .u16 (sv byz), .int .i64 source, .slice an nas.length cn, .slice ag fl.length cg] 148) = W3 at *
  have e3 : W3.heap.size = w.heap.size + 1 + 1 + 1 := by rw [← hW3, hs, e2]
  rw [e1] at hBR
  rw [e2] at hB
  have kP := (Keeps.refl W3).alloc (.cells #[.pointer (some ⟨w.heap.size + 1 + 1, 0, none⟩)] 140)
  have hBP := Blk.new W3 140 #[.pointer (some ⟨w.heap.size + 1 + 1, 0, none⟩)]
  rw [e3] at hBP
  have hBX := ((hBX.keep kR).keep kB).keep kP
  have hBR := (hBR.keep kB).keep kP
  have hB := hB.keep kP
  have J := ((kX.trans kR).trans kB).trans kP
  have HCL := Lib.hid (fun W (k : Keeps w W) => cloneC_any ag cg fl W (hg.keep k) (by omega))
  have HF := Lib.hid hf; have HBB := Lib.hid hb; have HN := Lib.hid hn; have HG := Lib.hid hg
  have HW1 := Lib.hid hW1; have HW2 := Lib.hid hW2; have HW3 := Lib.hid hW3
  have HHR := Lib.hid hh; have HSM := Lib.hid hsm
  clear hs kX kR kB kP hW1 hW2 hW3 e1 e2 e3 hf hb hn hg hh hsm
  unfold vCast
  go_enter Tryz.func33, Tryz.ntmps33
  go_upto_region 2 with fail
  simp only [HW1.out, HW2.out, HW3.out]
  clear HW1 HW2 HW3
  generalize W3.alloc (.cells #[.pointer (some ⟨w.heap.size + 1 + 1, 0, none⟩)] 140) = W4 at *
  obtain ⟨BP, hp⟩ : ∃ x, x = w.heap.size + 1 + 1 + 1 := ⟨_, rfl⟩
  rw [← hp] at hBP ⊢
  obtain ⟨B, hq⟩ : ∃ x, x = w.heap.size + 1 + 1 := ⟨_, rfl⟩
  rw [← hq] at hB hBP ⊢
  obtain ⟨BR, hr⟩ : ∃ x, x = w.heap.size + 1 := ⟨_, rfl⟩
  rw [← hr] at hBR ⊢
  obtain ⟨BX, hx⟩ : ∃ x, x = w.heap.size := ⟨_, rfl⟩
  rw [← hx] at hBX ⊢
  have hlo : w.heap.size ≤ B := by omega
  have hlr : w.heap.size ≤ BR := by omega
  have HNX : Hid (BX ≠ BR) := Lib.hid (by omega)
  clear hp hq hr hx
  have kd := (Keeps.refl W4).drew
  replace hBX := hBX.keep kd
  replace hBR := hBR.keep kd
  replace hBP := hBP.keep kd
  replace hB := hB.keep kd
  replace J := J.trans kd
  clear kd
  refine wp_region_held_drew (S := (fun w' => w'.cell? ⟨BP, 0, none⟩ = some (.pointer (some ⟨B, 0, none⟩)) ∧ w'.cell? ⟨BX, 4, none⟩ = some (.slice ag fl.length cg))) (by kernel_rfl) ?_ (fun hHeld => ?_)
  · exact ⟨hBP.cell 0 rfl, hBX.cell 4 rfl⟩
  generalize W4.drew = V0 at *
  refine wpAnyH_take (i := 0) (oi := ⟨_, _, _, _, _, _⟩) (v := ?_) rfl (by kernel_rfl) (by kernel_rfl) (by kernel_rfl) (fun _ _ _ h => h) (Or.inl ⟨by rfl, ?_⟩) (by assumption) ?_
  rotate_left 1
  · intro w hSw; (try dsimp only at hSw); go_simp <;> with_reducible rfl
  (try simp only [Act.put]); (try simp only [List.setIfInBounds_toArray]); (try simp only [List.set_cons_succ]); (try simp only [List.set_cons_zero])
  refine wpAnyH_take (i := 1) (oi := ⟨_, _, _, _, _, _⟩) (v := ?_) rfl (by kernel_rfl) (by kernel_rfl) (by kernel_rfl) (fun _ _ _ h => h) (Or.inl ⟨by rfl, ?_⟩) (by assumption) ?_
  rotate_left 1
  · intro w hSw; (try dsimp only at hSw); go_simp <;> with_reducible rfl
  (try simp only [Act.put]); (try simp only [List.setIfInBounds_toArray]); (try simp only [List.set_cons_succ]); (try simp only [List.set_cons_zero])
  refine wpAnyH_take (i := 2) (oi := ⟨_, _, _, _, _, _⟩) (v := ?_) rfl (by kernel_rfl) (by kernel_rfl) (by kernel_rfl) (fun _ _ _ h => h) (Or.inl ⟨by rfl, ?_⟩) (by assumption) ?_
  rotate_left 1
  · intro w hSw; (try dsimp only at hSw); go_simp <;> with_reducible rfl
  (try simp only [Act.put]); (try simp only [List.setIfInBounds_toArray]); (try simp only [List.set_cons_succ]); (try simp only [List.set_cons_zero])
  refine wpAnyH_take (i := 3) (oi := ⟨_, _, _, _, _, _⟩) (v := ?_) rfl (by kernel_rfl) (by kernel_rfl) (by kernel_rfl) (fun _ _ _ h => h) (Or.inl ⟨by rfl, ?_⟩) (by assumption) ?_
  rotate_left 1
  · intro w hSw; (try dsimp only at hSw); go_simp <;> with_reducible rfl
  (try simp only [Act.put]); (try simp only [List.setIfInBounds_toArray]); (try simp only [List.set_cons_succ]); (try simp only [List.set_cons_zero])
  refine wpAnyH_ready (rs := [4]) (by kernel_rfl) (by simp) ?_
  refine AllReadyH.cons (o := ⟨_, _, _, _, _, _⟩) rfl (fun K hK => ?_) AllReadyH.nil
  go_simp
  refine (HCL.out _ J).mono ?_
  rintro e V1 ⟨gv, rfl, hO⟩
  have kk := hO.2
  replace hBX := hBX.keep kk
  replace hBR := hBR.keep kk
  replace hBP := hBP.keep kk
  replace hB := hB.keep kk
  replace hO := hO.since J
  replace J := J.trans kk
  clear kk
  refine hK.out _ _ ?_ (fun hHeld => ?_)
  · exact ⟨hBP.cell 0 rfl, hBX.cell 4 rfl⟩
  clear hK K
  (try simp only [Act.put]); (try simp only [List.setIfInBounds_toArray]); (try simp only [List.set_cons_succ]); (try simp only [List.set_cons_zero])
  refine wpAnyH_take (i := 5) (oi := ⟨_, _, _, _, _, _⟩) (v := ?_) rfl (by kernel_rfl) (by kernel_rfl) (by kernel_rfl) (fun _ _ _ h => h) (Or.inl ⟨by rfl, ?_⟩) (by assumption) ?_
  rotate_left 1
  · intro w hSw; (try dsimp only at hSw); go_simp <;> with_reducible rfl
  (try simp only [Act.put]); (try simp only [List.setIfInBounds_toArray]); (try simp only [List.set_cons_succ]); (try simp only [List.set_cons_zero])
  refine wpAnyH_take (i := 6) (oi := ⟨_, _, _, _, _, _⟩) (v := ?_) rfl (by kernel_rfl) (by kernel_rfl) (by kernel_rfl) (fun _ _ _ h => h) (Or.inl ⟨by rfl, ?_⟩) (by assumption) ?_
  rotate_left 1
  · intro w hSw; (try dsimp only at hSw); go_simp <;> with_reducible rfl
  (try simp only [Act.put]); (try simp only [List.setIfInBounds_toArray]); (try simp only [List.set_cons_succ]); (try simp only [List.set_cons_zero])
  refine wpAnyH_take (i := 7) (oi := ⟨_, _, _, _, _, _⟩) (v := ?_) rfl (by kernel_rfl) (by kernel_rfl) (by kernel_rfl) (fun _ _ _ h => h) (Or.inl ⟨by rfl, ?_⟩) (by assumption) ?_
  rotate_left 1
  · intro w hSw; (try dsimp only at hSw); go_simp <;> with_reducible rfl
  (try simp only [Act.put]); (try simp only [List.setIfInBounds_toArray]); (try simp only [List.set_cons_succ]); (try simp only [List.set_cons_zero])
  refine wpAnyH_ready (rs := [8]) (by kernel_rfl) (by simp) ?_
  refine AllReadyH.cons (o := ⟨_, _, _, _, _, _⟩) rfl (fun K hK => ?_) AllReadyH.nil
  have q5 := hB.cell 5 rfl
  have z5 := hB.frozen 5
  go_simp
  clear q5 z5
  replace hO := own_oth9 hO hB (by decide) hlo 5 (.slice none 0 0)
  replace J := keeps_set J hlo 5 (.slice none 0 0)
  replace hBX := hBX.setOther (hBX.ne hB (by decide)) 5 (.slice none 0 0)
  replace hBR := hBR.setOther (hBR.ne hB (by decide)) 5 (.slice none 0 0)
  replace hBP := hBP.setOther (hBP.ne hB (by decide)) 5 (.slice none 0 0)
  replace hB := hB.set 5 (.slice none 0 0)
  simp only [List.setIfInBounds_toArray, List.set_cons_succ, List.set_cons_zero] at hB
  generalize V1.setCell ⟨B, 5, none⟩ (.slice none 0 0) = V2 at *
  refine hK.out _ _ ?_ (fun hHeld => ?_)
  · exact ⟨hBP.cell 0 rfl, hBX.cell 4 rfl⟩
  clear hK K
  (try simp only [Act.put]); (try simp only [List.setIfInBounds_toArray]); (try simp only [List.set_cons_succ]); (try simp only [List.set_cons_zero])
  refine wpAnyH_take (i := 9) (oi := ⟨_, _, _, _, _, _⟩) (v := ?_) rfl (by kernel_rfl) (by kernel_rfl) (by kernel_rfl) (fun _ _ _ h => h) (Or.inl ⟨by rfl, ?_⟩) (by assumption) ?_
  rotate_left 1
  · intro w hSw; (try dsimp only at hSw); go_simp <;> with_reducible rfl
  (try simp only [Act.put]); (try simp only [List.setIfInBounds_toArray]); (try simp only [List.set_cons_succ]); (try simp only [List.set_cons_zero])
  refine wpAnyH_take (i := 10) (oi := ⟨_, _, _, _, _, _⟩) (v := ?_) rfl (by kernel_rfl) (by kernel_rfl) (by kernel_rfl) (fun _ _ _ h => h) (Or.inl ⟨by rfl, ?_⟩) (by assumption) ?_
  rotate_left 1
  · intro w hSw; (try dsimp only at hSw); go_simp <;> with_reducible rfl
  (try simp only [Act.put]); (try simp only [List.setIfInBounds_toArray]); (try simp only [List.set_cons_succ]); (try simp only [List.set_cons_zero])
  refine wpAnyH_take (i := 11) (oi := ⟨_, _, _, _, _, _⟩) (v := ?_) rfl (by kernel_rfl) (by kernel_rfl) (by kernel_rfl) (fun _ _ _ h => h) (Or.inl ⟨by rfl, ?_⟩) (by assumption) ?_
  rotate_left 1
  · intro w hSw; (try dsimp only at hSw); go_simp <;> with_reducible rfl
  (try simp only [Act.put]); (try simp only [List.setIfInBounds_toArray]); (try simp only [List.set_cons_succ]); (try simp only [List.set_cons_zero])
  refine wpAnyH_ready (rs := [12]) (by kernel_rfl) (by simp) ?_
  refine AllReadyH.cons (o := ⟨_, _, _, _, _, _⟩) rfl (fun K hK => ?_) AllReadyH.nil
  obtain ⟨ag2, cg2, rfl, _⟩ := hO.rd
  have q5 := hB.cell 6 rfl
  have z5 := hB.frozen 6
  go_simp
  clear q5 z5
  replace hO := own_oth9 hO hB (by decide) hlo 6 (.slice ag2 fl.length cg2)
  replace J := keeps_set J hlo 6 (.slice ag2 fl.length cg2)
  replace hBX := hBX.setOther (hBX.ne hB (by decide)) 6 (.slice ag2 fl.length cg2)
  replace hBR := hBR.setOther (hBR.ne hB (by decide)) 6 (.slice ag2 fl.length cg2)
  replace hBP := hBP.setOther (hBP.ne hB (by decide)) 6 (.slice ag2 fl.length cg2)
  replace hB := hB.set 6 (.slice ag2 fl.length cg2)
  simp only [List.setIfInBounds_toArray, List.set_cons_succ, List.set_cons_zero] at hB
  generalize V2.setCell ⟨B, 6, none⟩ (.slice ag2 fl.length cg2) = V3 at *
  refine hK.out _ _ ?_ (fun hHeld => ?_)
  · exact ⟨hBP.cell 0 rfl, hBX.cell 4 rfl⟩
  clear hK K
  (try simp only [Act.put]); (try simp only [List.setIfInBounds_toArray]); (try simp only [List.set_cons_succ]); (try simp only [List.set_cons_zero])
  refine wpAnyH_done (by kernel_rfl) ?_ _
  go_upto_region 3 with fail
  clear HCL
  have e0 := hBX.cell 0 (v := .int .i64 N) rfl
  have e3 := hBX.cell 3 (v := .slice an nas.length cn) rfl
  by_cases h1 : N < 1
  · have hE : setE f b N byz (nas.map NA.x) fl = 1 := setE_rng (by omega)
    have HE := Lib.hid hE
    clear hE
    obtain ⟨d0, d1, d2, d3, d4⟩ := Go.Proofs.YtijknodekomdfaaGreatDoor.c5 hBR
    obtain ⟨g0, g1, g2, g3, g4⟩ := f5 hBR
    go_wp2_with fail
    clear d0 d1 d2 d3 d4 g0 g1 g2 g3 g4
    exact bodyPost_ret (resCast (byz := 0#16) rfl (set5 hBR _ _ _ _ _) rfl rfl) rfl ⟨keeps_set5 J hlr _ _ _ _ _, .inl ⟨by rw [HE.out]; decide, by rw [HE.out]; rfl⟩⟩
  by_cases h2 : N > 8
  · have hE : setE f b N byz (nas.map NA.x) fl = 1 := setE_rng (by omega)
    have HE := Lib.hid hE
    clear hE
    obtain ⟨d0, d1, d2, d3, d4⟩ := Go.Proofs.YtijknodekomdfaaGreatDoor.c5 hBR
    obtain ⟨g0, g1, g2, g3, g4⟩ := f5 hBR
    go_wp2_with fail
    clear d0 d1 d2 d3 d4 g0 g1 g2 g3 g4
    exact bodyPost_ret (resCast (byz := 0#16) rfl (set5 hBR _ _ _ _ _) rfl rfl) rfl ⟨keeps_set5 J hlr _ _ _ _ _, .inl ⟨by rw [HE.out]; decide, by rw [HE.out]; rfl⟩⟩
  by_cases h3 : (nas.length : Int) = N
  · obtain ⟨n, hn⟩ : ∃ n, n = nas.length := ⟨_, rfl⟩
    have hN2 : N = (n : Int) := by omega
    subst hN2
    have HLN := Lib.hid hn.symm
    have h13 : 1 ≤ n ∧ n ≤ 8 ∧ nas.length = n := ⟨by omega, by omega, hn.symm⟩
    have H13 := Lib.hid h13
    have hR0 : RunW w V3 B (.slice fa fm fc) (.slice ba bm bc) n byz source (.slice none 0 0) [] (.slice ag2 fl.length cg2) fl (.slice none 0 0) [] := ⟨hB, hlo, .nil _ _ hO.2, hO, .nil _ _ hO.2, .inl rfl, fun z hz => by cases hz⟩
    have HR0 := Lib.hid hR0
    rw [← hn] at e3
    clear hR0 hB hO h13 hn J
    go_wp2_with fail
    clear e0 e3
    go_loopw [48] (fun v wr => ∃ (k : Nat) (nv : Value) (nas' : List NA), k ≤ n ∧ v = .int .i64 k ∧ RunW w wr B (.slice fa fm fc) (.slice ba bm bc) n byz source nv nas' (.slice ag2 fl.length cg2) fl (.slice none 0 0) [] ∧ Blk wr BX 75 #[.int .i64 n, .int .u16 (sv byz), .int .i64 source, .slice an nas.length cn, .slice ag fl.length cg] ∧ Blk wr BR 75 #[.int .i64 0, .int .u16 0, .int .i64 0, .slice none 0 0, .slice none 0 0] ∧ Blk wr BP 140 #[.pointer (some ⟨B, 0, none⟩)] ∧ Hid (nas'.map NA.x = (nas.map NA.x).take k) ∧ Hid (idsB (nas.map NA.x) 0 = idsB ((nas.map NA.x).drop k) k)) (fun v _ => n - (RowKit.intOf v).toNat)
    case atStart => exact ⟨0, _, [], Nat.zero_le _, rfl, HR0.out, hBX, hBR, hBP, Lib.hid rfl, Lib.hid rfl⟩
    case round =>
      clear hBX hBR hBP HR0
      obtain ⟨k, nv, nas', hk, rfl, hR, hBX, hBR, hBP, HM, HID⟩ := hrel
      have hnl : nas'.length = k := by have := congrArg List.length HM.out; rw [List.length_map, List.length_take, List.length_map] at this; have := HLN.out; omega
      have HNL := Lib.hid hnl
      clear hnl
      by_cases hlt : k < n
      · obtain ⟨c0, c1, c2, c3, c4, c5, c6, c7, c8⟩ := nl_at (HN.out.keep hR.keeps) (by have := HLN.out; omega : k < nas.length)
        have hao := (HN.out.keep hR.keeps).isSome (by have := HLN.out; omega)
        have hnk : ((nas.length : Nat) : Int) = (n : Int) := by rw [HLN.out]
        have HSZ := Lib.hid (HHR.out (naA nas k) (naA_mem (by have := HLN.out; omega)))
        have HDZ := Lib.hid (drop_naA_x nas k (by have := HLN.out; omega))
        have HTK := Lib.hid (take_naA_x nas k (by have := HLN.out; omega))
        have HMZ := Lib.hid (naA_mem (l := nas) (i := k) (by have := HLN.out; omega))
        generalize naA nas k = z at HSZ HDZ HTK HMZ c0 c1 c2 c3 c4 c5 c6 c7 c8
        obtain ⟨CN, hCN⟩ : ∃ C, C = wr.heap.size := ⟨_, rfl⟩
        have hbx := Blk.new wr 153 #[.int .i64 z.x.id, .string z.x.echoed, .bool z.x.hasE, .string z.x.readied, .bool z.x.hasR, .string z.x.delivered, .bool z.x.hasD, .slice z.ae z.x.echoes.length z.ce, .slice z.ar z.x.readies.length z.cr]
        have kA := (Keeps.refl wr).alloc (.cells #[.int .i64 z.x.id, .string z.x.echoed, .bool z.x.hasE, .string z.x.readied, .bool z.x.hasR, .string z.x.delivered, .bool z.x.hasD, .slice z.ae z.x.echoes.length z.ce, .slice z.ar z.x.readies.length z.cr] 153)
        have HRk := Lib.hid hR
        have HKW := Lib.hid (hR.keeps.trans kA)
        rw [← hCN] at hbx
        have HCN := Lib.hid hCN
        have HXX := Lib.hid (And.intro hBX (And.intro hBR hBP))
        have HKA := Lib.hid kA
        have HBX := Lib.hid hbx
        clear hCN hBX hBR hBP kA hbx hR
        by_cases hid : z.x.id = k
        · have HZID := Lib.hid hid
          have hnb : (z.x.id != (k : Int)) = false := by rw [hid]; simp
          clear hid
          go_upto_region 10 with fail
          clear hnb c0 c1 c2 c3 c4 c5 c6 c7 c8
          rw [← HCN.out]
          have hbx := HBX.out
          have J := HKA.out
          have hlx : wr.heap.size ≤ CN := by rw [HCN.out]; exact Nat.le_refl _
          have HLEN := Lib.hid (small9 HSM.out z HMZ.out)
          have HE := Lib.hid (fun W (kk : Keeps wr W) => cloneH_any z.ae z.ce z.x.echoes W (HSZ.out.1.keep (HRk.out.keeps.trans kk)) (by have := HLEN.out.1; omega))
          have HR := Lib.hid (fun W (kk : Keeps wr W) => cloneH_any z.ar z.cr z.x.readies W (HSZ.out.2.keep (HRk.out.keeps.trans kk)) (by have := HLEN.out.2; omega))
          generalize wr.alloc (.cells #[.int .i64 z.x.id, .string z.x.echoed, .bool z.x.hasE, .string z.x.readied, .bool z.x.hasR, .string z.x.delivered, .bool z.x.hasD, .slice z.ae z.x.echoes.length z.ce, .slice z.ar z.x.readies.length z.cr] 153) = Wb at *
          go_cut [] (fun wx => ∃ ae ce ar cr, Blk wx CN 153 #[.int .i64 z.x.id, .string z.x.echoed, .bool z.x.hasE, .string z.x.readied, .bool z.x.hasR, .string z.x.delivered, .bool z.x.hasD, .slice ae z.x.echoes.length ce, .slice ar z.x.readies.length cr] ∧ Own 156 2 wr wx (.slice ae z.x.echoes.length ce) z.x.echoes.length (hl z.x.echoes) ∧ Own 156 2 wr wx (.slice ar z.x.readies.length cr) z.x.readies.length (hl z.x.readies))
          case first =>
            replace hbx := hbx.keep ((Keeps.refl Wb).drew)
            replace J := J.drew
            clear HKA HBX HKW
            refine wp_region_held_drew (S := (fun w' => True)) (by kernel_rfl) trivial (fun hHeld => ?_)
            generalize Wb.drew = V0 at *
            refine wpAnyH_take (i := 0) (oi := ⟨_, _, _, _, _, _⟩) (v := ?_) rfl (by kernel_rfl) (by kernel_rfl) (by kernel_rfl) (fun _ _ _ h => h) (Or.inl ⟨by rfl, ?_⟩) (by assumption) ?_
            rotate_left 1
            · intro w hSw; (try dsimp only at hSw); go_simp <;> with_reducible rfl
            (try simp only [Act.put]); (try simp only [List.setIfInBounds_toArray]); (try simp only [List.set_cons_succ]); (try simp only [List.set_cons_zero])
            refine wpAnyH_take (i := 3) (oi := ⟨_, _, _, _, _, _⟩) (v := ?_) rfl (by kernel_rfl) (by kernel_rfl) (by kernel_rfl) (fun _ _ _ h => h) (Or.inl ⟨by rfl, ?_⟩) (by assumption) ?_
            rotate_left 1
            · intro w hSw; (try dsimp only at hSw); go_simp <;> with_reducible rfl
            (try simp only [Act.put]); (try simp only [List.setIfInBounds_toArray]); (try simp only [List.set_cons_succ]); (try simp only [List.set_cons_zero])
            refine wpAnyH_ready (rs := [1, 4]) (by kernel_rfl) (by simp) ?_
            refine AllReadyH.cons (o := ⟨_, _, _, _, _, _⟩) rfl (fun K hK => ?_) (AllReadyH.cons (o := ⟨_, _, _, _, _, _⟩) rfl (fun K hK => ?_) AllReadyH.nil)
            · obtain ⟨c0, c1, c2, c3, c4, c5, c6, c7, c8⟩ := Blk.c9 hbx
              go_simp
              clear c0 c1 c2 c3 c4 c5 c6 c7 c8
              refine hK.out _ _ ?_ (fun hHeld => ?_)
              · trivial
              clear hK K
              (try simp only [Act.put]); (try simp only [List.setIfInBounds_toArray]); (try simp only [List.set_cons_succ]); (try simp only [List.set_cons_zero])
              refine wpAnyH_ready (rs := [2, 4]) (by kernel_rfl) (by simp) ?_
              refine AllReadyH.cons (o := ⟨_, _, _, _, _, _⟩) rfl (fun K hK => ?_) (AllReadyH.cons (o := ⟨_, _, _, _, _, _⟩) rfl (fun K hK => ?_) AllReadyH.nil)
              · go_simp
                refine (HE.out _ J).mono ?_
                rintro e V1 ⟨ue, rfl, he⟩
                obtain ⟨ae, ce, rfl, _⟩ := he.rd
                have kk := he.2
                replace he := he.since J
                replace J := J.trans kk
                replace hbx := hbx.keep kk
                clear kk
                refine hK.out _ _ ?_ (fun hHeld => ?_)
                · trivial
                clear hK K
                (try simp only [Act.put]); (try simp only [List.setIfInBounds_toArray]); (try simp only [List.set_cons_succ]); (try simp only [List.set_cons_zero])
                refine wpAnyH_ready (rs := [4]) (by kernel_rfl) (by simp) ?_
                refine AllReadyH.cons (o := ⟨_, _, _, _, _, _⟩) rfl (fun K hK => ?_) AllReadyH.nil
                obtain ⟨c0, c1, c2, c3, c4, c5, c6, c7, c8⟩ := Blk.c9 hbx
                go_simp
                clear c0 c1 c2 c3 c4 c5 c6 c7 c8
                refine hK.out _ _ ?_ (fun hHeld => ?_)
                · trivial
                clear hK K
                (try simp only [Act.put]); (try simp only [List.setIfInBounds_toArray]); (try simp only [List.set_cons_succ]); (try simp only [List.set_cons_zero])
                refine wpAnyH_take (i := 6) (oi := ⟨_, _, _, _, _, _⟩) (v := ?_) rfl (by kernel_rfl) (by kernel_rfl) (by kernel_rfl) (fun _ _ _ h => h) (Or.inl ⟨by rfl, ?_⟩) (by assumption) ?_
                rotate_left 1
                · intro w hSw; (try dsimp only at hSw); go_simp <;> with_reducible rfl
                (try simp only [Act.put]); (try simp only [List.setIfInBounds_toArray]); (try simp only [List.set_cons_succ]); (try simp only [List.set_cons_zero])
                refine wpAnyH_ready (rs := [5]) (by kernel_rfl) (by simp) ?_
                refine AllReadyH.cons (o := ⟨_, _, _, _, _, _⟩) rfl (fun K hK => ?_) AllReadyH.nil
                go_simp
                refine (HR.out _ J).mono ?_
                rintro e V2 ⟨ur, rfl, hr⟩
                obtain ⟨ar, cr, rfl, _⟩ := hr.rd
                have kk := hr.2
                replace hr := hr.since J
                replace J := J.trans kk
                replace hbx := hbx.keep kk
                replace he := he.keep kk
                clear kk
                refine hK.out _ _ ?_ (fun hHeld => ?_)
                · trivial
                clear hK K
                (try simp only [Act.put]); (try simp only [List.setIfInBounds_toArray]); (try simp only [List.set_cons_succ]); (try simp only [List.set_cons_zero])
                refine wpAnyH_ready (rs := [7]) (by kernel_rfl) (by simp) ?_
                refine AllReadyH.cons (o := ⟨_, _, _, _, _, _⟩) rfl (fun K hK => ?_) AllReadyH.nil
                have k1 := hbx.frozen 7
                obtain ⟨c0, c1, c2, c3, c4, c5, c6, c7, c8⟩ := Blk.c9 hbx
                go_simp
                clear k1 c0 c1 c2 c3 c4 c5 c6 c7 c8
                replace he := own_oth9 he hbx (by decide) hlx 7 (.slice ae z.x.echoes.length ce)
                replace hr := own_oth9 hr hbx (by decide) hlx 7 (.slice ae z.x.echoes.length ce)
                replace J := keeps_set J hlx 7 (.slice ae z.x.echoes.length ce)
                replace hbx := hbx.set 7 (.slice ae z.x.echoes.length ce)
                simp only [List.setIfInBounds_toArray, List.set_cons_succ, List.set_cons_zero] at hbx
                generalize V2.setCell ⟨CN, 7, none⟩ (.slice ae z.x.echoes.length ce) = V3 at *
                refine hK.out _ _ ?_ (fun hHeld => ?_)
                · trivial
                clear hK K
                (try simp only [Act.put]); (try simp only [List.setIfInBounds_toArray]); (try simp only [List.set_cons_succ]); (try simp only [List.set_cons_zero])
                refine wpAnyH_take (i := 8) (oi := ⟨_, _, _, _, _, _⟩) (v := ?_) rfl (by kernel_rfl) (by kernel_rfl) (by kernel_rfl) (fun _ _ _ h => h) (Or.inl ⟨by rfl, ?_⟩) (by assumption) ?_
                rotate_left 1
                · intro w hSw; (try dsimp only at hSw); go_simp <;> with_reducible rfl
                (try simp only [Act.put]); (try simp only [List.setIfInBounds_toArray]); (try simp only [List.set_cons_succ]); (try simp only [List.set_cons_zero])
                refine wpAnyH_ready (rs := [9]) (by kernel_rfl) (by simp) ?_
                refine AllReadyH.cons (o := ⟨_, _, _, _, _, _⟩) rfl (fun K hK => ?_) AllReadyH.nil
                have k1 := hbx.frozen 8
                obtain ⟨c0, c1, c2, c3, c4, c5, c6, c7, c8⟩ := Blk.c9 hbx
                go_simp
                clear k1 c0 c1 c2 c3 c4 c5 c6 c7 c8
                replace he := own_oth9 he hbx (by decide) hlx 8 (.slice ar z.x.readies.length cr)
                replace hr := own_oth9 hr hbx (by decide) hlx 8 (.slice ar z.x.readies.length cr)
                replace J := keeps_set J hlx 8 (.slice ar z.x.readies.length cr)
                replace hbx := hbx.set 8 (.slice ar z.x.readies.length cr)
                simp only [List.setIfInBounds_toArray, List.set_cons_succ, List.set_cons_zero] at hbx
                generalize V3.setCell ⟨CN, 8, none⟩ (.slice ar z.x.readies.length cr) = V4 at *
                refine hK.out _ _ ?_ (fun hHeld => ?_)
                · trivial
                clear hK K
                (try simp only [Act.put]); (try simp only [List.setIfInBounds_toArray]); (try simp only [List.set_cons_succ]); (try simp only [List.set_cons_zero])
                refine wpAnyH_done (by kernel_rfl) ?_ _
                go_wp2_with fail
                go_meet
                case rel => exact ⟨ae, ce, ar, cr, hbx, he, hr⟩
              · obtain ⟨c0, c1, c2, c3, c4, c5, c6, c7, c8⟩ := Blk.c9 hbx
                go_simp
                clear c0 c1 c2 c3 c4 c5 c6 c7 c8
                refine hK.out _ _ ?_ (fun hHeld => ?_)
                · trivial
                clear hK K
                (try simp only [Act.put]); (try simp only [List.setIfInBounds_toArray]); (try simp only [List.set_cons_succ]); (try simp only [List.set_cons_zero])
                refine wpAnyH_ready (rs := [2]) (by kernel_rfl) (by simp) ?_
                refine AllReadyH.cons (o := ⟨_, _, _, _, _, _⟩) rfl (fun K hK => ?_) AllReadyH.nil
                go_simp
                refine (HE.out _ J).mono ?_
                rintro e V1 ⟨ue, rfl, he⟩
                obtain ⟨ae, ce, rfl, _⟩ := he.rd
                have kk := he.2
                replace he := he.since J
                replace J := J.trans kk
                replace hbx := hbx.keep kk
                clear kk
                refine hK.out _ _ ?_ (fun hHeld => ?_)
                · trivial
                clear hK K
                (try simp only [Act.put]); (try simp only [List.setIfInBounds_toArray]); (try simp only [List.set_cons_succ]); (try simp only [List.set_cons_zero])
                refine wpAnyH_take (i := 6) (oi := ⟨_, _, _, _, _, _⟩) (v := ?_) rfl (by kernel_rfl) (by kernel_rfl) (by kernel_rfl) (fun _ _ _ h => h) (Or.inl ⟨by rfl, ?_⟩) (by assumption) ?_
                rotate_left 1
                · intro w hSw; (try dsimp only at hSw); go_simp <;> with_reducible rfl
                (try simp only [Act.put]); (try simp only [List.setIfInBounds_toArray]); (try simp only [List.set_cons_succ]); (try simp only [List.set_cons_zero])
                refine wpAnyH_ready (rs := [5]) (by kernel_rfl) (by simp) ?_
                refine AllReadyH.cons (o := ⟨_, _, _, _, _, _⟩) rfl (fun K hK => ?_) AllReadyH.nil
                go_simp
                refine (HR.out _ J).mono ?_
                rintro e V2 ⟨ur, rfl, hr⟩
                obtain ⟨ar, cr, rfl, _⟩ := hr.rd
                have kk := hr.2
                replace hr := hr.since J
                replace J := J.trans kk
                replace hbx := hbx.keep kk
                replace he := he.keep kk
                clear kk
                refine hK.out _ _ ?_ (fun hHeld => ?_)
                · trivial
                clear hK K
                (try simp only [Act.put]); (try simp only [List.setIfInBounds_toArray]); (try simp only [List.set_cons_succ]); (try simp only [List.set_cons_zero])
                refine wpAnyH_ready (rs := [7]) (by kernel_rfl) (by simp) ?_
                refine AllReadyH.cons (o := ⟨_, _, _, _, _, _⟩) rfl (fun K hK => ?_) AllReadyH.nil
                have k1 := hbx.frozen 7
                obtain ⟨c0, c1, c2, c3, c4, c5, c6, c7, c8⟩ := Blk.c9 hbx
                go_simp
                clear k1 c0 c1 c2 c3 c4 c5 c6 c7 c8
                replace he := own_oth9 he hbx (by decide) hlx 7 (.slice ae z.x.echoes.length ce)
                replace hr := own_oth9 hr hbx (by decide) hlx 7 (.slice ae z.x.echoes.length ce)
                replace J := keeps_set J hlx 7 (.slice ae z.x.echoes.length ce)
                replace hbx := hbx.set 7 (.slice ae z.x.echoes.length ce)
                simp only [List.setIfInBounds_toArray, List.set_cons_succ, List.set_cons_zero] at hbx
                generalize V2.setCell ⟨CN, 7, none⟩ (.slice ae z.x.echoes.length ce) = V3 at *
                refine hK.out _ _ ?_ (fun hHeld => ?_)
                · trivial
                clear hK K
                (try simp only [Act.put]); (try simp only [List.setIfInBounds_toArray]); (try simp only [List.set_cons_succ]); (try simp only [List.set_cons_zero])
                refine wpAnyH_take (i := 8) (oi := ⟨_, _, _, _, _, _⟩) (v := ?_) rfl (by kernel_rfl) (by kernel_rfl) (by kernel_rfl) (fun _ _ _ h => h) (Or.inl ⟨by rfl, ?_⟩) (by assumption) ?_
                rotate_left 1
                · intro w hSw; (try dsimp only at hSw); go_simp <;> with_reducible rfl
                (try simp only [Act.put]); (try simp only [List.setIfInBounds_toArray]); (try simp only [List.set_cons_succ]); (try simp only [List.set_cons_zero])
                refine wpAnyH_ready (rs := [9]) (by kernel_rfl) (by simp) ?_
                refine AllReadyH.cons (o := ⟨_, _, _, _, _, _⟩) rfl (fun K hK => ?_) AllReadyH.nil
                have k1 := hbx.frozen 8
                obtain ⟨c0, c1, c2, c3, c4, c5, c6, c7, c8⟩ := Blk.c9 hbx
                go_simp
                clear k1 c0 c1 c2 c3 c4 c5 c6 c7 c8
                replace he := own_oth9 he hbx (by decide) hlx 8 (.slice ar z.x.readies.length cr)
                replace hr := own_oth9 hr hbx (by decide) hlx 8 (.slice ar z.x.readies.length cr)
                replace J := keeps_set J hlx 8 (.slice ar z.x.readies.length cr)
                replace hbx := hbx.set 8 (.slice ar z.x.readies.length cr)
                simp only [List.setIfInBounds_toArray, List.set_cons_succ, List.set_cons_zero] at hbx
                generalize V3.setCell ⟨CN, 8, none⟩ (.slice ar z.x.readies.length cr) = V4 at *
                refine hK.out _ _ ?_ (fun hHeld => ?_)
                · trivial
                clear hK K
                (try simp only [Act.put]); (try simp only [List.setIfInBounds_toArray]); (try simp only [List.set_cons_succ]); (try simp only [List.set_cons_zero])
                refine wpAnyH_done (by kernel_rfl) ?_ _
                go_wp2_with fail
                go_meet
                case rel => exact ⟨ae, ce, ar, cr, hbx, he, hr⟩
            · obtain ⟨c0, c1, c2, c3, c4, c5, c6, c7, c8⟩ := Blk.c9 hbx
              go_simp
              clear c0 c1 c2 c3 c4 c5 c6 c7 c8
              refine hK.out _ _ ?_ (fun hHeld => ?_)
              · trivial
              clear hK K
              (try simp only [Act.put]); (try simp only [List.setIfInBounds_toArray]); (try simp only [List.set_cons_succ]); (try simp only [List.set_cons_zero])
              refine wpAnyH_ready (rs := [1]) (by kernel_rfl) (by simp) ?_
              refine AllReadyH.cons (o := ⟨_, _, _, _, _, _⟩) rfl (fun K hK => ?_) AllReadyH.nil
              obtain ⟨c0, c1, c2, c3, c4, c5, c6, c7, c8⟩ := Blk.c9 hbx
              go_simp
              clear c0 c1 c2 c3 c4 c5 c6 c7 c8
              refine hK.out _ _ ?_ (fun hHeld => ?_)
              · trivial
              clear hK K
              (try simp only [Act.put]); (try simp only [List.setIfInBounds_toArray]); (try simp only [List.set_cons_succ]); (try simp only [List.set_cons_zero])
              refine wpAnyH_ready (rs := [2]) (by kernel_rfl) (by simp) ?_
              refine AllReadyH.cons (o := ⟨_, _, _, _, _, _⟩) rfl (fun K hK => ?_) AllReadyH.nil
              go_simp
              refine (HE.out _ J).mono ?_
              rintro e V1 ⟨ue, rfl, he⟩
              obtain ⟨ae, ce, rfl, _⟩ := he.rd
              have kk := he.2
              replace he := he.since J
              replace J := J.trans kk
              replace hbx := hbx.keep kk
              clear kk
              refine hK.out _ _ ?_ (fun hHeld => ?_)
              · trivial
              clear hK K
              (try simp only [Act.put]); (try simp only [List.setIfInBounds_toArray]); (try simp only [List.set_cons_succ]); (try simp only [List.set_cons_zero])
              refine wpAnyH_take (i := 6) (oi := ⟨_, _, _, _, _, _⟩) (v := ?_) rfl (by kernel_rfl) (by kernel_rfl) (by kernel_rfl) (fun _ _ _ h => h) (Or.inl ⟨by rfl, ?_⟩) (by assumption) ?_
              rotate_left 1
              · intro w hSw; (try dsimp only at hSw); go_simp <;> with_reducible rfl
              (try simp only [Act.put]); (try simp only [List.setIfInBounds_toArray]); (try simp only [List.set_cons_succ]); (try simp only [List.set_cons_zero])
              refine wpAnyH_ready (rs := [5]) (by kernel_rfl) (by simp) ?_
              refine AllReadyH.cons (o := ⟨_, _, _, _, _, _⟩) rfl (fun K hK => ?_) AllReadyH.nil
              go_simp
              refine (HR.out _ J).mono ?_
              rintro e V2 ⟨ur, rfl, hr⟩
              obtain ⟨ar, cr, rfl, _⟩ := hr.rd
              have kk := hr.2
              replace hr := hr.since J
              replace J := J.trans kk
              replace hbx := hbx.keep kk
              replace he := he.keep kk
              clear kk
              refine hK.out _ _ ?_ (fun hHeld => ?_)
              · trivial
              clear hK K
              (try simp only [Act.put]); (try simp only [List.setIfInBounds_toArray]); (try simp only [List.set_cons_succ]); (try simp only [List.set_cons_zero])
              refine wpAnyH_ready (rs := [7]) (by kernel_rfl) (by simp) ?_
              refine AllReadyH.cons (o := ⟨_, _, _, _, _, _⟩) rfl (fun K hK => ?_) AllReadyH.nil
              have k1 := hbx.frozen 7
              obtain ⟨c0, c1, c2, c3, c4, c5, c6, c7, c8⟩ := Blk.c9 hbx
              go_simp
              clear k1 c0 c1 c2 c3 c4 c5 c6 c7 c8
              replace he := own_oth9 he hbx (by decide) hlx 7 (.slice ae z.x.echoes.length ce)
              replace hr := own_oth9 hr hbx (by decide) hlx 7 (.slice ae z.x.echoes.length ce)
              replace J := keeps_set J hlx 7 (.slice ae z.x.echoes.length ce)
              replace hbx := hbx.set 7 (.slice ae z.x.echoes.length ce)
              simp only [List.setIfInBounds_toArray, List.set_cons_succ, List.set_cons_zero] at hbx
              generalize V2.setCell ⟨CN, 7, none⟩ (.slice ae z.x.echoes.length ce) = V3 at *
              refine hK.out _ _ ?_ (fun hHeld => ?_)
              · trivial
              clear hK K
              (try simp only [Act.put]); (try simp only [List.setIfInBounds_toArray]); (try simp only [List.set_cons_succ]); (try simp only [List.set_cons_zero])
              refine wpAnyH_take (i := 8) (oi := ⟨_, _, _, _, _, _⟩) (v := ?_) rfl (by kernel_rfl) (by kernel_rfl) (by kernel_rfl) (fun _ _ _ h => h) (Or.inl ⟨by rfl, ?_⟩) (by assumption) ?_
              rotate_left 1
              · intro w hSw; (try dsimp only at hSw); go_simp <;> with_reducible rfl
              (try simp only [Act.put]); (try simp only [List.setIfInBounds_toArray]); (try simp only [List.set_cons_succ]); (try simp only [List.set_cons_zero])
              refine wpAnyH_ready (rs := [9]) (by kernel_rfl) (by simp) ?_
              refine AllReadyH.cons (o := ⟨_, _, _, _, _, _⟩) rfl (fun K hK => ?_) AllReadyH.nil
              have k1 := hbx.frozen 8
              obtain ⟨c0, c1, c2, c3, c4, c5, c6, c7, c8⟩ := Blk.c9 hbx
              go_simp
              clear k1 c0 c1 c2 c3 c4 c5 c6 c7 c8
              replace he := own_oth9 he hbx (by decide) hlx 8 (.slice ar z.x.readies.length cr)
              replace hr := own_oth9 hr hbx (by decide) hlx 8 (.slice ar z.x.readies.length cr)
              replace J := keeps_set J hlx 8 (.slice ar z.x.readies.length cr)
              replace hbx := hbx.set 8 (.slice ar z.x.readies.length cr)
              simp only [List.setIfInBounds_toArray, List.set_cons_succ, List.set_cons_zero] at hbx
              generalize V3.setCell ⟨CN, 8, none⟩ (.slice ar z.x.readies.length cr) = V4 at *
              refine hK.out _ _ ?_ (fun hHeld => ?_)
              · trivial
              clear hK K
              (try simp only [Act.put]); (try simp only [List.setIfInBounds_toArray]); (try simp only [List.set_cons_succ]); (try simp only [List.set_cons_zero])
              refine wpAnyH_done (by kernel_rfl) ?_ _
              go_wp2_with fail
              go_meet
              case rel => exact ⟨ae, ce, ar, cr, hbx, he, hr⟩
          case rest =>
            clear hbx J HE HR HKA HBX HKW
            obtain ⟨ae, ce, ar, cr, hbx, he, hr⟩ := hcut
            have hR := HRk.out.keep he.2
            have hBX := HXX.out.1.keep he.2
            have hBR := HXX.out.2.1.keep he.2
            have hBP := HXX.out.2.2.keep he.2
            have HNE : Hid (some CN ≠ nv.ownBlock) := Lib.hid (fun e => by have := (HRk.out.own.1.lt CN e.symm).2; have := HCN.out; omega)
            clear HRk HXX HCN hlx
            go_wp2_with fail
            have kd := (Keeps.refl wc).drew
            replace hR := hR.keep kd
            replace hBX := hBX.keep kd
            replace hBR := hBR.keep kd
            replace hBP := hBP.keep kd
            replace hbx := hbx.keep kd
            replace he := he.keep kd
            replace hr := hr.keep kd
            clear kd
            refine wp_region_held_drew (S := (fun w' => w'.cell? ⟨BP, 0, none⟩ = some (.pointer (some ⟨B, 0, none⟩)) ∧ w'.cell? ⟨CN, 0, none⟩ = some (.int .i64 z.x.id) ∧ w'.cell? ⟨CN, 1, none⟩ = some (.string z.x.echoed) ∧ w'.cell? ⟨CN, 2, none⟩ = some (.bool z.x.hasE) ∧ w'.cell? ⟨CN, 3, none⟩ = some (.string z.x.readied) ∧ w'.cell? ⟨CN, 4, none⟩ = some (.bool z.x.hasR) ∧ w'.cell? ⟨CN, 5, none⟩ = some (.string z.x.delivered) ∧ w'.cell? ⟨CN, 6, none⟩ = some (.bool z.x.hasD) ∧ w'.cell? ⟨CN, 7, none⟩ = some (.slice ae z.x.echoes.length ce) ∧ w'.cell? ⟨CN, 8, none⟩ = some (.slice ar z.x.readies.length cr))) (by kernel_rfl) ?_ (fun hHeld => ?_)
            · exact ⟨hBP.cell 0 rfl, hbx.cell 0 rfl, hbx.cell 1 rfl, hbx.cell 2 rfl, hbx.cell 3 rfl, hbx.cell 4 rfl, hbx.cell 5 rfl, hbx.cell 6 rfl, hbx.cell 7 rfl, hbx.cell 8 rfl⟩
            generalize wc.drew = V0 at *
            refine wpAnyH_take (i := 0) (oi := ⟨_, _, _, _, _, _⟩) (v := ?_) rfl (by kernel_rfl) (by kernel_rfl) (by kernel_rfl) (fun _ _ _ h => h) (Or.inl ⟨by rfl, ?_⟩) (by assumption) ?_
            rotate_left 1
            · intro w hSw; (try dsimp only at hSw); go_simp <;> with_reducible rfl
            (try simp only [Act.put]); (try simp only [List.setIfInBounds_toArray]); (try simp only [List.set_cons_succ]); (try simp only [List.set_cons_zero])
            refine wpAnyH_take (i := 1) (oi := ⟨_, _, _, _, _, _⟩) (v := ?_) rfl (by kernel_rfl) (by kernel_rfl) (by kernel_rfl) (fun _ _ _ h => h) (Or.inl ⟨by rfl, ?_⟩) (by assumption) ?_
            rotate_left 1
            · intro w hSw; (try dsimp only at hSw); go_simp <;> with_reducible rfl
            (try simp only [Act.put]); (try simp only [List.setIfInBounds_toArray]); (try simp only [List.set_cons_succ]); (try simp only [List.set_cons_zero])
            refine wpAnyH_take (i := 2) (oi := ⟨_, _, _, _, _, _⟩) (v := ?_) rfl (by kernel_rfl) (by kernel_rfl) (by kernel_rfl) (fun _ _ _ h => h) (Or.inl ⟨by rfl, ?_⟩) (by assumption) ?_
            rotate_left 1
            · intro w hSw; (try dsimp only at hSw); go_simp <;> with_reducible rfl
            (try simp only [Act.put]); (try simp only [List.setIfInBounds_toArray]); (try simp only [List.set_cons_succ]); (try simp only [List.set_cons_zero])
            refine wpAnyH_take (i := 3) (oi := ⟨_, _, _, _, _, _⟩) (v := ?_) rfl (by kernel_rfl) (by kernel_rfl) (by kernel_rfl) (fun _ _ _ h => h) (Or.inl ⟨by rfl, ?_⟩) (by assumption) ?_
            rotate_left 1
            · intro w hSw; (try dsimp only at hSw); go_simp <;> with_reducible rfl
            (try simp only [Act.put]); (try simp only [List.setIfInBounds_toArray]); (try simp only [List.set_cons_succ]); (try simp only [List.set_cons_zero])
            refine wpAnyH_take (i := 4) (oi := ⟨_, _, _, _, _, _⟩) (v := ?_) rfl (by kernel_rfl) (by kernel_rfl) (by kernel_rfl) (fun _ _ _ h => h) (Or.inl ⟨by rfl, ?_⟩) (by assumption) ?_
            rotate_left 1
            · intro w hSw; (try dsimp only at hSw); go_simp <;> with_reducible rfl
            (try simp only [Act.put]); (try simp only [List.setIfInBounds_toArray]); (try simp only [List.set_cons_succ]); (try simp only [List.set_cons_zero])
            refine wpAnyH_take (i := 6) (oi := ⟨_, _, _, _, _, _⟩) (v := ?_) rfl (by kernel_rfl) (by kernel_rfl) (by kernel_rfl) (fun _ _ _ h => h) (Or.inl ⟨by rfl, ?_⟩) (by assumption) ?_
            rotate_left 1
            · intro w hSw; (try dsimp only at hSw); go_simp <;> with_reducible rfl
            (try simp only [Act.put]); (try simp only [List.setIfInBounds_toArray]); (try simp only [List.set_cons_succ]); (try simp only [List.set_cons_zero])
            refine wpAnyH_ready (rs := [5, 7]) (by kernel_rfl) (by simp) ?_
            refine AllReadyH.cons (o := ⟨_, _, _, _, _, _⟩) rfl (fun K hK => ?_) (AllReadyH.cons (o := ⟨_, _, _, _, _, _⟩) rfl (fun K hK => ?_) AllReadyH.nil)
            · have c5 := hR.box.cell 5 (v := nv) rfl
              go_simp
              clear c5
              refine hK.out _ _ ?_ (fun hHeld => ?_)
              · exact ⟨hBP.cell 0 rfl, hbx.cell 0 rfl, hbx.cell 1 rfl, hbx.cell 2 rfl, hbx.cell 3 rfl, hbx.cell 4 rfl, hbx.cell 5 rfl, hbx.cell 6 rfl, hbx.cell 7 rfl, hbx.cell 8 rfl⟩
              clear hK K
              (try simp only [Act.put]); (try simp only [List.setIfInBounds_toArray]); (try simp only [List.set_cons_succ]); (try simp only [List.set_cons_zero])
              refine wpAnyH_ready (rs := [7]) (by kernel_rfl) (by simp) ?_
              refine AllReadyH.cons (o := ⟨_, _, _, _, _, _⟩) rfl (fun K hK => ?_) AllReadyH.nil
              go_simp
              have r1 : Rd (V0.alloc (.cells #[.int .i64 z.x.id, .string z.x.echoed, .bool z.x.hasE, .string z.x.readied, .bool z.x.hasR, .string z.x.delivered, .bool z.x.hasD, .slice ae z.x.echoes.length ce, .slice ar z.x.readies.length cr] 153)) (some ⟨V0.heap.size, 0, none⟩) 1 1 9 (nl [(⟨z.x, ae, ce, ar, cr⟩ : NA)]) := rd_new 153 9 V0 _ 1 (by decide) rfl
              have kA := (Keeps.refl V0).alloc (.cells #[.int .i64 z.x.id, .string z.x.echoed, .bool z.x.hasE, .string z.x.readied, .bool z.x.hasR, .string z.x.delivered, .bool z.x.hasD, .slice ae z.x.echoes.length ce, .slice ar z.x.readies.length cr] 153)
              replace hR := hR.keep kA
              replace hBX := hBX.keep kA
              replace hBR := hBR.keep kA
              replace hBP := hBP.keep kA
              replace hbx := hbx.keep kA
              replace he := he.keep kA
              replace hr := hr.keep kA
              clear kA
              generalize V0.alloc (.cells #[.int .i64 z.x.id, .string z.x.echoed, .bool z.x.hasE, .string z.x.readied, .bool z.x.hasR, .string z.x.delivered, .bool z.x.hasD, .slice ae z.x.echoes.length ce, .slice ar z.x.readies.length cr] 153) = V1 at *
              generalize V0.heap.size = BS at *
              refine hK.out _ _ ?_ (fun hHeld => ?_)
              · exact ⟨hBP.cell 0 rfl, hbx.cell 0 rfl, hbx.cell 1 rfl, hbx.cell 2 rfl, hbx.cell 3 rfl, hbx.cell 4 rfl, hbx.cell 5 rfl, hbx.cell 6 rfl, hbx.cell 7 rfl, hbx.cell 8 rfl⟩
              clear hK K
              (try simp only [Act.put]); (try simp only [List.setIfInBounds_toArray]); (try simp only [List.set_cons_succ]); (try simp only [List.set_cons_zero])
              refine wpAnyH_ready (rs := [8]) (by kernel_rfl) (by simp) ?_
              refine AllReadyH.cons (o := ⟨_, _, _, _, _, _⟩) rfl (fun K hK => ?_) AllReadyH.nil
              have HO := Lib.hid hR.own
              refine step_app3 ty_nl rfl _ _ rfl HO.out rfl rfl r1 (nl_cells _) (by have := HNL.out; omega) ?_
              intro v' V2 hO' hgr hb'
              dsimp only
              obtain ⟨a9, c9, rfl, _⟩ := hO'.rd
              rw [← nl_append] at hO'
              obtain ⟨L', hL'⟩ : ∃ L', L' = nas' ++ [(⟨z.x, ae, ce, ar, cr⟩ : NA)] := ⟨_, rfl⟩
              rw [len_snocN nas' (⟨z.x, ae, ce, ar, cr⟩ : NA), ← hL'] at hO' hb' ⊢
              have HL' := Lib.hid hL'
              clear hL'
              have ne1 := blk_ne hBX HO.out.1 (by decide)
              have ne2 := blk_ne hBR HO.out.1 (by decide)
              have ne3 := blk_ne hBP HO.out.1 (by decide)
              replace hBX := blk_grown9 hBX hgr ne1
              replace hBR := blk_grown9 hBR hgr ne2
              replace hBP := blk_grown9 hBP hgr ne3
              replace hbx := blk_grown9 hbx hgr HNE.out
              clear ne1 ne2 ne3
              have hap := hR.appendN hO' hgr (z := (⟨z.x, ae, ce, ar, cr⟩ : NA)) ⟨he.row0, hr.row0⟩ HL'.out
              have hrb : Blk V2 B 148 #[.slice fa fm fc, .slice ba bm bc, .int .i64 n, .int .u16 (sv byz), .int .i64 source, nv, .slice ag2 fl.length cg2] := blk_grown9 hR.box hgr (blk_ne hR.box HO.out.1 (by decide))
              have HAP := Lib.hid hap
              clear hap hO' hgr hb' HO r1 hR he hr
              refine hK.out _ _ ?_ (fun hHeld => ?_)
              · exact ⟨hBP.cell 0 rfl, hbx.cell 0 rfl, hbx.cell 1 rfl, hbx.cell 2 rfl, hbx.cell 3 rfl, hbx.cell 4 rfl, hbx.cell 5 rfl, hbx.cell 6 rfl, hbx.cell 7 rfl, hbx.cell 8 rfl⟩
              clear hK K
              (try simp only [Act.put]); (try simp only [List.setIfInBounds_toArray]); (try simp only [List.set_cons_succ]); (try simp only [List.set_cons_zero])
              refine wpAnyH_take (i := 9) (oi := ⟨_, _, _, _, _, _⟩) (v := ?_) rfl (by kernel_rfl) (by kernel_rfl) (by kernel_rfl) (fun _ _ _ h => h) (Or.inl ⟨by rfl, ?_⟩) (by assumption) ?_
              rotate_left 1
              · intro w hSw; (try dsimp only at hSw); go_simp <;> with_reducible rfl
              (try simp only [Act.put]); (try simp only [List.setIfInBounds_toArray]); (try simp only [List.set_cons_succ]); (try simp only [List.set_cons_zero])
              refine wpAnyH_take (i := 10) (oi := ⟨_, _, _, _, _, _⟩) (v := ?_) rfl (by kernel_rfl) (by kernel_rfl) (by kernel_rfl) (fun _ _ _ h => h) (Or.inl ⟨by rfl, ?_⟩) (by assumption) ?_
              rotate_left 1
              · intro w hSw; (try dsimp only at hSw); go_simp <;> with_reducible rfl
              (try simp only [Act.put]); (try simp only [List.setIfInBounds_toArray]); (try simp only [List.set_cons_succ]); (try simp only [List.set_cons_zero])
              refine wpAnyH_take (i := 11) (oi := ⟨_, _, _, _, _, _⟩) (v := ?_) rfl (by kernel_rfl) (by kernel_rfl) (by kernel_rfl) (fun _ _ _ h => h) (Or.inl ⟨by rfl, ?_⟩) (by assumption) ?_
              rotate_left 1
              · intro w hSw; (try dsimp only at hSw); go_simp <;> with_reducible rfl
              (try simp only [Act.put]); (try simp only [List.setIfInBounds_toArray]); (try simp only [List.set_cons_succ]); (try simp only [List.set_cons_zero])
              refine wpAnyH_ready (rs := [12]) (by kernel_rfl) (by simp) ?_
              refine AllReadyH.cons (o := ⟨_, _, _, _, _, _⟩) rfl (fun K hK => ?_) AllReadyH.nil
              have c6 := hrb.cell 5 (v := nv) rfl
              have g6 := hrb.frozen 5
              go_simp
              clear c6 g6
              have hR := HAP.out
              replace hBX := hBX.setOther (hBX.ne hrb (by decide)) 5 (.slice a9 L'.length c9)
              replace hBR := hBR.setOther (hBR.ne hrb (by decide)) 5 (.slice a9 L'.length c9)
              replace hBP := hBP.setOther (hBP.ne hrb (by decide)) 5 (.slice a9 L'.length c9)
              replace hbx := hbx.setOther (hbx.ne hrb (by decide)) 5 (.slice a9 L'.length c9)
              generalize V2.setCell ⟨B, 5, none⟩ (.slice a9 L'.length c9) = V3 at *
              refine hK.out _ _ ?_ (fun hHeld => ?_)
              · exact ⟨hBP.cell 0 rfl, hbx.cell 0 rfl, hbx.cell 1 rfl, hbx.cell 2 rfl, hbx.cell 3 rfl, hbx.cell 4 rfl, hbx.cell 5 rfl, hbx.cell 6 rfl, hbx.cell 7 rfl, hbx.cell 8 rfl⟩
              clear hK K
              (try simp only [Act.put]); (try simp only [List.setIfInBounds_toArray]); (try simp only [List.set_cons_succ]); (try simp only [List.set_cons_zero])
              refine wpAnyH_done (by kernel_rfl) ?_ _
              have HR := Lib.hid hR
              have HX := Lib.hid (And.intro hBX (And.intro hBR hBP))
              clear hR hBX hBR hBP hbx HAP hrb
              go_wp2_with fail
              go_roundw
              case rel => exact ⟨k + 1, _, L', by omega, by go_num, HR.out, HX.out.1, HX.out.2.1, HX.out.2.2, Lib.hid (by rw [HL'.out, List.map_append, HM.out, HTK.out]; rfl), Lib.hid (by rw [HID.out, HDZ.out]; simp [idsB, HZID.out])⟩
              case measure => simp [RowKit.intOf]; omega
            · go_simp
              have r1 : Rd (V0.alloc (.cells #[.int .i64 z.x.id, .string z.x.echoed, .bool z.x.hasE, .string z.x.readied, .bool z.x.hasR, .string z.x.delivered, .bool z.x.hasD, .slice ae z.x.echoes.length ce, .slice ar z.x.readies.length cr] 153)) (some ⟨V0.heap.size, 0, none⟩) 1 1 9 (nl [(⟨z.x, ae, ce, ar, cr⟩ : NA)]) := rd_new 153 9 V0 _ 1 (by decide) rfl
              have kA := (Keeps.refl V0).alloc (.cells #[.int .i64 z.x.id, .string z.x.echoed, .bool z.x.hasE, .string z.x.readied, .bool z.x.hasR, .string z.x.delivered, .bool z.x.hasD, .slice ae z.x.echoes.length ce, .slice ar z.x.readies.length cr] 153)
              replace hR := hR.keep kA
              replace hBX := hBX.keep kA
              replace hBR := hBR.keep kA
              replace hBP := hBP.keep kA
              replace hbx := hbx.keep kA
              replace he := he.keep kA
              replace hr := hr.keep kA
              clear kA
              generalize V0.alloc (.cells #[.int .i64 z.x.id, .string z.x.echoed, .bool z.x.hasE, .string z.x.readied, .bool z.x.hasR, .string z.x.delivered, .bool z.x.hasD, .slice ae z.x.echoes.length ce, .slice ar z.x.readies.length cr] 153) = V1 at *
              generalize V0.heap.size = BS at *
              refine hK.out _ _ ?_ (fun hHeld => ?_)
              · exact ⟨hBP.cell 0 rfl, hbx.cell 0 rfl, hbx.cell 1 rfl, hbx.cell 2 rfl, hbx.cell 3 rfl, hbx.cell 4 rfl, hbx.cell 5 rfl, hbx.cell 6 rfl, hbx.cell 7 rfl, hbx.cell 8 rfl⟩
              clear hK K
              (try simp only [Act.put]); (try simp only [List.setIfInBounds_toArray]); (try simp only [List.set_cons_succ]); (try simp only [List.set_cons_zero])
              refine wpAnyH_ready (rs := [5]) (by kernel_rfl) (by simp) ?_
              refine AllReadyH.cons (o := ⟨_, _, _, _, _, _⟩) rfl (fun K hK => ?_) AllReadyH.nil
              have c5 := hR.box.cell 5 (v := nv) rfl
              go_simp
              clear c5
              refine hK.out _ _ ?_ (fun hHeld => ?_)
              · exact ⟨hBP.cell 0 rfl, hbx.cell 0 rfl, hbx.cell 1 rfl, hbx.cell 2 rfl, hbx.cell 3 rfl, hbx.cell 4 rfl, hbx.cell 5 rfl, hbx.cell 6 rfl, hbx.cell 7 rfl, hbx.cell 8 rfl⟩
              clear hK K
              (try simp only [Act.put]); (try simp only [List.setIfInBounds_toArray]); (try simp only [List.set_cons_succ]); (try simp only [List.set_cons_zero])
              refine wpAnyH_ready (rs := [8]) (by kernel_rfl) (by simp) ?_
              refine AllReadyH.cons (o := ⟨_, _, _, _, _, _⟩) rfl (fun K hK => ?_) AllReadyH.nil
              have HO := Lib.hid hR.own
              refine step_app3 ty_nl rfl _ _ rfl HO.out rfl rfl r1 (nl_cells _) (by have := HNL.out; omega) ?_
              intro v' V2 hO' hgr hb'
              dsimp only
              obtain ⟨a9, c9, rfl, _⟩ := hO'.rd
              rw [← nl_append] at hO'
              obtain ⟨L', hL'⟩ : ∃ L', L' = nas' ++ [(⟨z.x, ae, ce, ar, cr⟩ : NA)] := ⟨_, rfl⟩
              rw [len_snocN nas' (⟨z.x, ae, ce, ar, cr⟩ : NA), ← hL'] at hO' hb' ⊢
              have HL' := Lib.hid hL'
              clear hL'
              have ne1 := blk_ne hBX HO.out.1 (by decide)
              have ne2 := blk_ne hBR HO.out.1 (by decide)
              have ne3 := blk_ne hBP HO.out.1 (by decide)
              replace hBX := blk_grown9 hBX hgr ne1
              replace hBR := blk_grown9 hBR hgr ne2
              replace hBP := blk_grown9 hBP hgr ne3
              replace hbx := blk_grown9 hbx hgr HNE.out
              clear ne1 ne2 ne3
              have hap := hR.appendN hO' hgr (z := (⟨z.x, ae, ce, ar, cr⟩ : NA)) ⟨he.row0, hr.row0⟩ HL'.out
              have hrb : Blk V2 B 148 #[.slice fa fm fc, .slice ba bm bc, .int .i64 n, .int .u16 (sv byz), .int .i64 source, nv, .slice ag2 fl.length cg2] := blk_grown9 hR.box hgr (blk_ne hR.box HO.out.1 (by decide))
              have HAP := Lib.hid hap
              clear hap hO' hgr hb' HO r1 hR he hr
              refine hK.out _ _ ?_ (fun hHeld => ?_)
              · exact ⟨hBP.cell 0 rfl, hbx.cell 0 rfl, hbx.cell 1 rfl, hbx.cell 2 rfl, hbx.cell 3 rfl, hbx.cell 4 rfl, hbx.cell 5 rfl, hbx.cell 6 rfl, hbx.cell 7 rfl, hbx.cell 8 rfl⟩
              clear hK K
              (try simp only [Act.put]); (try simp only [List.setIfInBounds_toArray]); (try simp only [List.set_cons_succ]); (try simp only [List.set_cons_zero])
              refine wpAnyH_take (i := 9) (oi := ⟨_, _, _, _, _, _⟩) (v := ?_) rfl (by kernel_rfl) (by kernel_rfl) (by kernel_rfl) (fun _ _ _ h => h) (Or.inl ⟨by rfl, ?_⟩) (by assumption) ?_
              rotate_left 1
              · intro w hSw; (try dsimp only at hSw); go_simp <;> with_reducible rfl
              (try simp only [Act.put]); (try simp only [List.setIfInBounds_toArray]); (try simp only [List.set_cons_succ]); (try simp only [List.set_cons_zero])
              refine wpAnyH_take (i := 10) (oi := ⟨_, _, _, _, _, _⟩) (v := ?_) rfl (by kernel_rfl) (by kernel_rfl) (by kernel_rfl) (fun _ _ _ h => h) (Or.inl ⟨by rfl, ?_⟩) (by assumption) ?_
              rotate_left 1
              · intro w hSw; (try dsimp only at hSw); go_simp <;> with_reducible rfl
              (try simp only [Act.put]); (try simp only [List.setIfInBounds_toArray]); (try simp only [List.set_cons_succ]); (try simp only [List.set_cons_zero])
              refine wpAnyH_take (i := 11) (oi := ⟨_, _, _, _, _, _⟩) (v := ?_) rfl (by kernel_rfl) (by kernel_rfl) (by kernel_rfl) (fun _ _ _ h => h) (Or.inl ⟨by rfl, ?_⟩) (by assumption) ?_
              rotate_left 1
              · intro w hSw; (try dsimp only at hSw); go_simp <;> with_reducible rfl
              (try simp only [Act.put]); (try simp only [List.setIfInBounds_toArray]); (try simp only [List.set_cons_succ]); (try simp only [List.set_cons_zero])
              refine wpAnyH_ready (rs := [12]) (by kernel_rfl) (by simp) ?_
              refine AllReadyH.cons (o := ⟨_, _, _, _, _, _⟩) rfl (fun K hK => ?_) AllReadyH.nil
              have c6 := hrb.cell 5 (v := nv) rfl
              have g6 := hrb.frozen 5
              go_simp
              clear c6 g6
              have hR := HAP.out
              replace hBX := hBX.setOther (hBX.ne hrb (by decide)) 5 (.slice a9 L'.length c9)
              replace hBR := hBR.setOther (hBR.ne hrb (by decide)) 5 (.slice a9 L'.length c9)
              replace hBP := hBP.setOther (hBP.ne hrb (by decide)) 5 (.slice a9 L'.length c9)
              replace hbx := hbx.setOther (hbx.ne hrb (by decide)) 5 (.slice a9 L'.length c9)
              generalize V2.setCell ⟨B, 5, none⟩ (.slice a9 L'.length c9) = V3 at *
              refine hK.out _ _ ?_ (fun hHeld => ?_)
              · exact ⟨hBP.cell 0 rfl, hbx.cell 0 rfl, hbx.cell 1 rfl, hbx.cell 2 rfl, hbx.cell 3 rfl, hbx.cell 4 rfl, hbx.cell 5 rfl, hbx.cell 6 rfl, hbx.cell 7 rfl, hbx.cell 8 rfl⟩
              clear hK K
              (try simp only [Act.put]); (try simp only [List.setIfInBounds_toArray]); (try simp only [List.set_cons_succ]); (try simp only [List.set_cons_zero])
              refine wpAnyH_done (by kernel_rfl) ?_ _
              have HR := Lib.hid hR
              have HX := Lib.hid (And.intro hBX (And.intro hBR hBP))
              clear hR hBX hBR hBP hbx HAP hrb
              go_wp2_with fail
              go_roundw
              case rel => exact ⟨k + 1, _, L', by omega, by go_num, HR.out, HX.out.1, HX.out.2.1, HX.out.2.2, Lib.hid (by rw [HL'.out, List.map_append, HM.out, HTK.out]; rfl), Lib.hid (by rw [HID.out, HDZ.out]; simp [idsB, HZID.out])⟩
              case measure => simp [RowKit.intOf]; omega
        · have hnb : (z.x.id != (k : Int)) = true := by simpa using hid
          have hE : setE f b n byz (nas.map NA.x) fl = 1 := setE_ids (by rw [List.length_map]; exact H13.out) (by rw [HID.out, HDZ.out]; simp [idsB, hid])
          have HE := Lib.hid hE
          clear hE hid
          have hBR := HXX.out.2.1.keep HKA.out
          have J := HKW.out
          obtain ⟨d0, d1, d2, d3, d4⟩ := Go.Proofs.YtijknodekomdfaaGreatDoor.c5 hBR
          obtain ⟨g0, g1, g2, g3, g4⟩ := f5 hBR
          go_wp2_with fail
          clear d0 d1 d2 d3 d4 g0 g1 g2 g3 g4
          exact bodyPost_ret (resCast (byz := 0#16) rfl (set5 hBR _ _ _ _ _) rfl rfl) rfl ⟨keeps_set5 J hlr _ _ _ _ _, .inl ⟨by rw [HE.out]; decide, by rw [HE.out]; rfl⟩⟩
      · have e1 : k = n := by omega
        subst e1
        have hM : nas'.map NA.x = nas.map NA.x := by rw [HM.out]; exact List.take_of_length_le (by rw [List.length_map]; have := HLN.out; omega)
        have hID : idsB (nas.map NA.x) 0 = true := by rw [HID.out, List.drop_of_length_le (by rw [List.length_map]; have := HLN.out; omega)]; rfl
        have HMM := Lib.hid hM
        have HIDS := Lib.hid hID
        clear hM hID HM HID
        have hcf := containsFuncC_any ag2 fl.length cg2 fl wr 96 #[.pointer (some ⟨BP, 0, none⟩)] (fun c => !corrI k byz c.dst) (hR.fli.row0.rd) (enters_of Tryz.func96 (by kernel_rfl) rfl) (fun W c _ hk => settle1_any k (by omega) byz B BP _ _ _ _ _ c W (hR.box.keep hk) (hBP.keep hk))
        have hchk := fun W (kk : Keeps wr W) => check9_any k (by omega) fa fm fc f ba bm bc b W (HF.out.keep (hR.keeps.trans kk)) (HBB.out.keep (hR.keeps.trans kk))
        have HCF := Lib.hid hcf; have HCK := Lib.hid hchk
        clear hcf hchk
        have p0 := hBP.cell 0 rfl
        have b6 := hR.box.cell 6 (v := .slice ag2 fl.length cg2) rfl
        go_wp2_with fail
        refine HCF.out.mono ?_
        rintro e w5 ⟨rfl, k5⟩
        have hR := hR.keep k5
        have hBX := hBX.keep k5
        have hBR := hBR.keep k5
        have hBP := hBP.keep k5
        have HK5 := Lib.hid k5
        clear HCF p0 b6 k5
        cases hq : fl.any fun c => !corrI k byz c.dst with
        | true =>
          have hE : setE f b k byz (nas.map NA.x) fl = 1 := setE_dst (by rw [List.length_map]; exact H13.out) HIDS.out hq
          have HE := Lib.hid hE
          have J := hR.keeps
          clear hE hq
          obtain ⟨d0, d1, d2, d3, d4⟩ := Go.Proofs.YtijknodekomdfaaGreatDoor.c5 hBR
          obtain ⟨g0, g1, g2, g3, g4⟩ := f5 hBR
          go_wp2_with fail
          clear d0 d1 d2 d3 d4 g0 g1 g2 g3 g4
          exact bodyPost_ret (resCast (byz := 0#16) rfl (set5 hBR _ _ _ _ _) rfl rfl) rfl ⟨keeps_set5 J hlr _ _ _ _ _, .inl ⟨by rw [HE.out]; decide, by rw [HE.out]; rfl⟩⟩
        | false =>
          have hE : setE f b k byz (nas.map NA.x) fl = chk39 f b k := setE_chk (by rw [List.length_map]; exact H13.out) HIDS.out hq
          have HE := Lib.hid hE
          have HDK := Lib.hid (dst_ok9 (nodes := nas.map NA.x) (by rw [List.length_map]; exact HLN.out) hq)
          have x0 := hBX.cell 0 (v := .int .i64 k) rfl
          clear hE hq
          go_wp2_with fail
          refine (HCK.out _ HK5.out).mono ?_
          rintro e w6 ⟨rfl, k6⟩
          have hR := hR.keep k6
          have hBX := hBX.keep k6
          have hBR := hBR.keep k6
          have hBP := hBP.keep k6
          have HK6 := Lib.hid k6
          clear x0 HCK k6
          generalize hck : chk39 f b k = ck at HE
          have HCK := Lib.hid hck
          clear hck
          by_cases hc0 : ck = 0
          · subst hc0
            have hbn : ((0 : Int) != 0) = false := rfl
            go_wp2_with fail
            go_loopg [] (measS k ⟨nas.map NA.x, fl⟩ + 1) (fun gq wr => ∃ (nv : Value) (nas' : List NA) (ag : Option Addr) (cg : Nat) (fl' : List Ct), RunW w wr B (.slice fa fm fc) (.slice ba bm bc) k byz source nv nas' (.slice ag fl'.length cg) fl' (.slice none 0 0) [] ∧ Blk wr BR 75 #[.int .i64 0, .int .u16 0, .int .i64 0, .slice none 0 0, .slice none 0 0] ∧ Blk wr BP 140 #[.pointer (some ⟨B, 0, none⟩)] ∧ Hid (settleS f b k byz ⟨nas.map NA.x, fl⟩ = settleS f b k byz ⟨nas'.map NA.x, fl'⟩) ∧ Hid (SmallS ⟨nas'.map NA.x, fl'⟩) ∧ Hid (DstOk k ⟨nas'.map NA.x, fl'⟩) ∧ Hid (measS k ⟨nas'.map NA.x, fl'⟩ < gq ∧ measS k ⟨nas'.map NA.x, fl'⟩ ≤ 20000))
            case atStart => exact ⟨nv, nas', _, _, fl, hR, hBR, hBP, Lib.hid (by rw [HMM.out]), Lib.hid (by rw [HMM.out]; exact HSM.out), Lib.hid (by rw [HMM.out]; exact HDK.out), Lib.hid (by rw [HMM.out]; have := meas9 (n := k) (nodes := nas.map NA.x) (fl := fl) (by rw [List.length_map]; exact HLN.out) H13.out.2.1; omega)⟩
            case round =>
              clear hR hBX hBR hBP
              obtain ⟨nv, nas', ag, cg, fl', hR, hBR, hBP, HSE, HSM, HDS, HME⟩ := hrel
              have p0 := hBP.cell 0 (v := .pointer (some ⟨B, 0, none⟩)) rfl
              have b6 := hR.box.cell 6 (v := .slice ag fl'.length cg) rfl
              by_cases hl0 : fl'.length = 0
              · have hlb : ((fl'.length : Nat) : Int) = 0 := by omega
                have HL0 := Lib.hid hl0
                obtain ⟨an3, cn3, rfl, _⟩ := hR.own.rd
                have HRR := Lib.hid hR
                have HBR := Lib.hid hBR
                obtain ⟨q0, q1, q2, q3, q4, q5, q6⟩ := hR.box.c7
                obtain ⟨d0, d1, d2, d3, d4⟩ := c5 hBR
                obtain ⟨g0, g1, g2, g3, g4⟩ := f5 hBR
                clear hl0 hR hBR hBP
                go_wp2_with fail
                clear q0 q1 q2 q3 q4 q5 q6 d0 d1 d2 d3 d4 g0 g1 g2 g3 g4 p0 b6
                refine bodyPost_ret (resCast (n := (k : Int)) (byz := byz) (source := source) (nv := .slice an3 nas'.length cn3) (gv := .slice ag fl'.length cg) rfl (set5 HBR.out _ _ _ _ _) rfl rfl) rfl ?_
                have hC := HRR.out.cast2 HBR.out hlr (.int .i64 k) (.int .u16 (sv byz)) (.int .i64 source) (.slice an3 nas'.length cn3) (.slice ag fl'.length cg)
                refine ⟨hC.1.2, .inr ⟨HE.out, _, nas', _, fl', rfl, hC.1, hC.2.1, hC.2.2, ?_⟩⟩
                rw [Int.toNat_natCast, HSE.out]
                exact settleS_end HL0.out
              · have hlb : ((fl'.length : Nat) : Int) > 0 := by omega
                have hdel := deliver39_any w wr B fa fm fc f ba bm bc b k byz source nv nas' (.slice ag fl'.length cg) fl' (.slice none 0 0) [] 0 HF.out HBB.out (by omega) (by have := HME.out.2; unfold measS at this; dsimp only at this; omega) (by omega) (dst9' HDS.out (by omega)) (small9 HSM.out) hR
                have HDEL := Lib.hid hdel
                have HBB2 := Lib.hid (And.intro hBR hBP)
                have HLP : Hid (0 < fl'.length) := Lib.hid (by omega)
                clear hdel hR hBR hBP hl0
                go_wp2_with fail
                refine HDEL.out.mono ?_
                rintro e W5 ⟨rfl, nas2, gv2, fl2, hR2, hT, hst⟩
                obtain ⟨ag2', cg2', rfl, _⟩ := hR2.fli.rd
                have HR2 := Lib.hid hR2
                have HST := Lib.hid hst
                have HB2 := Lib.hid (And.intro (hT.2 _ _ _ HBB2.out.1 ty3_g) (hT.2 _ _ _ HBB2.out.2 ty3_p))
                clear hR2 hst HDEL hT HBB2 p0 b6
                go_wp2_with fail
                go_roundg (gk - 1)
                case measure => have := HME.out.1; omega
                case rel => exact ⟨_, nas2, ag2', cg2', fl2, HR2.out, HB2.out.1, HB2.out.2, Lib.hid (by rw [HSE.out, HST.out]; exact settleS_step HDS.out HLP.out), Lib.hid (by rw [HST.out]; exact deliv_small HSM.out 0), Lib.hid (by rw [HST.out]; exact deliv_dst HDS.out 0), Lib.hid (by rw [HST.out]; have h1 := deliv_meas (f := f) (b := b) (n := k) (byz := byz) HLP.out (dst_at HDS.out HLP.out); have h2 := HME.out; omega)⟩
          · have hcb : (ck != 0) = true := by simpa using hc0
            have J := hR.keeps
            obtain ⟨d0, d1, d2, d3, d4⟩ := Go.Proofs.YtijknodekomdfaaGreatDoor.c5 hBR
            obtain ⟨g0, g1, g2, g3, g4⟩ := f5 hBR
            go_wp2_with fail
            clear d0 d1 d2 d3 d4 g0 g1 g2 g3 g4
            exact bodyPost_ret (resCast (byz := 0#16) rfl (set5 hBR _ _ _ _ _) rfl rfl) rfl ⟨keeps_set5 J hlr _ _ _ _ _, .inl ⟨by rw [HE.out]; exact hc0, by rw [HE.out]; rfl⟩⟩
  · have hE : setE f b N byz (nas.map NA.x) fl = 1 := setE_rng (by rw [List.length_map]; omega)
    have HE := Lib.hid hE
    clear hE
    obtain ⟨d0, d1, d2, d3, d4⟩ := Go.Proofs.YtijknodekomdfaaGreatDoor.c5 hBR
    obtain ⟨g0, g1, g2, g3, g4⟩ := f5 hBR
    go_wp2_with fail
    clear d0 d1 d2 d3 d4 g0 g1 g2 g3 g4
    exact bodyPost_ret (resCast (byz := 0#16) rfl (set5 hBR _ _ _ _ _) rfl rfl) rfl ⟨keeps_set5 J hlr _ _ _ _ _, .inl ⟨by rw [HE.out]; decide, by rw [HE.out]; rfl⟩⟩
end Go.Proofs.YtijknodekomdfaaGreatDoor
