/- Texts joined into one, what is needed of them (a program of ours). -/
import Derived.Test.YtijknodekomdfaaGreatDoorCKVg
import Derived.Laws.EntriesVeiled
namespace Go.Proofs.YtijknodekomdfaaGreatDoor
open Go.RowKit Go.Lib Go.Shelf

/-- the variables that check captures -/
structure ChkE (w0 : World) (B4 B5 B6 B7 B9 : Nat) (x y : List ND × Nat) (b : S) (a : Option Addr) (c : Nat) (ns : List CH) (root : Nat) : Prop where
  xs : ∃ ax nx cx rx, Blk w0 B4 121 #[.slice ax nx cx, .int .i64 rx] ∧ HasX w0 x (.agg #[.slice ax nx cx, .int .i64 rx])
  ys : ∃ ay ny cy ry, Blk w0 B5 121 #[.slice ay ny cy, .int .i64 ry] ∧ HasX w0 y (.agg #[.slice ay ny cy, .int .i64 ry])
  bs : Blk w0 B6 31 #[.int .u16 (sv b)]
  ts : Blk w0 B7 126 #[.slice a ns.length c, .int .i64 root]
  cs : Blk w0 B9 204 #[.func (.func 138) #[] #[.pointer (some ⟨B7, 0, none⟩), .pointer (some ⟨B4, 0, none⟩), .pointer (some ⟨B5, 0, none⟩), .pointer (some ⟨B6, 0, none⟩), .pointer (some ⟨B9, 0, none⟩)]]
  rd : Rd w0 a ns.length c 3 (chl ns)
  vx : VX x
  vy : VX y
  ok : ∀ j, j < ns.length → nodeOk j (ns.getD j ch0)
theorem ChkE.keep {w0 w : World} {B4 B5 B6 B7 B9 : Nat} {x y : List ND × Nat} {b : S} {a : Option Addr} {c : Nat} {ns : List CH} {root : Nat} (h : ChkE w0 B4 B5 B6 B7 B9 x y b a c ns root) (k : Keeps w0 w) : ChkE w B4 B5 B6 B7 B9 x y b a c ns root := by
  obtain ⟨⟨ax, nx, cx, rx, h1, h2⟩, ⟨ay, ny, cy, ry, h3, h4⟩, h5, h6, h7, h8, h9, h10, h11⟩ := h
  exact ⟨⟨ax, nx, cx, rx, h1.keep k, h2.keep k⟩, ⟨ay, ny, cy, ry, h3.keep k, h4.keep k⟩, h5.keep k, h6.keep k, h7.keep k, h8.keep k, h9, h10, h11⟩
set_option maxRecDepth 20000 in
set_option maxHeartbeats 4000000 in
theorem check1_any (B4 B5 B6 B7 B9 : Nat) (x y : List ND × Nat) (b : S) (a : Option Addr) (c : Nat) (ns : List CH) (root : Nat) :
    ∀ (N i : Nat) (p q : S) (w : World), ChkE w B4 B5 B6 B7 B9 x y b a c ns root → i < ns.length → chkT (holdsV x) (holdsV y) b ns N i p q = true →
    Calls Tryz.prog 138 #[.int .i64 i, .int .u16 (sv p), .int .u16 (sv q), .pointer (some ⟨B7, 0, none⟩), .pointer (some ⟨B4, 0, none⟩), .pointer (some ⟨B5, 0, none⟩), .pointer (some ⟨B6, 0, none⟩), .pointer (some ⟨B9, 0, none⟩)] w fun e w' => e = .returned (.bool true) ∧ Keeps w w' := by
  intro N
  induction N using Nat.strongRecOn with
  | _ N ih =>
  intro i p q w hE hi hc
  have HE := Lib.hid hE; have IH := Lib.hid ih
  obtain ⟨⟨ax, nx, cx, rx, h1, h2⟩, ⟨ay, ny, cy, ry, h3, h4⟩, h5, h6, h7, h8, vx, vy, hok⟩ := hE
  have e1 := fun W (k : Keeps w W) => satisfied_any (4095#16 &&& ~~~q) W (h2.keep k) vx (small_ful q)
  have e2 := fun W (k : Keeps w W) => satisfied_any (4095#16 &&& ~~~p) W (h4.keep k) vy (small_ful p)
  obtain ⟨g0, g1, g2⟩ := chl_at h8 hi
  have hao := h8.isSome (by omega)
  have hn : nodeOk i (chA ns i) := hok i hi
  obtain ⟨c0, c1⟩ := h1.x2
  obtain ⟨c2, c3⟩ := h3.x2
  have c5 : w.cell? ⟨B6, 0, none⟩ = some (.int .u16 (sv b)) := h5.cell 0 rfl
  have c6 : w.cell? ⟨B7, 0, none⟩ = some (.slice a ns.length c) := h6.cell 0 rfl
  have H7 := Lib.hid h7
  unfold chkT at hc
  rw [show ns.getD i ch0 = chA ns i from rfl] at hc
  generalize chA ns i = z at *
  obtain ⟨sr, zx, zy⟩ := z
  unfold nodeOk at hn
  dsimp only at g0 g1 g2 hn hc
  have s8 := h8.small
  generalize hL : ns.length = n at *
  have kb := (Keeps.refl w).alloc (.cells #[.int .i64 sr, .int .i64 zx, .int .i64 zy] 206)
  have f0 := kb.cell c0; have f1 := kb.cell c1; have f2 := kb.cell c2; have f3 := kb.cell c3; have f5 := kb.cell c5; have f6 := kb.cell c6
  clear c0 c1 c2 c3 c5
  have E1 := Lib.hid e1; have E2 := Lib.hid e2
  clear h1 h2 h3 h4 h5 h6 h7 h8 vx vy hok e1 e2 ih
  have KB := Lib.hid kb
  by_cases q1 : sr = -1
  · subst q1
    rw [if_pos rfl] at hc
    have hc2 : holdsV x (4095#16 &&& ~~~q) = false := by unfold ful at hc; simpa using hc
    rw [hc2] at E1
    clear hc hc2 hn
    go_enter Tryz.func138, Tryz.ntmps138
    go_wp2_with fail
    refine (E1.out _ ((Keeps.refl w).alloc _)).mono ?_
    rintro e w1 ⟨rfl, K1⟩
    go_wp2_with fail
    go_ret
    exact ⟨rfl, ((Keeps.refl w).alloc _).trans K1⟩
  · by_cases q2 : sr = -2
    · subst q2
      rw [if_neg (by decide), if_pos rfl] at hc
      have hc2 : holdsV y (4095#16 &&& ~~~p) = false := by unfold ful at hc; simpa using hc
      rw [hc2] at E2
      clear hc hc2 hn q1
      go_enter Tryz.func138, Tryz.ntmps138
      go_wp2_with fail
      refine (E2.out _ ((Keeps.refl w).alloc _)).mono ?_
      rintro e w1 ⟨rfl, K1⟩
      go_wp2_with fail
      go_ret
      exact ⟨rfl, ((Keeps.refl w).alloc _).trans K1⟩
    · rw [if_neg q1, if_neg q2] at hc
      cases N with
      | zero => cases hc
      | succ N =>
        simp only [Bool.and_eq_true] at hc
        obtain ⟨⟨k1, k2⟩, k3⟩ := hc
        obtain ⟨h1, h2, h3, h4⟩ : 0 ≤ sr ∧ sr < 12 ∧ zx < i ∧ zy < i := by omega
        obtain ⟨t, rfl⟩ := Int.eq_ofNat_of_zero_le h1
        rw [Int.toNat_natCast] at k1 k2 k3
        have hmin : min t 16 = t := by omega
        have bb := Blk.new w 206 #[.int .i64 t, .int .i64 zx, .int .i64 zy]
        have r1 := fun W (k : Keeps w W) => IH.out N (by omega) zx (p ||| 1#16 <<< t) q W (HE.out.keep k) (by omega) k2
        have r2 := fun W (k : Keeps w W) => IH.out N (by omega) zy p (q ||| 1#16 <<< t) W (HE.out.keep k) (by omega) k3
        have R1 := Lib.hid r1; have R2 := Lib.hid r2; have BB := Lib.hid bb
        have d1 : (((t : Nat) : Int) == -1) = false := by simp
        have d2 : (((t : Nat) : Int) == -2) = false := by simp
        have c7 : w.cell? ⟨B9, 0, none⟩ = some (.func (.func 138) #[] #[.pointer (some ⟨B7, 0, none⟩), .pointer (some ⟨B4, 0, none⟩), .pointer (some ⟨B5, 0, none⟩), .pointer (some ⟨B6, 0, none⟩), .pointer (some ⟨B9, 0, none⟩)]) := H7.out.cell 0 rfl
        have c7' := kb.cell c7
        clear r1 r2 kb bb k2 k3 IH E1 E2 q1 q2 hn h1 h2
        go_enter Tryz.func138, Tryz.ntmps138
        go_wp2_with fail
        refine (R1.out _ KB.out).mono ?_
        rintro e w1 ⟨rfl, K1⟩
        have f7 := K1.cell c7'
        have f8 : w1.cell? ⟨w.heap.size, 2, none⟩ = some (.int .i64 zy) := (BB.out.keep K1).cell 2 rfl
        clear f0 f1 f2 f3 f5 f6 c7 c7' g0 g1 g2 c6
        go_wp2_with fail
        refine (R2.out _ (KB.out.trans K1)).mono ?_
        rintro e w2 ⟨rfl, K2⟩
        go_wp2_with fail
        go_ret
        exact ⟨rfl, (KB.out.trans K1).trans K2⟩
set_option maxRecDepth 20000 in
set_option maxHeartbeats 4000000 in
theorem check20_any {x y : List ND × Nat} {u v : Value} (b : S) (a : Option Addr) (c : Nat) (ns : List CH) (root : Nat) (w : World) (hx : HasX w x u) (hy : HasX w y v) (vx : VX x) (vy : VX y) (hr : Rd w a ns.length c 3 (chl ns)) (hF : Formed ns root) (hc : chkT (holdsV x) (holdsV y) b ns 12 root 0#16 0#16 = true) :
    Calls Tryz.prog 75 #[u, v, .int .u16 (sv b), .agg #[.slice a ns.length c, .int .i64 root]] w fun e w' => e = .returned (.bool true) ∧ Keeps w w' := by
  have h1 := fun W (k : Keeps w W) => twoX_any W (hx.keep k) (hy.keep k) vx vy
  have h2 := fun W (k : Keeps w W) => formed_any a c ns root W (hr.keep k) hF
  have h3 := fun (B4 B5 B6 B7 B9 : Nat) W (hE : ChkE W B4 B5 B6 B7 B9 x y b a c ns root) => check1_any B4 B5 B6 B7 B9 x y b a c ns root 12 root 0#16 0#16 W hE (by have := hF.len; omega) hc
  have z0 : sv (0#16) = 0 := rfl
  simp only [z0] at h3
  have hok := hF.ok
  clear hc hF z0
  obtain ⟨ax, cx, nes, rfl, ex1, ex2, ex3⟩ := id hx
  obtain ⟨ay, cy, mes, rfl, ey1, ey2, ey3⟩ := id hy
  clear ex1 ex2 ex3 ey1 ey2 ey3
  generalize nes.length = mx at *
  generalize mes.length = my at *
  generalize ((x.2 : Nat) : Int) = rx at *
  generalize ((y.2 : Nat) : Int) = ry at *
  obtain ⟨WA, hWA⟩ : ∃ W, W = w.alloc (.cells #[.slice ax mx cx, .int .i64 rx] 121) := ⟨_, rfl⟩
  obtain ⟨WB, hWB⟩ : ∃ W, W = WA.alloc (.cells #[.slice ay my cy, .int .i64 ry] 121) := ⟨_, rfl⟩
  obtain ⟨WC, hWC⟩ : ∃ W, W = WB.alloc (.cells #[.int .u16 (sv b)] 31) := ⟨_, rfl⟩
  obtain ⟨W1, hW1⟩ : ∃ W, W = WC.alloc (.cells #[.slice a ns.length c, .int .i64 root] 126) := ⟨_, rfl⟩
  have sA : WA.heap.size = w.heap.size + 1 := by rw [hWA, World.size_alloc]
  have sB : WB.heap.size = w.heap.size + 1 + 1 := by rw [hWB, World.size_alloc, sA]
  have sC : WC.heap.size = w.heap.size + 1 + 1 + 1 := by rw [hWC, World.size_alloc, sB]
  have kA : Keeps w WA := by rw [hWA]; exact (Keeps.refl _).alloc _
  have kB : Keeps WA WB := by rw [hWB]; exact (Keeps.refl _).alloc _
  have kC : Keeps WB WC := by rw [hWC]; exact (Keeps.refl _).alloc _
  have k1 : Keeps WC W1 := by rw [hW1]; exact (Keeps.refl _).alloc _
  have bx : Blk W1 w.heap.size 121 #[.slice ax mx cx, .int .i64 rx] := Blk.keep (by rw [hWA]; exact Blk.new _ _ _) ((kB.trans kC).trans k1)
  have by_ : Blk W1 (w.heap.size + 1) 121 #[.slice ay my cy, .int .i64 ry] := Blk.keep (by rw [← sA, hWB]; exact Blk.new _ _ _) (kC.trans k1)
  have bb : Blk W1 (w.heap.size + 1 + 1) 31 #[.int .u16 (sv b)] := Blk.keep (by rw [← sB, hWC]; exact Blk.new _ _ _) k1
  have bt : Blk W1 (w.heap.size + 1 + 1 + 1) 126 #[.slice a ns.length c, .int .i64 root] := by rw [← sC, hW1]; exact Blk.new _ _ _
  have hkw := ((kA.trans kB).trans kC).trans k1
  have hE := fun W (k : Keeps W1 W) (B9 : Nat) hcs => (⟨⟨ax, mx, cx, rx, bx.keep k, hx.keep (hkw.trans k)⟩, ⟨ay, my, cy, ry, by_.keep k, hy.keep (hkw.trans k)⟩, bb.keep k, bt.keep k, hcs, hr.keep (hkw.trans k), vx, vy, hok⟩ : ChkE W w.heap.size (w.heap.size + 1) (w.heap.size + 1 + 1) (w.heap.size + 1 + 1 + 1) B9 x y b a c ns root)
  have H1 := Lib.hid h1; have H2 := Lib.hid h2; have H3 := Lib.hid h3; have HE := Lib.hid hE; have HKW := Lib.hid hkw
  have HBX := Lib.hid bx; have HBY := Lib.hid by_; have HBT := Lib.hid bt
  have sA2 : (w.alloc (.cells #[.slice ax mx cx, .int .i64 rx] 121)).heap.size = w.heap.size + 1 := World.size_alloc ..
  clear h1 h2 h3 hE hx hy vx vy hr hok sA sB sC kA kB kC k1 hkw bb
  go_enter Tryz.func75, Tryz.ntmps75
  go_upto_region 1 with fail
  rw [← hWA, ← hWB, ← hWC, ← hW1]
  clear hWA hWB hWC hW1 sA2
  obtain ⟨c0, c1⟩ := bx.x2
  obtain ⟨c2, c3⟩ := by_.x2
  clear bx by_ bt
  go_wp2_with fail
  refine (H1.out W1 HKW.out).mono ?_
  rintro e w1 ⟨rfl, K1⟩
  obtain ⟨c4, c5⟩ := (HBT.out.keep K1).x2
  clear c0 c1 c2 c3
  go_wp2_with fail
  refine (H2.out w1 (HKW.out.trans K1)).mono ?_
  rintro e w2 ⟨rfl, K2⟩
  have k9 := (Keeps.refl w2).alloc (.cells #[(.func (.func 138) #[] #[.pointer (some ⟨w.heap.size + 1 + 1 + 1, 0, none⟩), .pointer (some ⟨w.heap.size, 0, none⟩), .pointer (some ⟨w.heap.size + 1, 0, none⟩), .pointer (some ⟨w.heap.size + 1 + 1, 0, none⟩), .pointer (some ⟨w2.heap.size, 0, none⟩)])] 204)
  have d5 := k9.cell (K2.cell c5)
  have b9 := Blk.new w2 204 #[(.func (.func 138) #[] #[.pointer (some ⟨w.heap.size + 1 + 1 + 1, 0, none⟩), .pointer (some ⟨w.heap.size, 0, none⟩), .pointer (some ⟨w.heap.size + 1, 0, none⟩), .pointer (some ⟨w.heap.size + 1 + 1, 0, none⟩), .pointer (some ⟨w2.heap.size, 0, none⟩)])]
  have d9 : (w2.alloc (.cells #[(.func (.func 138) #[] #[.pointer (some ⟨w.heap.size + 1 + 1 + 1, 0, none⟩), .pointer (some ⟨w.heap.size, 0, none⟩), .pointer (some ⟨w.heap.size + 1, 0, none⟩), .pointer (some ⟨w.heap.size + 1 + 1, 0, none⟩), .pointer (some ⟨w2.heap.size, 0, none⟩)])] 204)).cell? ⟨w2.heap.size, 0, none⟩ = some (.func (.func 138) #[] #[.pointer (some ⟨w.heap.size + 1 + 1 + 1, 0, none⟩), .pointer (some ⟨w.heap.size, 0, none⟩), .pointer (some ⟨w.heap.size + 1, 0, none⟩), .pointer (some ⟨w.heap.size + 1 + 1, 0, none⟩), .pointer (some ⟨w2.heap.size, 0, none⟩)]) := b9.cell 0 rfl
  replace c4 := K2.cell c4
  have B9 := Lib.hid b9; have KE := Lib.hid ((K1.trans K2).trans k9)
  clear c5 b9 k9
  go_wp2_with fail
  refine (H3.out _ _ _ _ w2.heap.size _ (HE.out _ KE.out _ B9.out)).mono ?_
  rintro e w3 ⟨rfl, K3⟩
  go_wp2_with fail
  go_ret
  exact ⟨rfl, (HKW.out.trans KE.out).trans K3⟩
end Go.Proofs.YtijknodekomdfaaGreatDoor
