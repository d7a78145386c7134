/- Texts joined into one (wip/bin/pack.py): Awake27. -/
import Derived.Test.YtcnccoinhohbeaaDoorKYd
import Derived.Test.YtcnccoinhohbeaaDoorKYc
import Derived.Test.YtcnccoinhohbeaaDoorKYf
/- The examples of layer 27: awake answers true. -/
namespace Go.Proofs.YtcnccoinhohbeaaDoor
open Go.RowKit Go.Lib Go.Shelf


def m27 : List F2 := [(1#16, 0#16), (2#16, 0#16), (4#16, 0#16), (8#16, 0#16)]
def ex3 : List S := [7#16, 11#16, 13#16, 14#16]
def ex2 : List S := [3#16, 5#16, 6#16, 9#16, 10#16, 12#16]
theorem x_cl0 : clash27 2 0#16 15#16 ex3 ex3 m27 = (cl0, 13) := by decide +kernel
theorem x_cl8 : clash27 2 8#16 15#16 ex3 ex3 m27 = ((1, 11#16, 13#16, 1#16), 0) := by decide +kernel
theorem x_cl2 : clash27 1 0#16 15#16 ex2 ex2 m27 = ((1, 3#16, 12#16, 0#16), 0) := by decide +kernel
theorem x_safe : safe27 2 0#16 15#16 ex3 ex3 m27 = true := by unfold safe27; rw [x_cl0]; rfl
theorem x_liv : liv27 2 15#16 ex3 ex3 m27 = true := by decide +kernel
theorem x_pro : (proS 2 0#16 15#16 ex3 ex3 m27).2 = 0 ∧ (proS 2 0#16 15#16 ex3 ex3 m27).1.length = 104 := by decide +kernel
set_option maxRecDepth 20000 in
theorem example27_any (kd : Int) (a : Option Addr) (c n : Nat) (l : List S) (hn : l.length = n) (w : World) (hr : Row0 28 1 w (.slice a n c) n (sl l)) : Calls Tryd.prog 22 #[.int .i64 kd, .slice a n c] w fun e w' =>
    ∃ af cf, e = .returned (.agg #[.string ⟨#[99]⟩, .int .i64 kd, .int .u16 15, .slice a n c, .slice a n c, .slice af 4 cf]) ∧ RowC w' a c l a c l af cf m27 ∧ Keeps w w' := by
  have b := Blk.new w 31 #[.string ⟨#[99]⟩, .int .i64 kd, .int .u16 15, .slice a n c, .slice a n c, .slice (some ⟨w.heap.size + 1, 0, none⟩) 4 4]
  have K1 := (Keeps.refl w).alloc (.cells #[.string ⟨#[99]⟩, .int .i64 kd, .int .u16 15, .slice a n c, .slice a n c, .slice (some ⟨w.heap.size + 1, 0, none⟩) 4 4] 31)
  obtain ⟨W1, hW1⟩ : ∃ W1, W1 = w.alloc (.cells #[.string ⟨#[99]⟩, .int .i64 kd, .int .u16 15, .slice a n c, .slice a n c, .slice (some ⟨w.heap.size + 1, 0, none⟩) 4 4] 31) := ⟨_, rfl⟩
  have s1 : W1.heap.size = w.heap.size + 1 := by rw [hW1, World.size_alloc]
  rw [← hW1] at b K1
  have o2 := (Own.made (e := 34) (sz := 2) (Keeps.refl W1) [.int .u16 1, .int .u16 0, .int .u16 2, .int .u16 0, .int .u16 4, .int .u16 0, .int .u16 8, .int .u16 0] 4 (by decide) rfl).row0
  have k3 := (Keeps.refl W1).alloc (.cells #[.int .u16 1, .int .u16 0, .int .u16 2, .int .u16 0, .int .u16 4, .int .u16 0, .int .u16 8, .int .u16 0] 34)
  rw [s1] at o2
  have HF := Lib.hid (And.intro (b.keep k3) (And.intro ((hr.keep K1).keep k3) (And.intro o2 (K1.trans k3))))
  have HW1 := Lib.hid hW1
  clear b K1 o2 k3 hW1 s1 hr
  go_enter Tryd.func22, Tryd.ntmps22
  go_wp2_with fail
  rw [← HW1.out]
  obtain ⟨b, o1, o2, K⟩ := HF.out
  refine bodyPost_ret (results_cell_row rfl _ _ _ _ _ _ _ rfl b rfl rfl rfl) rfl ?_
  subst hn
  exact ⟨_, _, rfl, ⟨o1, o1, o2⟩, K⟩
set_option maxRecDepth 20000 in
set_option maxHeartbeats 3000000 in
theorem awake27_any (w : World) (hT : Tab w) : Calls Tryd.prog 6 #[] w fun e w' => e = .returned (.bool true) ∧ Keeps w w' := by
  have KK := Keeps.refl w
  have e1 : ∀ ar cr af cf (W : World), Tab W → RowC W ar cr ex3 ar cr ex3 af cf m27 → Calls Tryd.prog 14 #[.agg #[.string ⟨#[99]⟩, .int .i64 2, .int .u16 15, .slice ar 4 cr, .slice ar 4 cr, .slice af 4 cf], .int .u16 0] W fun e w' => e = .returned (.tuple #[.agg #[.int .i64 0, .int .u16 0, .int .u16 0, .int .u16 0], .int .i64 13]) ∧ Keeps W w' := fun ar cr af cf W t h => by
    have q := cClash_any (nm := ⟨#[99]⟩) 2 0#16 15#16 W t h (by decide); rw [x_cl0] at q; exact q
  have e2 : ∀ ar cr af cf (W : World), Tab W → RowC W ar cr ex3 ar cr ex3 af cf m27 → Calls Tryd.prog 14 #[.agg #[.string ⟨#[99]⟩, .int .i64 2, .int .u16 15, .slice ar 4 cr, .slice ar 4 cr, .slice af 4 cf], .int .u16 8] W fun e w' => e = .returned (.tuple #[.agg #[.int .i64 1, .int .u16 11, .int .u16 13, .int .u16 1], .int .i64 0]) ∧ Keeps W w' := fun ar cr af cf W t h => by
    have q := cClash_any (nm := ⟨#[99]⟩) 2 8#16 15#16 W t h (by decide); rw [x_cl8] at q; exact q
  have e3 : ∀ ar cr af cf (W : World), Tab W → RowC W ar cr ex2 ar cr ex2 af cf m27 → Calls Tryd.prog 14 #[.agg #[.string ⟨#[99]⟩, .int .i64 1, .int .u16 15, .slice ar 6 cr, .slice ar 6 cr, .slice af 4 cf], .int .u16 0] W fun e w' => e = .returned (.tuple #[.agg #[.int .i64 1, .int .u16 3, .int .u16 12, .int .u16 0], .int .i64 0]) ∧ Keeps W w' := fun ar cr af cf W t h => by
    have q := cClash_any (nm := ⟨#[99]⟩) 1 0#16 15#16 W t h (by decide); rw [x_cl2] at q; exact q
  have e4 : ∀ ar cr af cf (W : World), Tab W → RowC W ar cr ex3 ar cr ex3 af cf m27 → Calls Tryd.prog 15 #[.agg #[.string ⟨#[99]⟩, .int .i64 2, .int .u16 15, .slice ar 4 cr, .slice ar 4 cr, .slice af 4 cf], .int .u16 0] W fun e w' => ∃ a c, e = .returned (.tuple #[.slice a 104 c, .int .i64 0]) ∧ Keeps W w' := fun ar cr af cf W t h => by
    obtain ⟨h1, h2⟩ := x_pro; have q := cProve_any (nm := ⟨#[99]⟩) 2 0#16 15#16 W t h (by decide) (by decide) (by decide); refine q.mono fun e w' hq => ?_; obtain ⟨v, he, ho⟩ := hq; obtain ⟨a, c, rfl, _⟩ := ho.rd; rw [h1] at he; rw [h2] at he; exact ⟨a, c, he, ho.2⟩
  have e5 : ∀ ar cr af cf (W : World), Tab W → RowC W ar cr ex3 ar cr ex3 af cf m27 → Calls Tryd.prog 16 #[.agg #[.string ⟨#[99]⟩, .int .i64 2, .int .u16 15, .slice ar 4 cr, .slice ar 4 cr, .slice af 4 cf], .int .u16 0] W fun e w' => e = .returned (.bool true) ∧ Keeps W w' := fun ar cr af cf W t h => by
    have q := cSafe_any (nm := ⟨#[99]⟩) 2 0#16 15#16 W t h (by decide); rw [x_safe] at q; exact q
  have e6 : ∀ ar cr af cf (W : World), Tab W → RowC W ar cr ex3 ar cr ex3 af cf m27 → Calls Tryd.prog 10 #[.agg #[.string ⟨#[99]⟩, .int .i64 2, .int .u16 15, .slice ar 4 cr, .slice ar 4 cr, .slice af 4 cf]] W fun e w' => e = .returned (.bool true) ∧ Keeps W w' := fun ar cr af cf W t h => by
    have q := live27_any (nm := ⟨#[99]⟩) 2 15#16 W h.rd; rw [x_liv] at q; exact q
  have E1 := Lib.hid e1; have E2 := Lib.hid e2; have E3 := Lib.hid e3; have E4 := Lib.hid e4; have E5 := Lib.hid e5; have E6 := Lib.hid e6
  clear e1 e2 e3 e4 e5 e6
  go_enter Tryd.func6, Tryd.ntmps6
  have r3 := (Own.made (e := 28) (sz := 1) (Keeps.refl w) [.int .u16 7, .int .u16 11, .int .u16 13, .int .u16 14] 4 (by decide) rfl).row0
  have K := (Keeps.refl w).alloc (.cells #[.int .u16 7, .int .u16 11, .int .u16 13, .int .u16 14] 28)
  replace hT := hT.keep K
  replace KK := KK.trans K
  clear K
  go_wp2_with fail
  refine (example27_any 2 _ _ 4 ex3 rfl _ r3).mono ?_
  rintro e W1 ⟨af3, cf3, rfl, hC3, K⟩
  replace hT := hT.keep K
  replace KK := KK.trans K
  clear K
  clear r3
  go_wp2_with fail
  have b3 := Blk.new W1 31 #[.string ⟨#[99]⟩, .int .i64 2, .int .u16 15, .slice (some ⟨w.heap.size, 0, none⟩) 4 4, .slice (some ⟨w.heap.size, 0, none⟩) 4 4, .slice af3 4 cf3]
  have K := (Keeps.refl W1).alloc (.cells #[.string ⟨#[99]⟩, .int .i64 2, .int .u16 15, .slice (some ⟨w.heap.size, 0, none⟩) 4 4, .slice (some ⟨w.heap.size, 0, none⟩) 4 4, .slice af3 4 cf3] 31)
  replace hT := hT.keep K
  replace hC3 := hC3.keep K
  replace KK := KK.trans K
  clear K
  obtain ⟨V1, hV1⟩ : ∃ V, V = W1.alloc (.cells #[.string ⟨#[99]⟩, .int .i64 2, .int .u16 15, .slice (some ⟨w.heap.size, 0, none⟩) 4 4, .slice (some ⟨w.heap.size, 0, none⟩) 4 4, .slice af3 4 cf3] 31) := ⟨_, rfl⟩
  rw [← hV1] at hT hC3 b3 KK
  have sV1 : V1.heap.size = W1.heap.size + 1 := by rw [hV1, World.size_alloc]
  have r2 := (Own.made (e := 28) (sz := 1) (Keeps.refl V1) [.int .u16 3, .int .u16 5, .int .u16 6, .int .u16 9, .int .u16 10, .int .u16 12] 6 (by decide) rfl).row0
  rw [sV1] at r2
  have K := (Keeps.refl V1).alloc (.cells #[.int .u16 3, .int .u16 5, .int .u16 6, .int .u16 9, .int .u16 10, .int .u16 12] 28)
  replace hT := hT.keep K
  replace hC3 := hC3.keep K
  replace b3 := b3.keep K
  replace KK := KK.trans K
  clear K
  first | rw [← hV1] | skip
  refine (example27_any 1 _ _ 6 ex2 rfl _ r2).mono ?_
  rintro e W2 ⟨af2, cf2, rfl, hC2, K⟩
  replace hT := hT.keep K
  replace hC3 := hC3.keep K
  replace b3 := b3.keep K
  replace KK := KK.trans K
  clear K
  clear r2 hV1 sV1
  have b2 := Blk.new W2 31 #[.string ⟨#[99]⟩, .int .i64 1, .int .u16 15, .slice (some ⟨W1.heap.size + 1, 0, none⟩) 6 6, .slice (some ⟨W1.heap.size + 1, 0, none⟩) 6 6, .slice af2 4 cf2]
  have K := (Keeps.refl W2).alloc (.cells #[.string ⟨#[99]⟩, .int .i64 1, .int .u16 15, .slice (some ⟨W1.heap.size + 1, 0, none⟩) 6 6, .slice (some ⟨W1.heap.size + 1, 0, none⟩) 6 6, .slice af2 4 cf2] 31)
  replace hT := hT.keep K
  replace hC3 := hC3.keep K
  replace b3 := b3.keep K
  replace hC2 := hC2.keep K
  replace KK := KK.trans K
  clear K
  obtain ⟨c0, c1, c2, c3, c4, c5⟩ := b3.c6
  go_wp2_with fail
  clear c0 c1 c2 c3 c4 c5
  refine (E1.out _ _ _ _ _ hT hC3).mono ?_
  rintro e W3 ⟨rfl, K⟩
  replace hT := hT.keep K
  replace hC3 := hC3.keep K
  replace b3 := b3.keep K
  replace hC2 := hC2.keep K
  replace b2 := b2.keep K
  replace KK := KK.trans K
  clear K
  have x1 := Blk.new W3 42 #[.int .i64 0, .int .u16 0, .int .u16 0, .int .u16 0]
  have K := (Keeps.refl W3).alloc (.cells #[.int .i64 0, .int .u16 0, .int .u16 0, .int .u16 0] 42)
  replace hT := hT.keep K
  replace hC3 := hC3.keep K
  replace b3 := b3.keep K
  replace hC2 := hC2.keep K
  replace b2 := b2.keep K
  replace KK := KK.trans K
  clear K
  obtain ⟨c0, c1, c2, c3, c4, c5⟩ := b3.c6
  go_wp2_with fail
  clear c0 c1 c2 c3 c4 c5
  refine (E2.out _ _ _ _ _ hT hC3).mono ?_
  rintro e W4 ⟨rfl, K⟩
  replace hT := hT.keep K
  replace hC3 := hC3.keep K
  replace b3 := b3.keep K
  replace hC2 := hC2.keep K
  replace b2 := b2.keep K
  replace x1 := x1.keep K
  replace KK := KK.trans K
  clear K
  have x2 := Blk.new W4 42 #[.int .i64 1, .int .u16 11, .int .u16 13, .int .u16 1]
  have K := (Keeps.refl W4).alloc (.cells #[.int .i64 1, .int .u16 11, .int .u16 13, .int .u16 1] 42)
  replace hT := hT.keep K
  replace hC3 := hC3.keep K
  replace b3 := b3.keep K
  replace hC2 := hC2.keep K
  replace b2 := b2.keep K
  replace x1 := x1.keep K
  replace KK := KK.trans K
  clear K
  obtain ⟨c0, c1, c2, c3, c4, c5⟩ := b2.c6
  go_wp2_with fail
  clear c0 c1 c2 c3 c4 c5
  refine (E3.out _ _ _ _ _ hT hC2).mono ?_
  rintro e W5 ⟨rfl, K⟩
  replace hT := hT.keep K
  replace hC3 := hC3.keep K
  replace b3 := b3.keep K
  replace hC2 := hC2.keep K
  replace b2 := b2.keep K
  replace x1 := x1.keep K
  replace x2 := x2.keep K
  replace KK := KK.trans K
  clear K
  have x3 := Blk.new W5 42 #[.int .i64 1, .int .u16 3, .int .u16 12, .int .u16 0]
  have K := (Keeps.refl W5).alloc (.cells #[.int .i64 1, .int .u16 3, .int .u16 12, .int .u16 0] 42)
  replace hT := hT.keep K
  replace hC3 := hC3.keep K
  replace b3 := b3.keep K
  replace hC2 := hC2.keep K
  replace b2 := b2.keep K
  replace x1 := x1.keep K
  replace x2 := x2.keep K
  replace KK := KK.trans K
  clear K
  obtain ⟨c0, c1, c2, c3, c4, c5⟩ := b3.c6
  go_wp2_with fail
  clear c0 c1 c2 c3 c4 c5
  refine (E4.out _ _ _ _ _ hT hC3).mono ?_
  rintro e W6 ⟨a9, c9, rfl, K⟩
  replace hT := hT.keep K
  replace hC3 := hC3.keep K
  replace b3 := b3.keep K
  replace hC2 := hC2.keep K
  replace b2 := b2.keep K
  replace x1 := x1.keep K
  replace x2 := x2.keep K
  replace x3 := x3.keep K
  replace KK := KK.trans K
  clear K
  obtain ⟨c0, c1, c2, c3, c4, c5⟩ := b3.c6
  go_wp2_with fail
  clear c0 c1 c2 c3 c4 c5
  refine (E5.out _ _ _ _ _ hT hC3).mono ?_
  rintro e W7 ⟨rfl, K⟩
  replace hT := hT.keep K
  replace hC3 := hC3.keep K
  replace b3 := b3.keep K
  replace hC2 := hC2.keep K
  replace b2 := b2.keep K
  replace x1 := x1.keep K
  replace x2 := x2.keep K
  replace x3 := x3.keep K
  replace KK := KK.trans K
  clear K
  obtain ⟨c0, c1, c2, c3, c4, c5⟩ := b3.c6
  go_wp2_with fail
  clear c0 c1 c2 c3 c4 c5
  refine (E6.out _ _ _ _ _ hT hC3).mono ?_
  rintro e W8 ⟨rfl, K⟩
  replace hT := hT.keep K
  replace hC3 := hC3.keep K
  replace b3 := b3.keep K
  replace hC2 := hC2.keep K
  replace b2 := b2.keep K
  replace x1 := x1.keep K
  replace x2 := x2.keep K
  replace x3 := x3.keep K
  replace KK := KK.trans K
  clear K
  obtain ⟨g0, g1, g2, g3⟩ := cB4 x2
  obtain ⟨p0, p1, p2, p3⟩ := cB4 x3
  go_wp2_with fail
  go_ret
  exact ⟨rfl, KK⟩
end Go.Proofs.YtcnccoinhohbeaaDoor
