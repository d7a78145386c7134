/- Texts joined into one, what is needed of them (a program of ours). -/
import Derived.Maps.AppendAt
import Derived.Outline
import Derived.Test.YtijknodekomdfaaGreatDoorCKG
import Derived.Test.YtijknodekomdfaaGreatDoorCKE
import Derived.Test.YtijknodekomdfaaGreatDoorCKC
import Derived.Test.YtijknodekomdfaaGreatDoorCKYc
import Derived.Test.YtijknodekomdfaaGreatDoorCKH
namespace Go.Proofs.YtijknodekomdfaaGreatDoor
open Go.RowKit Go.Lib Go.Shelf
attribute [local go_sem] Oper.semAt_some

set_option maxRecDepth 100000 in
set_option maxHeartbeats 2000000 in
theorem choose1_in (n l n₀ B B2 : Nat) (s : S) (k : Nat) (hs : small s) (hkm : k ≤ (members s).length) (J Jx : List S → World → Prop)
    (hJ : ∀ p A B, J p A → Keeps A B → J p B)
    (hY : ∀ m p x W, J p W → p.length < (chooseL s k).length → YieldAt Fence.wide m Tryz.prog l #[vs x] W fun e W' =>
      (e = .returned (.bool true) ∧ J (p ++ [x]) W' ∧ KpS n₀ B W W') ∨ (e = .returned (.bool false) ∧ Jx (p ++ [x]) W'))
    (W : World) (hT : Tab W) (hn : n₀ ≤ W.heap.size) (hB : Boxed W B 31 (.int .u16 (sv s))) (hB2 : Boxed W B2 3 (.int .i64 k)) (h0 : J [] W) :
    CallsIn Fence.wide n Tryz.prog 162 #[.func (.yield l) #[] #[], .pointer (some ⟨B, 0, none⟩), .pointer (some ⟨B2, 0, none⟩)] W fun e W' => (∃ v, e = .returned v) ∧
      ((∃ ys, ys = chooseL s k ∧ J ys W') ∨ (∃ pre, pre <+: chooseL s k ∧ Jx pre W')) := by
  have hdd : ∀ j : Nat, (Fence.wide.depth.isSome = true → 1 ≤ j) := fun j h => by cases h
  have hcon := choose_in (n - 1) l n₀ B (chooseL s k).length s k hs hkm J Jx hJ hY [] W hT hn h0 (by simp)
  have c1 := hB.cell; have c2 := hB2.cell
  have HC := Lib.hid hcon
  clear hcon hJ hY h0 hB hB2 hT
  refine callsIn_of_wp Tryz.func162 rfl trivial ?_ rfl
  simp only [Tryz.ntmps162, List.size_toArray, List.length_cons, List.length_nil, Nat.reduceAdd, Nat.reduceSub, Array.replicate_succ, Array.replicate_zero, List.push_toArray, List.append_toArray, List.nil_append, List.cons_append]
  gi_wp2
  refine ⟨trivial, hdd _, ?_⟩
  refine HC.out.mono ?_
  rintro e w2 (⟨rfl, hJ2, -⟩ | ⟨rfl, q, hq, hx⟩)
  · rw [List.nil_append] at hJ2
    have HJ := Lib.hid hJ2
    clear hJ2
    gi_wp2
    go_end0
    exact ⟨⟨_, rfl⟩, .inl ⟨_, rfl, HJ.out⟩⟩
  · rw [List.nil_append] at hx
    have HX := Lib.hid hx; have HQ := Lib.hid hq
    clear hx hq
    gi_wp2
    go_end0
    exact ⟨⟨_, rfl⟩, .inr ⟨_, HQ.out, HX.out⟩⟩
/-- what set.Choose hands back is an iterator over the subsets with k members -/
theorem choose_stops (n n₀ B B2 : Nat) (s : S) (k : Nat) (hs : small s) (hkm : k ≤ (members s).length) (w : World) (hT : Tab w) (hn : n₀ ≤ w.heap.size) (hB : Boxed w B 31 (.int .u16 (sv s))) (hB2 : Boxed w B2 3 (.int .i64 k)) :
    SeqStopsK Fence.wide n Tryz.prog 162 #[.pointer (some ⟨B, 0, none⟩), .pointer (some ⟨B2, 0, none⟩)] (fun x : S => #[vs x]) (KpS n₀ B) (fun ys => ys = chooseL s k) (fun pre => pre <+: chooseL s k) (chooseL s k).length w := fun l J Jx W hW hJ _ hY h0 =>
  choose1_in n l n₀ B B2 s k hs hkm J Jx
    (fun p A B' hp k => hJ p A B' none hp ⟨k.below.os, k.below.tape, k.below.output, k.below.size, fun i hi _ => k.below.block i hi⟩ (fun r e => by cases e))
    (fun m p x W1 hj hl => YieldAt.anyDepth rfl m (hY p x W1 hj hl)) W (hT.keep hW) (Nat.le_trans hn hW.size)
    ((hW.block B hB.lt).trans hB) ((hW.block B2 hB2.lt).trans hB2) h0
theorem choose_any (s : S) (k : Nat) (w : World) : Calls Tryz.prog 99 #[.int .u16 (sv s), .int .i64 k] w fun e w' => e = .returned (.func (.func 162) #[] #[.pointer (some ⟨w.heap.size, 0, none⟩), .pointer (some ⟨w.heap.size + 1, 0, none⟩)]) ∧ w' = (w.alloc (.cells #[.int .u16 (sv s)] 31)).alloc (.cells #[.int .i64 k] 3) := by
  go_enter Tryz.func99, Tryz.ntmps99
  go_wp2
  go_ret
  exact ⟨rfl, rfl⟩

end Go.Proofs.YtijknodekomdfaaGreatDoor
namespace Go.Proofs.YtijknodekomdfaaGreatDoor
open Go.RowKit Go.Lib Go.Shelf
attribute [local go_sem] Oper.semAt_some
theorem kpAppG {W w1 : World} {n₀ Bo Bs b : Nat} {t e ts : TypeId} {sz : Nat} {v v0 v' u : Value} {k : Nat} {xs : List Value} {tmp : Obj} (hv : Boxed W Bo t v0) (hrow : W.ownsRow b e sz v k xs) (ht : t ≠ 3) (he : e ≠ 3) (hs : Boxed W Bs ts u) (hse : ts ≠ e) (hne : Bs ≠ Bo)
    (hgrow : (W.alloc tmp).grownBy w1 v.ownBlock) (hbel : Below n₀ W (w1.setCell ⟨Bo, 0, none⟩ v')) : KpS n₀ Bs W (w1.setCell ⟨Bo, 0, none⟩ v') := by
  have same : ∀ i o, W.heap[i]? = some o → i ≠ Bo → some i ≠ v.ownBlock → (w1.setCell ⟨Bo, 0, none⟩ v').heap[i]? = W.heap[i]? := fun i o ho h1 h2 => by
    have hi := (Array.getElem?_eq_some_iff.1 ho).1
    rw [Below.heap_setCell _ _ _ _ h1, hgrow.block i (by simp; omega) h2, Below.heap_alloc _ _ _ hi]
  refine ⟨hbel, fun i cs hi => same i _ hi ?_ ?_, fun o ho => (same Bs o ho hne (hs.not_row hse hrow)).trans ho⟩
  · rintro rfl
    rw [show W.heap[i]? = _ from hv] at hi
    injection hi with hi
    injection hi with _ h2
    exact ht h2
  · rcases hrow.2 with ⟨rfl, _⟩ | ⟨g, cap, cur, rfl, _, hgb, _⟩
    · simp [Value.ownBlock]
    · intro e'
      obtain rfl : i = g := by simpa [Value.ownBlock] using e'
      rw [hgb] at hi
      injection hi with hi
      injection hi with _ h2
      exact he h2
theorem chooseL_zero (s : S) : chooseL s 0 = [0#16] := by
  unfold chooseL
  rw [show ((1#32 <<< 0) - 1#32 : U) = 0#32 from by decide, show (4096 : Nat) = 4095 + 1 from rfl, gosR, if_pos (by exact Nat.pow_pos (by decide)), if_pos rfl, List.map_cons, List.map_nil]
  congr 1
  unfold emb
  have : ∀ (l : List Nat) (i : Nat), embG 0#32 l i 0#16 = 0#16 := by
    intro l
    induction l with
    | nil => intro i; rfl
    | cons a t ih => intro i; rw [embG, if_neg (by simp)]; exact ih (i + 1)
  exact this _ 0
theorem fl_snoc' (l : List F2) (x : F2) : fl (l ++ [x]) = fl l ++ [.int .u16 (sv x.1), .int .u16 (sv x.2)] := by simp [fl]
theorem thrResults {W : World} {tmps : Array Value} {B1 B2 : Nat} {a : Option Addr} {n c : Nat} {e : Int} (h1 : Boxed W B1 22 (.slice a n c)) (h2 : Boxed W B2 27 (.int .i64 e))
    (t1 : tmps.getD 6 undef = .pointer (some ⟨B1, 0, none⟩)) (t2 : tmps.getD 7 undef = .pointer (some ⟨B2, 0, none⟩)) :
    (results Tryz.f39 tmps).run Tryz.prog W = .ok (.tuple #[.slice a n c, .int .i64 e]) W := by
  simp only [Array.getD_eq_getD_getElem?] at t1 t2
  have c1 := h1.cell; have c2 := h2.cell
  simp [results, Tryz.f39, t1, t2, asAddr, loadVar, loadCells, loadCellsFrom, c1, c2, go_sem]
set_option maxRecDepth 100000 in
set_option maxHeartbeats 8000000 in
theorem threshold_any (n b : Nat) (hn : n ≤ 12) (hb : b ≤ n) (hl : (chooseL (fullS n) b).length ≤ 100) (w : World) (hT : Tab w) :
    Calls Tryz.prog 39 #[.int .i64 n, .int .i64 b, .int .i64 0] w fun e w' => ∃ v, e = .returned (.tuple #[v, .int .i64 0]) ∧ Own 34 2 w w' v (chooseL (fullS n) b).length (fl ((chooseL (fullS n) b).map fun x => (x, 0#16))) := by
  obtain ⟨i0, hi, hz0, hz1, hz2⟩ := info_parts infoF
  have q1 : ¬ (n : Int) < 0 := by omega
  have q2 : ¬ (12 : Int) < (n : Int) := by omega
  have q3 : ¬ (b : Int) < 0 := by omega
  have q4 : ¬ (n : Int) < (b : Int) := by omega
  have q5 : IntKind.i64.wrap ((n : Int) - (b : Int)) = (n : Int) - (b : Int) := IntWalk.i64_in _ (by omega)
  have q6 : ¬ ((n : Int) - (b : Int)) < 0 := by omega
  refine (callsIn_wide (n := 12)).1 ?_
  refine callsIn_of_wp_marks Tryz.func39 rfl trivial ?_ rfl
  simp only [Tryz.ntmps39, List.size_toArray, List.length_cons, List.length_nil, Nat.reduceAdd, Nat.reduceSub, Array.replicate_succ, Array.replicate_zero, List.push_toArray, List.append_toArray, List.nil_append, List.cons_append]
  have hfs : small (fullS n) := by
    have : ∀ k : Fin 13, (fullS k.val).toNat < 4096 := by decide
    exact this ⟨n, by omega⟩
  have hfm : b ≤ (members (fullS n)).length := by
    have : ∀ k : Fin 13, (members (fullS k.val)).length = k.val := by decide
    rw [this ⟨n, by omega⟩]; exact hb
  have B5 := (((Boxed.new w 3 (.int .i64 0)).alloc (.cells #[.slice none 0 0] 22)).alloc (.cells #[.int .i64 0] 27)).alloc (.cells #[.int .u16 (sv (fullS n))] 31)
  have B6 := (((Boxed.new (w.alloc (.cells #[.int .i64 0] 3)) 22 (.slice none 0 0)).alloc (.cells #[.int .i64 0] 27)).alloc (.cells #[.int .u16 (sv (fullS n))] 31)).alloc (.cells #[.slice none 0 0] 22)
  have B7 := ((Boxed.new ((w.alloc (.cells #[.int .i64 0] 3)).alloc (.cells #[.slice none 0 0] 22)) 27 (.int .i64 0)).alloc (.cells #[.int .u16 (sv (fullS n))] 31)).alloc (.cells #[.slice none 0 0] 22)
  have B8 := (Boxed.new (((w.alloc (.cells #[.int .i64 0] 3)).alloc (.cells #[.slice none 0 0] 22)).alloc (.cells #[.int .i64 0] 27)) 31 (.int .u16 (sv (fullS n)))).alloc (.cells #[.slice none 0 0] 22)
  have B9 := Boxed.new ((((w.alloc (.cells #[.int .i64 0] 3)).alloc (.cells #[.slice none 0 0] 22)).alloc (.cells #[.int .i64 0] 27)).alloc (.cells #[.int .u16 (sv (fullS n))] 31)) 22 (.slice none 0 0)
  have KW := (((((Keeps.refl w).alloc (.cells #[.int .i64 0] 3)).alloc (.cells #[.slice none 0 0] 22)).alloc (.cells #[.int .i64 0] 27)).alloc (.cells #[.int .u16 (sv (fullS n))] 31)).alloc (.cells #[.slice none 0 0] 22)
  have B5 := B5.alloc (.cells #[.slice none 0 0] 22)
  simp only [World.size_alloc] at B6 B7 B8 B9
  have hsz : (((((w.alloc (.cells #[.int .i64 0] 3)).alloc (.cells #[.slice none 0 0] 22)).alloc (.cells #[.int .i64 0] 27)).alloc (.cells #[.int .u16 (sv (fullS n))] 31)).alloc (.cells #[.slice none 0 0] 22)).heap.size = w.heap.size + 5 := by simp only [World.size_alloc]
  have c5 := (((Boxed.new w 3 (.int .i64 0)).alloc (.cells #[.slice none 0 0] 22)).alloc (.cells #[.int .i64 0] 27)).cell
  gi_wp2
  rw [show sv (1#16 <<< n - 1#16) = sv (fullS n) from rfl]
  refine ⟨trivial, ?_⟩
  refine (callsIn_wide.2 (choose_any (fullS n) b _)).mono ?_
  generalize ((((w.alloc (.cells #[.int .i64 0] 3)).alloc (.cells #[.slice none 0 0] 22)).alloc (.cells #[.int .i64 0] 27)).alloc (.cells #[.int .u16 (sv (fullS n))] 31)).alloc (.cells #[.slice none 0 0] 22) = W5 at *
  rintro e W7 ⟨rfl, hw7⟩
  rw [hsz]
  have K7 : Keeps W5 W7 := hw7 ▸ ((Keeps.refl W5).alloc _).alloc _
  have BS := Boxed.new W5 31 (.int .u16 (sv (fullS n)))
  have BK := Boxed.new (W5.alloc (.cells #[.int .u16 (sv (fullS n))] 31)) 3 (.int .i64 b)
  have BS := BS.alloc (.cells #[.int .i64 b] 3)
  rw [World.size_alloc] at BK
  rw [hsz] at BS BK
  rw [← hw7] at BS BK
  have hsz7 : W7.heap.size = w.heap.size + 7 := by rw [hw7, World.size_alloc, World.size_alloc, hsz]
  clear hw7 c5
  replace B5 := boxedKeep B5 K7; replace B6 := boxedKeep B6 K7; replace B7 := boxedKeep B7 K7; replace B8 := boxedKeep B8 K7; replace B9 := boxedKeep B9 K7
  replace KW := KW.trans K7
  clear K7
  gi_wp2
  have hgs : W7.heap.size = w.heap.size + 7 := hsz7
  have eg : ∀ args w, (callFunc 162 args).run Tryz.prog w = .ok (.enter 162 args) w := enters_of Tryz.func162 (by kernel_rfl) rfl
  have hsx : ∀ x : S, small (fullS n &&& ~~~x) := fun x => by
    have := @Nat.and_le_left (fullS n).toNat (~~~x).toNat
    unfold small at *
    rw [BitVec.toNat_and]
    omega
  refine wpIn_rangeFunc_ownH rfl (by omega) (gf := 162) (lb := #[.pointer (some ⟨w.heap.size + 5, 0, none⟩), .pointer (some ⟨w.heap.size + 5 + 1, 0, none⟩)]) rfl trivial eg
    (choose_stops 11 w.heap.size (w.heap.size + 5) (w.heap.size + 5 + 1) (fullS n) b hfs hfm W7 (hT.keep KW) KW.size BS BK) KpS.trans ?hkb (Below.refl _ _) (fun _ => rfl)
    (fun pre W => (∃ v, Boxed W (w.heap.size + 1 + 1 + 1 + 1) 22 v ∧ W.ownsRow w.heap.size 34 2 v pre.length (fl (pre.map fun x => (x, 0#16)))) ∧ Boxed W w.heap.size 3 (.int .i64 0) ∧ Boxed W (w.heap.size + 1 + 1 + 1) 31 (.int .u16 (sv (fullS n))) ∧ Boxed W (w.heap.size + 1) 22 (.slice none 0 0) ∧ Boxed W (w.heap.size + 1 + 1) 27 (.int .i64 0) ∧ Below w.heap.size w W ∧ Boxed W (w.heap.size + 5) 31 (.int .u16 (sv (fullS n))) ∧ W7.heap.size ≤ W.heap.size)
    (fun _ _ _ => False)
    ?hI (fun _ _ _ _ _ hs _ _ => hs) ?h0
    (fun x a' W => ∃ Bx, W7.heap.size ≤ Bx ∧ Boxed W Bx 31 (.int .u16 (sv x)) ∧ a' = { tmps := #[Value.int IntKind.i64 ↑n, Value.int IntKind.i64 ↑b, Value.int IntKind.i64 0, undef, undef, Value.pointer (some { block := w.heap.size, off := 0 }), Value.pointer (some { block := w.heap.size + 1, off := 0 }), Value.pointer (some { block := w.heap.size + 1 + 1, off := 0 }), Value.pointer (some { block := w.heap.size + 1 + 1 + 1, off := 0 }), Value.pointer (some { block := w.heap.size + 1 + 1 + 1 + 1, off := 0 }), Value.pointer (some { block := Bx, off := 0 }), undef, Value.int IntKind.i64 ↑n, Value.bool false, Value.bool false, Value.int IntKind.i64 ↑n, Value.bool false, Value.bool false, Value.bool false, Value.int IntKind.i64 ↑b, Value.bool false, Value.bool false, Value.bool false, Value.int IntKind.i64 0, Value.bool false, Value.bool false, Value.bool false, Value.int IntKind.i64 ↑b, Value.int IntKind.i64 ↑n, Value.bool false, Value.bool false, Value.bool false, Value.int IntKind.i64 0, Value.int IntKind.i64 ↑n, Value.int IntKind.i64 ↑b, Value.int IntKind.i64 (↑n - ↑b), Value.bool false, Value.bool false, Value.int IntKind.i64 ↑n, Value.int IntKind.u16 (sv (1#16 <<< n)), Value.int IntKind.u16 (sv (fullS n)), Value.int IntKind.u16 (sv (fullS n)), Value.int IntKind.i64 ↑b, Value.func (Fn.func 162) #[] #[Value.pointer (some { block := w.heap.size + 5, off := 0 }), Value.pointer (some { block := w.heap.size + 5 + 1, off := 0 })], Value.int IntKind.u16 (sv x), undef, undef, undef, undef, undef, undef, undef, undef, undef, undef, undef, undef, undef, undef, undef, undef], defers := [] })
    (fun x a' _ X Y row hs hg hr => by obtain ⟨Bx, h1, h2, h3⟩ := hs; exact ⟨Bx, h1, boxK h2 hg hr, h3⟩)
    ?assign ?body ?done ?stop
  case hkb => exact fun W l' o o' h1 h2 h3 h4 => kpS_b KW.size (by omega) W l' o o' h1 h2 h3 h4
  case hI =>
    rintro s A B row ⟨⟨v, hv, hrow⟩, h5, h8, h6, h7, hB, hS, hW⟩ hg hr
    refine ⟨⟨v, boxK hv hg hr, hrow.kept hg ?_⟩, boxK h5 hg hr, boxK h8 hg hr, boxK h6 hg hr, boxK h7 hg hr, belK hB KW.size hg hr, boxK hS hg hr, Nat.le_trans hW hg.size⟩
    rcases hrow.2 with ⟨rfl, _⟩ | ⟨g, cap, cur, rfl, _, hgb, _⟩
    · exact .inl rfl
    · refine .inr fun e' => ?_
      obtain ⟨_, o, ho, hc⟩ := hr g (by simpa [Value.ownBlock] using e'.symm)
      rw [hgb] at ho; cases ho; cases hc
  case h0 => exact ⟨⟨_, B9, World.ownsRow_nil _ _ _ _⟩, B5, B8, B6, B7, KW, BS, Nat.le_refl _⟩
  case assign =>
    rintro l pre x W K ⟨⟨v, hv, hrow⟩, h5, h8, h6, h7, hB, hS, hW⟩ hK
    unfold vs
    gi_wp2
    have ka := (Keeps.refl W).alloc (.cells #[.int .u16 (sv x)] 31)
    exact hK _ _ (keepsFrom ka _) (KpS.of ka hB.size) ⟨⟨v, hv.alloc _, hrow.alloc _⟩, h5.alloc _, h8.alloc _, h6.alloc _, h7.alloc _, Keeps.trans hB ka, hS.alloc _, Nat.le_trans hW ka.size⟩ ⟨W.heap.size, hW, Boxed.new W _ _, rfl⟩
  case body =>
    rintro l pre x a' W hlW ⟨r, hr⟩ ⟨⟨v, hv, hrow⟩, h5, h8, h6, h7, hB, hS, hW⟩ ⟨Bx, hBx, bX, rfl⟩ hlt
    have c5 := h5.cell; have c8 := h8.cell; have cX := bX.cell
    gi_wp2
    refine ⟨trivial, ?_⟩
    refine (CallsIn.inRound l (callsIn_wide.2 (choose_any (fullS n &&& ~~~x) 0 W))).mono ?_
    rintro e Wc ⟨rfl, hwc⟩
    have kc : Keeps W Wc := hwc ▸ ((Keeps.refl W).alloc _).alloc _
    have bS2 : Boxed Wc W.heap.size 31 (.int .u16 (sv (fullS n &&& ~~~x))) := hwc ▸ (Boxed.new W _ _).alloc _
    have bK2 : Boxed Wc (W.heap.size + 1) 3 (.int .i64 (0 : Nat)) := by
      have := Boxed.new (W.alloc (.cells #[.int .u16 (sv (fullS n &&& ~~~x))] 31)) 3 (.int .i64 (0 : Nat))
      rw [World.size_alloc] at this
      exact hwc ▸ this
    have hszc : Wc.heap.size = W.heap.size + 2 := by rw [hwc, World.size_alloc, World.size_alloc]
    clear hwc c5 c8 cX
    have hWb := hB.size
    have hrc : Wc.heap[l]? = some (.loop r) := (kc.below.block l (Array.getElem?_eq_some_iff.1 hr).1).trans hr
    gi_wp2
    refine wpIn_rangeFunc_ownN (l₀ := l) (r₀ := r) rfl hrc (by omega) (gf := 162) (lb := #[.pointer (some ⟨W.heap.size, 0, none⟩), .pointer (some ⟨W.heap.size + 1, 0, none⟩)]) rfl trivial eg
      ((choose_stops 9 w.heap.size W.heap.size (W.heap.size + 1) (fullS n &&& ~~~x) 0 (hsx x) (Nat.zero_le _) Wc (hT.keep (Keeps.trans hB kc)) (Nat.le_trans hWb kc.size) bS2 bK2).inRound l) KpS.trans ?hkb2 (Below.refl _ _) (fun _ => rfl)
      (fun pre2 W' => (∃ v, Boxed W' (w.heap.size + 1 + 1 + 1 + 1) 22 v ∧ W'.ownsRow w.heap.size 34 2 v (pre.length + pre2.length) (fl ((pre.map fun x => (x, 0#16)) ++ pre2.map fun y => (x, y)))) ∧ Boxed W' w.heap.size 3 (.int .i64 0) ∧ Boxed W' (w.heap.size + 1 + 1 + 1) 31 (.int .u16 (sv (fullS n))) ∧ Boxed W' (w.heap.size + 1) 22 (.slice none 0 0) ∧ Boxed W' (w.heap.size + 1 + 1) 27 (.int .i64 0) ∧ Below w.heap.size w W' ∧ Boxed W' Bx 31 (.int .u16 (sv x)) ∧ KeepsFrom W7.heap.size W W' ∧ KpS w.heap.size (w.heap.size + 5) W W' ∧ Boxed W' (w.heap.size + 5) 31 (.int .u16 (sv (fullS n))) ∧ Boxed W' W.heap.size 31 (.int .u16 (sv (fullS n &&& ~~~x))) ∧ Wc.heap.size ≤ W'.heap.size)
      (fun _ _ _ => False)
      ?hI2 (fun _ _ _ _ _ hs _ _ => hs) ?h02
      (fun y a'' _ => a'' = { tmps := #[Value.int IntKind.i64 ↑n, Value.int IntKind.i64 ↑b, Value.int IntKind.i64 0, undef, undef, Value.pointer (some { block := w.heap.size, off := 0 }), Value.pointer (some { block := w.heap.size + 1, off := 0 }), Value.pointer (some { block := w.heap.size + 1 + 1, off := 0 }), Value.pointer (some { block := w.heap.size + 1 + 1 + 1, off := 0 }), Value.pointer (some { block := w.heap.size + 1 + 1 + 1 + 1, off := 0 }), Value.pointer (some { block := Bx, off := 0 }), Value.int IntKind.u16 (sv y), Value.int IntKind.i64 ↑n, Value.bool false, Value.bool false, Value.int IntKind.i64 ↑n, Value.bool false, Value.bool false, Value.bool false, Value.int IntKind.i64 ↑b, Value.bool false, Value.bool false, Value.bool false, Value.int IntKind.i64 0, Value.bool false, Value.bool false, Value.bool false, Value.int IntKind.i64 ↑b, Value.int IntKind.i64 ↑n, Value.bool false, Value.bool false, Value.bool false, Value.int IntKind.i64 0, Value.int IntKind.i64 ↑n, Value.int IntKind.i64 ↑b, Value.int IntKind.i64 (↑n - ↑b), Value.bool false, Value.bool false, Value.int IntKind.i64 ↑n, Value.int IntKind.u16 (sv (1#16 <<< n)), Value.int IntKind.u16 (sv (fullS n)), Value.int IntKind.u16 (sv (fullS n)), Value.int IntKind.i64 ↑b, Value.func (Fn.func 162) #[] #[Value.pointer (some { block := w.heap.size + 5, off := 0 }), Value.pointer (some { block := w.heap.size + 5 + 1, off := 0 })], Value.int IntKind.u16 (sv x), Value.int IntKind.u16 (sv (fullS n)), Value.int IntKind.u16 (sv x), Value.int IntKind.u16 (sv (fullS n &&& ~~~x)), Value.int IntKind.i64 0, Value.func (Fn.func 162) #[] #[Value.pointer (some { block := W.heap.size, off := 0 }), Value.pointer (some { block := W.heap.size + 1, off := 0 })], Value.int IntKind.u16 (sv y), undef, undef, undef, undef, undef, undef, undef, undef, undef, undef], defers := [] })
      (fun _ _ _ _ _ _ hs _ _ => hs)
      ?assign2 ?body2 ?done2 ?stop2
    case hkb2 => exact fun W' l' o o' h1 h2 h3 h4 => kpS_b (Nat.le_trans hWb kc.size) (by omega) W' l' o o' h1 h2 h3 h4
    case hI2 =>
      rintro s A B row ⟨⟨v, hv, hrow⟩, h5, h8, h6, h7, hB, hX, hKF, hKP, hS, hS2, hW2⟩ hg hr
      refine ⟨⟨v, boxK hv hg hr, hrow.kept hg ?_⟩, boxK h5 hg hr, boxK h8 hg hr, boxK h6 hg hr, boxK h7 hg hr, belK hB (by omega) hg hr, boxK hX hg hr, ?_, ?_, boxK hS hg hr, boxK hS2 hg hr, Nat.le_trans hW2 hg.size⟩
      · rcases hrow.2 with ⟨rfl, _⟩ | ⟨g, cap, cur, rfl, _, hgb, _⟩
        · exact .inl rfl
        · refine .inr fun e' => ?_
          obtain ⟨_, o, ho, hc⟩ := hr g (by simpa [Value.ownBlock] using e'.symm)
          rw [hgb] at ho; cases ho; cases hc
      · exact ownFrom_keepsFrom (β := Unit) (B := W7.heap.size) (w₀ := W) (by omega) () A B row hKF hg hr
      · refine ⟨hKP.below.grown hg (Nat.le_trans hWb hKP.size) (fun k e => by have := (hr k e).1; omega), fun k cs hk => ?_, fun o ho => ?_⟩
        · have h1 := hKP.ints k cs hk
          have h2 := h1.trans hk
          exact (hg.block k (Array.getElem?_eq_some_iff.1 h2).1 (fun e => by obtain ⟨_, o, ho, hc⟩ := hr k e.symm; rw [h2] at ho; cases ho; cases hc)).trans h1
        · have h1 := hKP.box o ho
          exact (hg.block _ (Array.getElem?_eq_some_iff.1 h1).1 (fun e => by have := (hr _ e.symm).1; omega)).trans h1
    case h02 => exact ⟨⟨v, boxedKeep hv kc, by simpa using kc.own hrow⟩, boxedKeep h5 kc, boxedKeep h8 kc, boxedKeep h6 kc, boxedKeep h7 kc, Keeps.trans hB kc, boxedKeep bX kc, keepsFrom kc _, KpS.of kc hWb, boxedKeep hS kc, bS2, Nat.le_refl _⟩
    case assign2 =>
      rintro l2 pre2 y W' K hi hK
      unfold vs
      gi_wp2
      exact hK _ _ (KeepsFrom.refl _ _) (KpS.refl _ _ _) hi rfl
    case body2 =>
      rintro l2 pre2 y a'' W' _ _ ⟨⟨v, hv, hrow⟩, h5, h8, h6, h7, hB, hX, hKF, hKP, hS, hS2, hW2⟩ rfl hlt2
      obtain ⟨va, vc, rfl, hvr⟩ := own_rd hrow
      have hc9 := hv.cell; have hf9 := hv.frozen; have cX := hX.cell
      have hpl : pre.length < 100 := by have h1 : pre.length < (chooseL (fullS n) b).length := hlt; omega
      have hp2 : pre2.length < 1 := by have h1 : pre2.length < (chooseL (fullS n &&& ~~~x) 0).length := hlt2; rw [chooseL_zero] at h1; exact h1
      have hb1 : pre.length + pre2.length + 1 ≤ maxLen := by unfold maxLen; omega
      have hb2 : (pre.length + pre2.length + 1) * 4 ≤ 140737488355328 := by omega
      have hwsz : w.heap.size ≤ W'.heap.size := hB.size
      have hwc2 : w.heap.size ≤ (W'.alloc (.cells #[.int .u16 (sv x), .int .u16 (sv y)] 34)).heap.size := by simp; omega
      have hst : fl ((pre.map fun x => (x, 0#16)) ++ (pre2 ++ [y]).map fun y => (x, y)) = fl ((pre.map fun x => (x, 0#16)) ++ pre2.map fun y => (x, y)) ++ [.int .u16 (sv x), .int .u16 (sv y)] := by
        rw [List.map_append, ← List.append_assoc, List.map_cons, List.map_nil, fl_snoc']
      have HST := Lib.hid hst
      generalize fl ((pre.map fun x => (x, 0#16)) ++ pre2.map fun y => (x, y)) = cells at *
      have HROW := Lib.hid hrow; have HB1 := Lib.hid hb1; have HB2 := Lib.hid hb2; have HWC := Lib.hid hwc2
      have happ : ∀ v' w1, w1.ownsRow w.heap.size 34 2 v' (pre.length + pre2.length + 1) (cells ++ [.int .u16 (sv x), .int .u16 (sv y)]) → (W'.alloc (.cells #[.int .u16 (sv x), .int .u16 (sv y)] 34)).grownBy w1 (Value.slice va (pre.length + pre2.length) vc).ownBlock →
          Boxed w1 (w.heap.size + 1 + 1 + 1 + 1) 22 (.slice va (pre.length + pre2.length) vc) ∧ Hid (
          Boxed (w1.setCell ⟨w.heap.size + 1 + 1 + 1 + 1, 0, none⟩ v') (w.heap.size + 1 + 1 + 1 + 1) 22 v' ∧ (w1.setCell ⟨w.heap.size + 1 + 1 + 1 + 1, 0, none⟩ v').ownsRow w.heap.size 34 2 v' (pre.length + pre2.length + 1) (cells ++ [.int .u16 (sv x), .int .u16 (sv y)]) ∧
          KeepsOthers W' (w1.setCell ⟨w.heap.size + 1 + 1 + 1 + 1, 0, none⟩ v') ∧ Below w.heap.size W' (w1.setCell ⟨w.heap.size + 1 + 1 + 1 + 1, 0, none⟩ v') ∧
          KpS w.heap.size (w.heap.size + 5) W' (w1.setCell ⟨w.heap.size + 1 + 1 + 1 + 1, 0, none⟩ v') ∧ KpS w.heap.size W.heap.size W' (w1.setCell ⟨w.heap.size + 1 + 1 + 1 + 1, 0, none⟩ v') ∧
          Boxed (w1.setCell ⟨w.heap.size + 1 + 1 + 1 + 1, 0, none⟩ v') w.heap.size 3 (.int .i64 0) ∧ Boxed (w1.setCell ⟨w.heap.size + 1 + 1 + 1 + 1, 0, none⟩ v') (w.heap.size + 1 + 1 + 1) 31 (.int .u16 (sv (fullS n))) ∧
          Boxed (w1.setCell ⟨w.heap.size + 1 + 1 + 1 + 1, 0, none⟩ v') (w.heap.size + 1) 22 (.slice none 0 0) ∧ Boxed (w1.setCell ⟨w.heap.size + 1 + 1 + 1 + 1, 0, none⟩ v') (w.heap.size + 1 + 1) 27 (.int .i64 0) ∧
          Boxed (w1.setCell ⟨w.heap.size + 1 + 1 + 1 + 1, 0, none⟩ v') Bx 31 (.int .u16 (sv x)) ∧ Boxed (w1.setCell ⟨w.heap.size + 1 + 1 + 1 + 1, 0, none⟩ v') (w.heap.size + 5) 31 (.int .u16 (sv (fullS n))) ∧ Boxed (w1.setCell ⟨w.heap.size + 1 + 1 + 1 + 1, 0, none⟩ v') W.heap.size 31 (.int .u16 (sv (fullS n &&& ~~~x)))) := by
        intro v' w1 hown' hgrow
        obtain ⟨hv1, hv2, hv3, hko, hbel⟩ := hv.appended (by decide) hrow hwsz (by omega) hown' hgrow
        have keep : ∀ {B : Nat} {t : TypeId} {u : Value}, Boxed W' B t u → t ≠ 34 → B ≠ w.heap.size + 1 + 1 + 1 + 1 → Boxed (w1.setCell ⟨w.heap.size + 1 + 1 + 1 + 1, 0, none⟩ v') B t u := fun h ht hne => Boxed.other ((h.alloc _).kept hgrow (h.not_row ht hrow)) hne _
        exact ⟨hv1, Lib.hid ⟨hv2, hv3, hko, hbel, kpAppG hv hrow (by decide) (by decide) hS (by decide) (by omega) hgrow hbel, kpAppG hv hrow (by decide) (by decide) hS2 (by decide) (by omega) hgrow hbel, keep h5 (by decide) (by omega), keep h8 (by decide) (by omega), keep h6 (by decide) (by omega), keep h7 (by decide) (by omega), keep hX (by decide) (by omega), keep hS (by decide) (by omega), keep hS2 (by decide) (by omega)⟩⟩
      have HAPP := Lib.hid happ
      have hlen : ¬ (100 : Int) < ((pre.length : Int) + (pre2.length : Int) + 1) := by omega
      clear happ hrow hb1 hb2 hwc2 hst hlt hlt2
      gi_wp2_with (gi_at_builtin; refine wpListIn_append_own _ rfl _ _ 22 rfl w.heap.size 34 i0 (.agg #[.int .u16 0, .int .u16 0]) 2 4 Tryz.underlying22 hi hz0 hz1 hz2 rfl (by decide) _ _ _ rfl (HROW.out.alloc _) ⟨W'.heap.size, 0, none⟩ 1 1 [.int .u16 (sv x), .int .u16 (sv y)] rfl rfl (fun j u hj => (rd_new 34 2 W' [.int .u16 (sv x), .int .u16 (sv y)] 1 (by decide) rfl).cell j u hj) (by simp [Value.oneCell']) HB1.out HB2.out HWC.out ?_; intro v' w1 hown' hgrow _; obtain ⟨va', vc', rfl, _⟩ := own_rd hown'; obtain ⟨hq, hfin⟩ := HAPP.out _ w1 hown' hgrow; have hc10 := hq.cell; have hf10 := hq.frozen; have hc11 := hfin.out.1.cell; clear hown' hgrow)
      obtain ⟨p1, p2, p3, p4, p5, p6, p7, p8, p9, p10, p11, p12, p13⟩ := hfin.out
      refine ⟨p3.from _, p6, ⟨⟨_, p1, ?_⟩, p7, p8, p9, p10, hB.trans p4, p11, (by have q := hKF.trans (p3.from W7.heap.size); first | exact q | (rw [hsz7] at q; exact q)), hKP.trans p5, p12, p13, by have := p3.size; omega⟩⟩
      rw [HST.out, List.length_append]
      exact p2
    case done2 =>
      rintro ys' W' hys ⟨⟨v, hv, hrow⟩, h5, h8, h6, h7, hB, hX, hKF, hKP, hS, hS2, hW2⟩
      rw [chooseL_zero] at hys
      subst hys
      gi_wp2
      refine ⟨hKF, hKP, ⟨v, hv, ?_⟩, h5, h8, h6, h7, hB, hS, by omega⟩
      rw [List.map_append, List.length_append]
      exact hrow
    case stop2 =>
      rintro c pre' W' _ h
      exact h.elim
  case done =>
    rintro D ys W hD rfl ⟨⟨v, hv, hrow⟩, h5, h8, h6, h7, hB, hS, hW⟩ hK
    obtain ⟨va, vc, rfl, hvr⟩ := own_rd hrow
    have hc9 := hv.cell
    have hf6 := h6.frozen; have hc6 := h6.cell
    have h7' := Boxed.other h7 (show w.heap.size + 1 + 1 ≠ w.heap.size + 1 by omega) (.slice va (chooseL (fullS n) b).length vc)
    have hf7 := h7'.frozen; have hc7 := h7'.cell
    have r6 := h6.set (.slice va (chooseL (fullS n) b).length vc)
    have r6' := Boxed.other r6 (show w.heap.size + 1 ≠ w.heap.size + 1 + 1 by omega) (.int .i64 0)
    have r7 := h7'.set (.int .i64 0)
    have g1 := hrow.kept (grownBy_setCell' W (w.heap.size + 1) (.slice va (chooseL (fullS n) b).length vc)) (.inr (fun e => h6.not_row (by decide) hrow e.symm))
    have g2 := g1.kept (grownBy_setCell' _ (w.heap.size + 1 + 1) (.int .i64 0)) (.inr (fun e => h7'.not_row (by decide) g1 e.symm))
    have hbel : Below w.heap.size w ((W.setCell ⟨w.heap.size + 1, 0, none⟩ (.slice va (chooseL (fullS n) b).length vc)).setCell ⟨w.heap.size + 1 + 1, 0, none⟩ (.int .i64 0)) := (hB.setCell (p := ⟨w.heap.size + 1, 0, none⟩) (by simp) _).setCell (p := ⟨w.heap.size + 1 + 1, 0, none⟩) (by simp; omega) _
    have hK2 : ((W.setCell ⟨w.heap.size + 1, 0, none⟩ (.slice va (chooseL (fullS n) b).length vc)).setCell ⟨w.heap.size + 1 + 1, 0, none⟩ (.int .i64 0)).heap[D]? = some (.deferred (some [])) := by
      rw [Below.heap_setCell _ _ _ _ (by simp; omega), Below.heap_setCell _ _ _ _ (by simp; omega)]; exact hK
    have HR := Lib.hid g2; have HB2 := Lib.hid hbel; have HK2 := Lib.hid hK2; have HR6 := Lib.hid r6'; have HR7 := Lib.hid r7
    clear g1 g2 hbel hK2 r6 r6' r7 hrow hvr hK
    gi_wp2
    have hr : ∀ r, some D = some r → W7.heap.size ≤ r ∧ ∃ o : Obj, ((W.setCell ⟨w.heap.size + 1, 0, none⟩ (.slice va (chooseL (fullS n) b).length vc)).setCell ⟨w.heap.size + 1 + 1, 0, none⟩ (.int .i64 0)).heap[r]? = some o ∧ o.isCells = false := fun r e => by cases e; exact ⟨hD, _, HK2.out, rfl⟩
    refine ⟨by simp, .inl ⟨_, _, rfl, run_takeDeferred HK2.out, ?_⟩⟩
    refine ⟨_, thrResults (boxK HR6.out (grownBy_putObj' _ D _) hr) (boxK HR7.out (grownBy_putObj' _ D _) hr) rfl rfl, ?_⟩
    exact ⟨_, rfl, ownsRow_putObj HR.out _ HK2.out rfl, belK HB2.out KW.size (grownBy_putObj' _ D _) hr⟩
  case stop =>
    rintro D c pre W _ _ h _
    exact h.elim
end Go.Proofs.YtijknodekomdfaaGreatDoor
namespace Go.Proofs.YtijknodekomdfaaGreatDoor
open Go.RowKit Go.Lib Go.Shelf
def tM : List F2 := [(1#16, 0#16), (2#16, 0#16), (4#16, 0#16), (8#16, 0#16)]
def tM1 : List F2 := [(1#16, 0#16)]
def tR : List S := [7#16, 11#16, 13#16, 14#16]
def tR2 : List S := [3#16, 5#16, 6#16]
theorem t_ch : chooseL (fullS 4) 1 = [1#16, 2#16, 4#16, 8#16] := by decide +kernel
theorem t_thr (w : World) (hT : Tab w) : Calls Tryz.prog 39 #[.int .i64 4, .int .i64 1, .int .i64 0] w fun e w' => ∃ v, e = .returned (.tuple #[v, .int .i64 0]) ∧ Own 34 2 w w' v 4 (fl tM) := by
  have h := threshold_any 4 1 (by decide) (by decide) (by rw [t_ch]; decide) w hT
  rw [t_ch] at h
  exact h
theorem t_byz : byzS 15#16 tM = [1#16, 2#16, 4#16, 8#16] := by rw [byz_same (by show (15#16 : S).toNat < 4096; decide) (by decide)]; decide +kernel
theorem t_tv : tvS 2 15#16 tR tR tM tM = 0 := by decide +kernel
theorem t_cm : cmFold 0#16 [1#16, 2#16, 4#16, 8#16] tR (subsetsL 15#16) = tR := by decide +kernel
theorem t_com : comS 2 0#16 15#16 tR tR tM tM = (tR, 0) := by unfold comS; rw [t_tv, t_byz, t_cm]; rfl
theorem t_cl : clash27 2 0#16 15#16 tR tR tM = (cl0, 13) := by decide +kernel
theorem t_safe : safe27 2 0#16 15#16 tR tR tM = true := by unfold safe27; rw [t_cl]; rfl
theorem t_cl2 : (clash27 2 0#16 7#16 tR2 tR2 tM1).2 = 0 := by decide +kernel
theorem t_safe2 : safe27 2 0#16 7#16 tR2 tR2 tM1 = false := by
  unfold safe27; rw [t_cl2]; rfl
theorem t_eq : eqS tR tR = true := by decide +kernel
set_option maxRecDepth 20000 in
set_option maxHeartbeats 3000000 in
theorem awakeT_any (w : World) (hT : Tab w) : Calls Tryz.prog 7 #[] w fun e w' => e = .returned (.bool true) ∧ Keeps w w' := by
  have KK := Keeps.refl w
  haveI : NmOk ⟨#[99]⟩ := ⟨by decide⟩
  haveI : NmOk ⟨#[100]⟩ := ⟨by decide⟩
  have e1 := fun ar cr af cf (W : World) (t : Tab W) (h : RdC W ar cr tR ar cr tR af cf tM) => commits_any (nm := ⟨#[99]⟩) 2 0#16 15#16 af 4 cf tM W t h h.f (by decide)
  rw [t_com] at e1
  have e2 := fun ar cr af cf (W : World) (t : Tab W) (h : RowC W ar cr tR ar cr tR af cf tM) => cSafe_any (nm := ⟨#[99]⟩) 2 0#16 15#16 W t h (by decide)
  rw [t_safe] at e2
  have e3 := fun ar cr af cf (W : World) (t : Tab W) (h : RowC W ar cr tR2 ar cr tR2 af cf tM1) => cSafe_any (nm := ⟨#[100]⟩) 2 0#16 7#16 W t h (by decide)
  rw [t_safe2] at e3
  unfold RetS at e1
  have E1 := Lib.hid e1; have E2 := Lib.hid e2; have E3 := Lib.hid e3
  clear e1 e2 e3
  go_enter Tryz.func7, Tryz.ntmps7
  have r1 := (Own.made (e := 31) (sz := 1) (Keeps.refl w) [.int .u16 7, .int .u16 11, .int .u16 13, .int .u16 14] 4 (by decide) rfl).row0
  have K := (Keeps.refl w).alloc (.cells #[.int .u16 7, .int .u16 11, .int .u16 13, .int .u16 14] 31)
  replace hT := hT.keep K
  replace KK := KK.trans K
  clear K
  go_wp2_with fail
  refine (t_thr _ hT).mono ?_
  rintro e W1 ⟨v, rfl, hO⟩
  have rm := hO.row0
  obtain ⟨af, cf, rfl, _⟩ := hO.rd
  have K := hO.2
  clear hO
  replace hT := hT.keep K
  replace r1 := r1.keep K
  replace KK := KK.trans K
  clear K
  go_wp2_with fail
  have b3 := Blk.new W1 36 #[.string ⟨#[99]⟩, .int .i64 2, .int .u16 15, .slice (some ⟨w.heap.size, 0, none⟩) 4 4, .slice (some ⟨w.heap.size, 0, none⟩) 4 4, .slice af 4 cf]
  have K := (Keeps.refl W1).alloc (.cells #[.string ⟨#[99]⟩, .int .i64 2, .int .u16 15, .slice (some ⟨w.heap.size, 0, none⟩) 4 4, .slice (some ⟨w.heap.size, 0, none⟩) 4 4, .slice af 4 cf] 36)
  replace hT := hT.keep K
  replace r1 := r1.keep K
  replace rm := rm.keep K
  replace KK := KK.trans K
  clear K
  have hC : RowC _ (some ⟨w.heap.size, 0, none⟩) 4 tR (some ⟨w.heap.size, 0, none⟩) 4 tR af cf tM := ⟨r1, r1, rm⟩
  obtain ⟨c0, c1, c2, c3, c4, c5⟩ := b3.c6
  go_wp2_with fail
  clear c0 c1 c2 c3 c4 c5
  refine (E1.out _ _ _ _ _ hT hC.rd).mono ?_
  rintro e W2 ⟨v, rfl, hO⟩
  obtain ⟨ax, cx, rfl, rx⟩ := hO.rd
  have K := hO.2
  clear hO
  replace hT := hT.keep K
  replace r1 := r1.keep K
  replace rm := rm.keep K
  replace b3 := b3.keep K
  replace hC := hC.keep K
  replace KK := KK.trans K
  clear K
  have r2 := (Own.made (e := 31) (sz := 1) (Keeps.refl W2) [.int .u16 3, .int .u16 5, .int .u16 6] 3 (by decide) rfl).row0
  have K := (Keeps.refl W2).alloc (.cells #[.int .u16 3, .int .u16 5, .int .u16 6] 31)
  replace hT := hT.keep K
  replace r1 := r1.keep K
  replace rm := rm.keep K
  replace b3 := b3.keep K
  replace hC := hC.keep K
  replace rx := rx.keep K
  replace KK := KK.trans K
  clear K
  have rm1 := (Own.made (e := 34) (sz := 2) (Keeps.refl (W2.alloc (.cells #[.int .u16 3, .int .u16 5, .int .u16 6] 31))) [.int .u16 1, .int .u16 0] 1 (by decide) rfl).row0
  have K := (Keeps.refl (W2.alloc (.cells #[.int .u16 3, .int .u16 5, .int .u16 6] 31))).alloc (.cells #[.int .u16 1, .int .u16 0] 34)
  rw [World.size_alloc] at rm1
  replace hT := hT.keep K
  replace r1 := r1.keep K
  replace rm := rm.keep K
  replace b3 := b3.keep K
  replace hC := hC.keep K
  replace rx := rx.keep K
  replace r2 := r2.keep K
  replace KK := KK.trans K
  clear K
  have b4 := Blk.new ((W2.alloc (.cells #[.int .u16 3, .int .u16 5, .int .u16 6] 31)).alloc (.cells #[.int .u16 1, .int .u16 0] 34)) 36 #[.string ⟨#[100]⟩, .int .i64 2, .int .u16 7, .slice (some ⟨W2.heap.size, 0, none⟩) 3 3, .slice (some ⟨W2.heap.size, 0, none⟩) 3 3, .slice (some ⟨W2.heap.size + 1, 0, none⟩) 1 1]
  have K := (Keeps.refl ((W2.alloc (.cells #[.int .u16 3, .int .u16 5, .int .u16 6] 31)).alloc (.cells #[.int .u16 1, .int .u16 0] 34))).alloc (.cells #[.string ⟨#[100]⟩, .int .i64 2, .int .u16 7, .slice (some ⟨W2.heap.size, 0, none⟩) 3 3, .slice (some ⟨W2.heap.size, 0, none⟩) 3 3, .slice (some ⟨W2.heap.size + 1, 0, none⟩) 1 1] 36)
  rw [World.size_alloc, World.size_alloc] at b4
  replace hT := hT.keep K
  replace r1 := r1.keep K
  replace rm := rm.keep K
  replace b3 := b3.keep K
  replace hC := hC.keep K
  replace rx := rx.keep K
  replace r2 := r2.keep K
  replace rm1 := rm1.keep K
  replace KK := KK.trans K
  clear K
  have hD : RowC _ (some ⟨W2.heap.size, 0, none⟩) 3 tR2 (some ⟨W2.heap.size, 0, none⟩) 3 tR2 (some ⟨W2.heap.size + 1, 0, none⟩) 1 tM1 := ⟨r2, r2, rm1⟩
  obtain ⟨c0, c1, c2, c3, c4, c5⟩ := b3.c6
  go_wp2_with fail
  clear c0 c1 c2 c3 c4 c5
  generalize ((W2.alloc (.cells #[.int .u16 3, .int .u16 5, .int .u16 6] 31)).alloc (.cells #[.int .u16 1, .int .u16 0] 34)).alloc (.cells #[.string ⟨#[100]⟩, .int .i64 2, .int .u16 7, .slice (some ⟨W2.heap.size, 0, none⟩) 3 3, .slice (some ⟨W2.heap.size, 0, none⟩) 3 3, .slice (some ⟨W2.heap.size + 1, 0, none⟩) 1 1] 36) = V4 at *
  refine (E2.out _ _ _ _ _ hT hC).mono ?_
  rintro e W3 ⟨rfl, K⟩
  replace hT := hT.keep K
  replace r1 := r1.keep K
  replace rm := rm.keep K
  replace b3 := b3.keep K
  replace hC := hC.keep K
  replace rx := rx.keep K
  replace r2 := r2.keep K
  replace rm1 := rm1.keep K
  replace b4 := b4.keep K
  replace hD := hD.keep K
  replace KK := KK.trans K
  clear K
  obtain ⟨c0, c1, c2, c3, c4, c5⟩ := b4.c6
  go_wp2_with fail
  clear c0 c1 c2 c3 c4 c5
  refine (E3.out _ _ _ _ _ hT hD).mono ?_
  rintro e W4 ⟨rfl, K⟩
  replace hT := hT.keep K
  replace r1 := r1.keep K
  replace rm := rm.keep K
  replace b3 := b3.keep K
  replace hC := hC.keep K
  replace rx := rx.keep K
  replace r2 := r2.keep K
  replace rm1 := rm1.keep K
  replace b4 := b4.keep K
  replace hD := hD.keep K
  replace KK := KK.trans K
  clear K
  go_wp2_with fail
  refine (equal_any _ _ _ tR _ _ _ tR _ rx r1.rd).mono ?_
  rintro e W5 ⟨rfl, K⟩
  replace hT := hT.keep K
  replace r1 := r1.keep K
  replace rm := rm.keep K
  replace b3 := b3.keep K
  replace hC := hC.keep K
  replace rx := rx.keep K
  replace r2 := r2.keep K
  replace rm1 := rm1.keep K
  replace b4 := b4.keep K
  replace hD := hD.keep K
  replace KK := KK.trans K
  clear K
  rw [t_eq]
  go_wp2_with fail
  go_ret
  exact ⟨rfl, KK⟩
end Go.Proofs.YtijknodekomdfaaGreatDoor
