/- Texts joined into one, what is needed of them (a program of ours). -/
import Derived.Test.YtijknodekomdfaaGreatDoorCKA
import Derived.Shelf.Spec.TrailingZeros
import Derived.RangeFuncNested
import Derived.RangeFuncBound
import Derived.RangeFuncCalls
import Derived.RangeFuncLeaves
import Derived.RangeFuncBox
import Derived.Shelf.Abstract
import Derived.Shelf.RegionOpen
import Derived.WalkKit
import Derived.OwnWalkIn
import Derived.TacticsInMore
import Derived.LoopNIn
import Derived.LoopIn
import Derived.Test.YtijknodekomdfaaGreatDoorCKB
import Derived.Test.YtijknodekomdfaaGreatDoorCKC
import Derived.Maps.AppendAt
namespace Go.Proofs.YtijknodekomdfaaGreatDoor
open Go.RowKit Go.Lib

/-- the table of bits.TrailingZeros32 -/
def tab : List Nat := [0, 1, 28, 2, 29, 14, 24, 3, 30, 22, 20, 15, 25, 17, 4, 8, 31, 27, 13, 23, 21, 19, 16, 7, 26, 12, 18, 6, 11, 5, 10, 9]
def Tab (w : World) : Prop := ∀ i, i < 32 → w.cell? ⟨0, i, none⟩ = some (.int .u8 ((tab.getD i 0 : Nat) : Int))
theorem Tab.keep {w w' : World} (h : Tab w) (k : Keeps w w') : Tab w' := fun i hi => k.cell (h i hi)
def dbi (y : S) : Nat := y.toNat * 125613361 % 4294967296 / 134217728
theorem dbi_lt (y : S) : dbi y < 32 := by unfold dbi; omega
@[go_sem] theorem sv_neg (x : S) : IntKind.u16.wrap (-(sv x)) = sv (-x) := by
  rw [IntKind.wrap_u16]; unfold sv
  have := x.isLt
  rw [BitVec.toNat_neg]; omega
/-- the least member -/
def tzS (x : S) : Nat := tab.getD (dbi (x &&& -x)) 0

theorem tzS_def (x : S) : ((tab.getD (dbi (x &&& -x)) 0 : Nat) : Int) = (tzS x : Int) := by unfold tzS; rfl
theorem tab_lt : ∀ i, i < 32 → tab.getD i 0 < 32 := by decide
theorem tzS_lt (x : S) : tzS x < 32 := by unfold tzS; exact tab_lt _ (dbi_lt _)
theorem dbi_eq (y : S) : sv y % 4294967296 * 125613361 % 4294967296 / 134217728 = (dbi y : Int) := by
  have hy := y.isLt
  unfold dbi sv
  generalize y.toNat = n at *
  omega
theorem tz_core (x : S) (k idx : Nat) (w : World) (hx0 : (sv x == 0) = false)
    (key : bits BinOp.and IntKind.u16 (sv x) (IntKind.u16.wrap (-(sv x))) % 4294967296 * 125613361 % 4294967296 / 134217728 = (idx : Int))
    (hi : idx < 32) (hk : k < 32) (hcell : w.cell? ⟨0, idx, none⟩ = some (.int .u8 k)) :
    Calls Tryz.prog 141 #[.int .u16 (sv x)] w fun e w' => e = .returned (.int .i64 k) ∧ w = w' := by
  generalize sv x = n at *
  go_enter Tryz.func141, Tryz.ntmps141
  go_wp2_with (simp only [key])
  go_ret
  exact ⟨rfl, rfl⟩
theorem tz_any (x : S) (w : World) (hT : Tab w) (hx : x ≠ 0#16) : Calls Tryz.prog 141 #[.int .u16 (sv x)] w fun e w' => e = .returned (.int .i64 (tzS x)) ∧ w = w' := by
  have hb : (sv x == 0) = false := by rw [sv_beq0]; simpa using hx
  have hc := hT (dbi (x &&& -x)) (dbi_lt _)
  rw [tzS_def] at hc
  exact tz_core x _ _ w hb (by rw [sv_neg, sv_and]; exact dbi_eq _) (dbi_lt _) (tzS_lt x) hc

/-- a list of numbers as cells -/
def il (l : List Nat) : List Value := l.map fun (n : Nat) => .int .i64 (n : Int)
theorem il_snoc (l : List Nat) (x : Nat) : il (l ++ [x]) = il l ++ [.int .i64 (x : Int)] := by simp [il]
def im (l : List Nat) (i : Nat) : Nat := l.getD i 0
theorem il_at (l : List Nat) (i : Nat) (h : i < l.length) : (il l)[i]? = some (.int .i64 ((im l i : Nat) : Int)) := by simp [il, im, h, List.getD]
theorem drop_im (l : List Nat) (i : Nat) (h : i < l.length) : l.drop i = im l i :: l.drop (i + 1) := by
  rw [List.drop_eq_getElem_cons h]; simp [im, List.getD, h]
theorem il_oneCell (l : List Nat) : ∀ u ∈ il l, u.oneCell' = true := by
  intro u hu
  obtain ⟨_, _, rfl⟩ := List.mem_map.1 hu
  rfl
theorem infoI : (Tryz.prog.info? 3).map (fun i => (i.zero, i.size, i.bytes)) = some (some (.int .i64 0), 1, 8) := by kernel_rfl
theorem tyI : STy Tryz.prog 191 3 1 8 := STy.of Tryz.underlying191 infoI rfl (by decide) (by decide)

/-- the members, ascending -/
def members (x : S) : List Nat := (List.range 12).filter fun i => x.toNat.testBit i
theorem members_step' : ∀ (i j : Fin 64), i.val * 64 + j.val ≠ 0 → members (BitVec.ofNat 16 (i.val * 64 + j.val)) = tzS (BitVec.ofNat 16 (i.val * 64 + j.val)) :: members (BitVec.ofNat 16 (i.val * 64 + j.val) &&& (BitVec.ofNat 16 (i.val * 64 + j.val) - 1#16)) ∧ (BitVec.ofNat 16 (i.val * 64 + j.val) &&& (BitVec.ofNat 16 (i.val * 64 + j.val) - 1#16)).toNat < i.val * 64 + j.val := by decide +kernel
def small (x : S) : Prop := x.toNat < 4096
theorem members_step {x : S} (h : small x) (h0 : x ≠ 0#16) : members x = tzS x :: members (x &&& (x - 1#16)) ∧ (x &&& (x - 1#16)).toNat < x.toNat := by
  have hs : x.toNat < 4096 := h
  have e : x.toNat / 64 * 64 + x.toNat % 64 = x.toNat := by omega
  have := members_step' ⟨x.toNat / 64, by omega⟩ ⟨x.toNat % 64, by omega⟩
  simp only [e] at this
  have := this (fun e => h0 (BitVec.eq_of_toNat_eq (by simpa using e)))
  simpa using this
theorem members_zero : members 0#16 = [] := by decide
theorem members_len (x : S) : (members x).length ≤ 12 := Nat.le_trans (List.length_filter_le _ _) (by simp)

theorem members_lt (x : S) (i : Nat) : im (members x) i < 16 := by
  unfold im
  rw [List.getD_eq_getElem?_getD]
  cases h : (members x)[i]? with
  | none => simp
  | some v =>
    have := List.mem_of_getElem? h
    simp only [members, List.mem_filter, List.mem_range] at this
    simp; omega

theorem members_any (s : S) (w : World) (hT : Tab w) (hs : small s) : Calls Tryz.prog 132 #[.int .u16 (sv s)] w fun e w' => ∃ v, e = .returned v ∧ Own 3 1 w w' v (members s).length (il (members s)) := by
  have hz := fun w' (k : Keeps w w') x (hx : x ≠ 0#16) => tz_any x w' (hT.keep k) hx
  have HZ := Lib.hid hz; clear hz hT
  have HS := Lib.hid hs; clear hs
  go_enter Tryz.func132, Tryz.ntmps132
  go_wp2
  go_loopw [0, 3] (fun u v wr => ∃ (x : S) (acc : List Nat), u = .int .u16 (sv x) ∧ Hid (small x) ∧ Own 3 1 w wr v acc.length (il acc) ∧ Hid (members s = acc ++ members x)) (fun u _ _ => (RowKit.intOf u).toNat)
  case atStart => exact ⟨s, [], rfl, HS, Own.nil _ _ (Keeps.refl _), hrfl (by simp)⟩
  case round =>
    obtain ⟨x, acc, rfl, hx, hA, HI⟩ := hrel
    by_cases h0 : x = 0#16
    · have hb : (x != 0#16) = false := by simpa using h0
      have HI2 : Hid (members s = acc) := by have := HI.out; rw [h0, members_zero, List.append_nil] at this; exact this
      clear h0 HI
      go_wp2
      go_ret
      rw [HI2.out]
      exact ⟨_, rfl, hA⟩
    · have hb : (x != 0#16) = true := by simpa using h0
      obtain ⟨h1, h2⟩ := members_step hx.out h0
      have hl := members_len s
      rw [HI.out, h1] at hl
      simp only [List.length_append, List.length_cons] at hl
      have HN : Hid (acc.length + 1 ≤ 10000000) := by show acc.length + 1 ≤ 10000000; omega
      have HX : Hid (small (x &&& (x - 1#16))) := by have h4 : x.toNat < 4096 := hx.out; show _ < 4096; omega
      have HJ : Hid (members s = (acc ++ [tzS x]) ++ members (x &&& (x - 1#16))) := hrfl (by have := HI.out; rw [h1] at this; simpa using this)
      have H0 := Lib.hid h0
      have H2 : Hid ((sv (x &&& (x - 1#16))).toNat < (sv x).toNat) := by unfold sv; rw [Int.toNat_natCast, Int.toNat_natCast]; exact h2
      clear h0 h1 h2 hl HI
      go_wp2_with (first | (go_at_call 141; refine (HZ.out _ hA.2 _ H0.out).mono ?_; rintro e w' ⟨rfl, rfl⟩) | (at_builtin; refine wp_app tyI rfl _ _ rfl (hA.alloc _) rfl rfl (rd_new _ 1 _ [.int .i64 (tzS x)] 1 (by decide) rfl) (il_oneCell [tzS x]) HN.out ?_))
      intro v' w' hO hgr
      obtain ⟨a', c', rfl, hR⟩ := hO.rd
      have hN : acc.length + 1 = (acc ++ [tzS x]).length := by simp
      rw [← il_snoc, hN] at hO
      have HO := Lib.hid hO
      clear hN hO hgr hR
      go_wp2
      go_roundw
      case rel => exact ⟨_, _, rfl, HX, by simpa using HO.out, HJ⟩
      case measure => exact H2.out
end Go.Proofs.YtijknodekomdfaaGreatDoor
namespace Go.Proofs.YtijknodekomdfaaGreatDoor
open Go.RowKit Go.Lib

abbrev U := BitVec 32
def uv (x : U) : Int := x.toNat
theorem uv_bound (x : U) : 0 ≤ uv x ∧ uv x < 4294967296 := by unfold uv; have := x.isLt; omega
theorem uv_inj {x y : U} : uv x = uv y ↔ x = y := by
  unfold uv; constructor
  · intro h; exact BitVec.eq_of_toNat_eq (by omega)
  · rintro rfl; rfl
@[go_sem] theorem uv_and (x y : U) : bits .and .u32 (uv x) (uv y) = uv (x &&& y) := by
  unfold uv; rw [bits_and_u32_nat _ _ x.isLt y.isLt]; simp
theorem bits_or_u32_nat (a b : Nat) (ha : a < 4294967296) (hb : b < 4294967296) : bits .or .u32 (a : Int) (b : Int) = ((a ||| b : Nat) : Int) := by
  have hx : a ||| b < 2 ^ 32 := Nat.or_lt_two_pow (by omega) (by omega)
  have h1 : (BitVec.ofInt 32 (a : Int)).toNat = a := by
    rw [BitVec.ofInt_natCast, BitVec.toNat_ofNat]; exact Nat.mod_eq_of_lt (by omega)
  have h2 : (BitVec.ofInt 32 (b : Int)).toNat = b := by
    rw [BitVec.ofInt_natCast, BitVec.toNat_ofNat]; exact Nat.mod_eq_of_lt (by omega)
  show IntKind.u32.wrap ((BitVec.ofInt 32 (a : Int) ||| BitVec.ofInt 32 (b : Int)).toNat : Int) = _
  rw [BitVec.toNat_or, h1, h2, wrap_u32']
  omega
theorem bits_xor_u32_nat (a b : Nat) (ha : a < 4294967296) (hb : b < 4294967296) : bits .xor .u32 (a : Int) (b : Int) = ((a ^^^ b : Nat) : Int) := by
  have hx : a ^^^ b < 2 ^ 32 := Nat.xor_lt_two_pow (by omega) (by omega)
  have h1 : (BitVec.ofInt 32 (a : Int)).toNat = a := by
    rw [BitVec.ofInt_natCast, BitVec.toNat_ofNat]; exact Nat.mod_eq_of_lt (by omega)
  have h2 : (BitVec.ofInt 32 (b : Int)).toNat = b := by
    rw [BitVec.ofInt_natCast, BitVec.toNat_ofNat]; exact Nat.mod_eq_of_lt (by omega)
  show IntKind.u32.wrap ((BitVec.ofInt 32 (a : Int) ^^^ BitVec.ofInt 32 (b : Int)).toNat : Int) = _
  rw [BitVec.toNat_xor, h1, h2, wrap_u32']
  omega
@[go_sem] theorem uv_or (x y : U) : bits .or .u32 (uv x) (uv y) = uv (x ||| y) := by
  unfold uv; rw [bits_or_u32_nat _ _ x.isLt y.isLt]; simp
@[go_sem] theorem uv_xor (x y : U) : bits .xor .u32 (uv x) (uv y) = uv (x ^^^ y) := by
  unfold uv; rw [bits_xor_u32_nat _ _ x.isLt y.isLt]; simp
@[go_sem] theorem uv_and_1 (x : U) : bits .and .u32 (uv x) 1 = uv (x &&& 1#32) := by
  have : (1 : Int) = uv 1#32 := rfl
  rw [this, uv_and]
@[go_sem] theorem uv_beq (x y : U) : (uv x == uv y) = (x == y) := by
  rw [Bool.eq_iff_iff]; simp [uv_inj]
@[go_sem] theorem uv_beq0 (x : U) : (uv x == 0) = (x == 0#32) := by
  have : (0 : Int) = uv 0#32 := rfl
  rw [this, uv_beq]
@[go_sem] theorem uv_beq1 (x : U) : (uv x == 1) = (x == 1#32) := by
  have : (1 : Int) = uv 1#32 := rfl
  rw [this, uv_beq]
@[go_sem] theorem uv_neg (x : U) : -(uv x) % 4294967296 = uv (-x) := by
  unfold uv; have := x.isLt
  rw [BitVec.toNat_neg]; omega
@[go_sem] theorem uv_add (x y : U) : (uv x + uv y) % 4294967296 = uv (x + y) := by
  unfold uv; rw [BitVec.toNat_add]; omega
@[go_sem] theorem uv_div (x y : U) : uv x / uv y = uv (x / y) := by
  unfold uv; rw [BitVec.toNat_udiv]; simp
@[go_sem] theorem uv_tdiv (x y : U) : (uv x).tdiv (uv y) % 4294967296 = uv (x / y) := by
  have : (uv x).tdiv (uv y) = uv (x / y) := by unfold uv; rw [BitVec.toNat_udiv]; rfl
  rw [this]; have := uv_bound (x / y); omega
@[go_sem] theorem uv_shr2 (x : U) : uv x / (4 : Int) = uv (x >>> 2) := by
  unfold uv; rw [BitVec.toNat_ushiftRight, Nat.shiftRight_eq_div_pow]; simp
@[go_sem] theorem uv_shr (x : U) (n : Nat) : uv x / (2 : Int) ^ n = uv (x >>> n) := by
  unfold uv; rw [BitVec.toNat_ushiftRight, Nat.shiftRight_eq_div_pow]; simp
@[go_sem] theorem uv_shl1 (n : Nat) : 2 ^ n % 4294967296 = uv (1#32 <<< n) := by
  unfold uv; rw [BitVec.toNat_shiftLeft, Nat.shiftLeft_eq]; simp
@[go_sem] theorem uv_sub1 (x : U) : (uv x - 1) % 4294967296 = uv (x - 1#32) := by
  unfold uv; have := x.isLt
  rw [BitVec.toNat_sub]; simp; omega

/-- the next greater number with as many bits -/
def nxt (n : U) : U := (n + (n &&& -n)) ||| (((n ^^^ (n + (n &&& -n))) / (n &&& -n)) >>> 2)
theorem nxt_gt' : ∀ i j : Fin 64, i.val * 64 + j.val ≠ 0 → i.val * 64 + j.val < (nxt (BitVec.ofNat 32 (i.val * 64 + j.val))).toNat ∧ BitVec.ofNat 32 (i.val * 64 + j.val) &&& -BitVec.ofNat 32 (i.val * 64 + j.val) ≠ 0#32 := by decide +kernel
theorem nxt_gt {n : U} (h : n.toNat < 4096) (h0 : n ≠ 0#32) : n.toNat < (nxt n).toNat ∧ n &&& -n ≠ 0#32 := by
  have e : n.toNat / 64 * 64 + n.toNat % 64 = n.toNat := by omega
  have := nxt_gt' ⟨n.toNat / 64, by omega⟩ ⟨n.toNat % 64, by omega⟩
  simp only [e] at this
  have := this (fun e => h0 (BitVec.eq_of_toNat_eq (by simpa using e)))
  simpa using this
/-- the numbers from n on -/
def gosR (m : Nat) : Nat → U → List U
  | 0, _ => []
  | f + 1, n => if n.toNat < 2 ^ m then n :: (if n = 0#32 then [] else gosR m f (nxt n)) else []
theorem gosR_all : ∀ (m : Fin 13) (k : Fin 13), k.val ≤ m.val → (gosR m.val 4096 ((1#32 <<< k.val) - 1#32)).map BitVec.toNat = (List.range (2 ^ m.val)).filter (fun x => cnt (BitVec.ofNat 16 x) == k.val) := by decide +kernel
/-- the set of the members whose bits are set -/
def embG (n : U) : List Nat → Nat → S → S
  | [], _, out => out
  | x :: rest, i, out => embG n rest (i + 1) (if (n >>> i) &&& 1#32 = 1#32 then out ||| (1#16 <<< x) else out)
def emb (mem : List Nat) (n : U) : S := embG n mem 0 0#16
/-- the subsets with k members, as the program finds them -/
def chooseL (s : S) (k : Nat) : List S := (gosR (members s).length 4096 ((1#32 <<< k) - 1#32)).map (emb (members s))
end Go.Proofs.YtijknodekomdfaaGreatDoor
namespace Go.Proofs.YtijknodekomdfaaGreatDoor
open Go.RowKit Go.Lib Go.Shelf
attribute [local go_sem] Oper.semAt_some

theorem room_of_none {F : Fence} (hd : F.depth = none) (k : Nat) : F.room k := fun d h => by rw [hd] at h; cases h
theorem YieldAt.anyDepth {F : Fence} (hd : F.depth = none) {m : Nat} (m' : Nat) {P : Program} {l : Nat} {args : Array Value} {W : World} {R : Ending → World → Prop} (h : YieldAt F m P l args W R) : YieldAt F m' P l args W R := by
  obtain ⟨fn, tmps, assign, body, hy, hR⟩ := h
  exact ⟨fn, tmps, assign, body, hy, hR.1, fun c cs _ => hR.2 c cs (room_of_none hd _)⟩
/-- what a round keeps: all below a mark; all rows of ints; one more block -/
structure KpS (n₀ B : Nat) (W W' : World) : Prop where
  below : Below n₀ W W'
  ints : ∀ (k : Nat) (cs : Array Value), W.heap[k]? = some (.cells cs 3 (0, 0)) → W'.heap[k]? = W.heap[k]?
  box : ∀ o, W.heap[B]? = some o → W'.heap[B]? = some o
theorem KpS.of {n₀ B : Nat} {W W' : World} (h : Keeps W W') (hn : n₀ ≤ W.heap.size) : KpS n₀ B W W' :=
  ⟨h.below.mono hn, fun k _ hk => h.below.block k (Array.getElem?_eq_some_iff.1 hk).1, fun _ ho => (h.below.block B (Array.getElem?_eq_some_iff.1 ho).1).trans ho⟩
theorem KpS.refl (n₀ B : Nat) (W : World) : KpS n₀ B W W := ⟨Below.refl _ _, fun _ _ _ => rfl, fun _ h => h⟩
theorem KpS.trans {n₀ B : Nat} {X Y Z : World} (h : KpS n₀ B X Y) (k : KpS n₀ B Y Z) : KpS n₀ B X Z :=
  ⟨h.below.trans k.below, fun i cs hi => (k.ints i cs ((h.ints i cs hi).trans hi)).trans (h.ints i cs hi), fun o ho => k.box o (h.box o ho)⟩
theorem KpS.size {n₀ B : Nat} {W W' : World} (h : KpS n₀ B W W') : W.heap.size ≤ W'.heap.size := h.below.size
theorem KpS.own {n₀ B : Nat} {W W' : World} (h : KpS n₀ B W W') {b sz : Nat} {v : Value} {n : Nat} {xs : List Value} (ho : W.ownsRow b 3 sz v n xs) : W'.ownsRow b 3 sz v n xs := by
  refine ⟨ho.1, ?_⟩
  rcases ho.2 with h1 | ⟨g, cap, cur, rfl, hb, hg, r⟩
  · exact .inl h1
  · exact .inr ⟨g, cap, cur, rfl, hb, (h.ints g cur hg).trans hg, r⟩
theorem Tab.lt {w : World} (h : Tab w) : 0 < w.heap.size := World.block_lt_of_cell? w _ (h 0 (by decide))
theorem Tab.below {n₀ : Nat} {W W' : World} (h : Tab W) (k : Below n₀ W W') (hn : 0 < n₀) : Tab W' := fun i hi => (k.cell (p := ⟨0, i, none⟩) hn).trans (h i hi)

theorem uv_lt (x : U) (n : Nat) (h : n ≤ 12) : decide (uv x < uv (1#32 <<< n)) = decide (x.toNat < 2 ^ n) := by
  have : uv (1#32 <<< n) = ((2 ^ n : Nat) : Int) := by
    unfold uv; rw [BitVec.toNat_shiftLeft, Nat.shiftLeft_eq]
    have : 2 ^ n ≤ 2 ^ 12 := Nat.pow_le_pow_right (by decide) h
    have e : 1 * 2 ^ n % 2 ^ 32 = 2 ^ n := by rw [Nat.one_mul]; exact Nat.mod_eq_of_lt (by omega)
    exact congrArg (Nat.cast (R := Int)) e
  rw [this]; unfold uv
  rw [decide_eq_decide]
  exact Int.ofNat_lt

set_option maxRecDepth 100000 in
set_option maxHeartbeats 2000000 in
theorem choose_in (n l n₀ B N : Nat) (s : S) (k : Nat) (hs : small s) (hkm : k ≤ (members s).length) (J Jx : List S → World → Prop)
    (hJ : ∀ p A B, J p A → Keeps A B → J p B)
    (hY : ∀ m p x W, J p W → p.length < N → YieldAt Fence.wide m Tryz.prog l #[vs x] W fun e W' =>
      (e = .returned (.bool true) ∧ J (p ++ [x]) W' ∧ KpS n₀ B W W') ∨ (e = .returned (.bool false) ∧ Jx (p ++ [x]) W'))
    (pre : List S) (W : World) (hT : Tab W) (hn : n₀ ≤ W.heap.size) (h0 : J pre W) (hN : pre.length + (chooseL s k).length ≤ N) :
    CallsIn Fence.wide n Tryz.prog 163 #[.int .u16 (sv s), .int .i64 k, .func (.yield l) #[] #[]] W fun e W' =>
      (e = .returned (.bool true) ∧ J (pre ++ chooseL s k) W' ∧ KpS n₀ B W W') ∨ (e = .returned (.bool false) ∧ ∃ q, q <+: chooseL s k ∧ Jx (pre ++ q) W') := by
  have hdd : ∀ j : Nat, (Fence.wide.depth.isSome = true → 1 ≤ j) := fun j h => by cases h
  have hm := members_any s W hT hs
  have hml := members_len s
  have hmb := members_lt s
  generalize hmem : members s = mem at *
  have hch : chooseL s k = (gosR mem.length 4096 ((1#32 <<< k) - 1#32)).map (emb mem) := by unfold chooseL; rw [hmem]
  have hk1 : ((k : Int) < 0) = False := by simp
  have hk2 : ((mem.length : Int) < k) = False := by simp; omega
  have HM := Lib.hid hm; have HCH := Lib.hid hch; have HY := Lib.hid hY; have HJ := Lib.hid hJ; have H0 := Lib.hid h0; have HN := Lib.hid hN; have HS := Lib.hid hs; have HE := Lib.hid hmem; have HMB := Lib.hid hmb
  clear hmb hm hch hY hJ h0 hN hs hmem hT
  refine callsIn_of_wp Tryz.func163 rfl trivial ?_ rfl
  simp only [Tryz.ntmps163, List.size_toArray, List.length_cons, List.length_nil, Nat.reduceAdd, Nat.reduceSub, Array.replicate_succ, Array.replicate_zero, List.push_toArray, List.append_toArray, List.nil_append, List.cons_append]
  gi_wp2
  refine ⟨trivial, hdd _, ?_⟩
  refine (callsIn_wide.2 HM.out).mono ?_
  rintro e w1 ⟨v1, rfl, hO⟩
  obtain ⟨a1, c1, rfl, hR⟩ := hO.rd
  have hcc := hR.nc
  gi_wp2
  simp only [uv_shl1, uv_sub1]
  gi_loopw [8] (fun u wr => ∃ (q : List S) (nn : U) (f : Nat), u = .int .u32 (uv nn) ∧ Hid (4096 ≤ nn.toNat + f) ∧ Hid (J (pre ++ q) wr) ∧ KpS n₀ B w1 wr ∧ Hid (chooseL s k = q ++ (gosR mem.length f nn).map (emb mem))) (fun u _ => 4096 - (intOf u).toNat)
  case atStart =>
    refine ⟨[], (1#32 <<< k) - 1#32, 4096, rfl, ?_, ?_, KpS.refl _ _ _, ?_⟩
    · show 4096 ≤ _ + 4096; omega
    · rw [List.append_nil]; exact HJ.out _ _ _ H0.out hO.2
    · rw [List.nil_append]; exact HCH
  case round =>
    obtain ⟨q, nn, f, rfl, hf, hj, hkp, hch⟩ := hrel
    rename World => w2
    have hRr : Rd w2 a1 mem.length c1 1 (il mem) := by
      obtain ⟨a', c', he, hr⟩ := own_rd (hkp.own hO.1)
      cases he
      exact hr
    have hcmp := uv_lt nn mem.length hml
    have hpw : 2 ^ mem.length ≤ 2 ^ 12 := Nat.pow_le_pow_right (by decide) hml
    by_cases hlt : nn.toNat < 2 ^ mem.length
    · rw [decide_eq_true hlt] at hcmp
      obtain ⟨f, rfl⟩ : ∃ g, f = g + 1 := ⟨f - 1, by have : 4096 ≤ nn.toNat + f := hf; omega⟩
      have hch2 : chooseL s k = q ++ emb mem nn :: (if nn = 0#32 then [] else gosR mem.length f (nxt nn)).map (emb mem) := by
        have := hch.out
        rw [gosR, if_pos hlt, List.map_cons] at this
        exact this
      have hlen : (pre ++ q).length < N := by
        have h1 := HN.out
        rw [hch2] at h1
        simp only [List.length_append, List.length_cons] at h1 ⊢
        omega
      have HC2 := Lib.hid hch2; have HLN := Lib.hid hlen; have HP := Lib.hid hpw; have HL := Lib.hid hlt
      clear hch hch2 hlen hpw hlt
      gi_wp2
      gi_loopw [9, 34] (fun u v wx => ∃ (i : Nat) (acc : S), i ≤ mem.length ∧ v = .int .i64 i ∧ u = .int .u16 (sv acc) ∧ Keeps w2 wx ∧ Hid (emb mem nn = embG nn (mem.drop i) i acc)) (fun _ v _ => mem.length - (intOf v).toNat)
      case atStart => exact ⟨0, 0#16, Nat.zero_le _, rfl, rfl, Keeps.refl _, rfl⟩
      case round =>
        obtain ⟨i, acc, hi, rfl, rfl, hk, hacc⟩ := hrel
        by_cases hil : i < mem.length
        · have hcell := (hRr.keep hk).cell i _ (il_at mem i hil)
          have hacc2 : Hid (emb mem nn = embG nn (mem.drop (i + 1)) (i + 1) (if (nn >>> i) &&& 1#32 = 1#32 then acc ||| (1#16 <<< im mem i) else acc)) := by
            have := hacc.out
            rw [drop_im mem i hil] at this
            exact this
          have hs1 := (hRr.keep hk).isSome (by omega)
          have hmin : min (im mem i) 16 = im mem i := by have := HMB.out i; omega
          clear hacc
          by_cases hbit : (nn >>> i) &&& 1#32 = 1#32
          · rw [if_pos hbit] at hacc2
            have hb : ((nn >>> i) &&& 1#32 == 1#32) = true := by simpa using hbit
            clear hbit
            gi_wp2
            go_roundw
            case rel => exact ⟨i + 1, _, by omega, rfl, rfl, hk, hacc2⟩
            case measure => simp [intOf]; omega
          · rw [if_neg hbit] at hacc2
            have hb : ((nn >>> i) &&& 1#32 == 1#32) = false := by simpa using hbit
            clear hbit
            gi_wp2
            go_roundw
            case rel => exact ⟨i + 1, _, by omega, rfl, rfl, hk, hacc2⟩
            case measure => simp [intOf]; omega
        · obtain rfl : i = mem.length := by omega
          have he : emb mem nn = acc := by have := hacc.out; simpa [embG] using this
          obtain ⟨fn, tmps, assign, body, hy, hRo⟩ := HY.out (n - 1) (pre ++ q) acc wr (HJ.out _ _ _ hj.out hk) HLN.out
          rw [he] at HC2
          dsimp only [vs] at hy
          clear he hacc hil
          gi_wp2
          refine ⟨hdd _, ?_⟩
          refine hRo.mono ?_
          rintro e w3 (⟨rfl, hJ3, hK3⟩ | ⟨rfl, hJx3⟩)
          · have hK4 : KpS n₀ B w1 w3 := (hkp.trans (KpS.of hk (Nat.le_trans hn (Nat.le_trans hO.2.size hkp.size)))).trans hK3
            have hJ4 : Hid (J (pre ++ (q ++ [acc])) w3) := by show J _ w3; rw [← List.append_assoc]; exact hJ3
            have hlt4 : nn.toNat < 4096 := Nat.lt_of_lt_of_le HL.out HP.out
            clear hJ3 hRo hy
            by_cases h0 : nn = 0#32
            · have hb : (nn == 0#32) = true := by simpa using h0
              have HC3 : Hid (chooseL s k = q ++ [acc]) := by have := HC2.out; rw [if_pos h0] at this; exact this
              clear h0 HC2
              gi_wp2
              go_ret
              left
              rw [HC3.out]
              exact ⟨rfl, hJ4.out, (KpS.of hO.2 hn).trans hK4⟩
            · have hb : (nn == 0#32) = false := by simpa using h0
              obtain ⟨hgt, hlow⟩ := nxt_gt hlt4 h0
              have hlb : (nn &&& -nn == 0#32) = false := by simpa using hlow
              have hlc : (uv (nn &&& -nn) = 0) = False := by have e : (0 : Int) = uv 0#32 := rfl; rw [e, uv_inj]; simpa using hlow
              have HC3 : Hid (chooseL s k = (q ++ [acc]) ++ (gosR mem.length f (nxt nn)).map (emb mem)) := by have := HC2.out; rw [if_neg h0] at this; show chooseL s k = _; rw [this]; simp
              have HF : Hid (4096 ≤ (nxt nn).toNat + f) := by have h1 : 4096 ≤ nn.toNat + (f + 1) := hf; show 4096 ≤ _; omega
              have HG : Hid (4096 - (uv (nxt nn)).toNat < 4096 - (uv nn).toNat) := by show 4096 - (uv (nxt nn)).toNat < 4096 - (uv nn).toNat; unfold uv; rw [Int.toNat_natCast, Int.toNat_natCast]; omega
              clear h0 HC2 hf hgt hlow hlt4
              gi_wp2
              go_roundw
              case rel => exact ⟨q ++ [acc], nxt nn, f, rfl, HF, hJ4, hK4, HC3⟩
              case measure => exact HG.out
          · have HC3 : q ++ [acc] <+: chooseL s k := by rw [HC2.out]; simp
            have HX := Lib.hid hJx3
            have HC4 := Lib.hid HC3
            clear HC3 hJx3 HC2 hRo hy
            gi_wp2
            go_ret
            right
            exact ⟨rfl, q ++ [acc], HC4.out, by rw [← List.append_assoc]; exact HX.out⟩
    · rw [decide_eq_false hlt] at hcmp
      have hch2 : chooseL s k = q := by
        have := hch.out
        cases f with
        | zero => simpa [gosR] using this
        | succ f => rw [gosR, if_neg hlt] at this; simpa using this
      have HC2 := Lib.hid hch2
      clear hch hch2 hpw hlt
      gi_wp2
      go_ret
      left
      rw [HC2.out]
      exact ⟨rfl, hj.out, (KpS.of hO.2 hn).trans hkp⟩

theorem members_cnt' : ∀ i j : Fin 64, (members (BitVec.ofNat 16 (i.val * 64 + j.val))).length = cnt (BitVec.ofNat 16 (i.val * 64 + j.val)) := by decide +kernel
theorem members_cnt {x : S} (h : small x) : (members x).length = cnt x := by
  have hs : x.toNat < 4096 := h
  have e : x.toNat / 64 * 64 + x.toNat % 64 = x.toNat := by omega
  have := members_cnt' ⟨x.toNat / 64, by omega⟩ ⟨x.toNat % 64, by omega⟩
  simp only [e] at this
  simpa using this
/-- the subsets with fewer than k members, as the program finds them -/
def subsTo (s : S) : Nat → List S
  | 0 => []
  | k + 1 => subsTo s k ++ chooseL s k
def subsetsL (s : S) : List S := subsTo s (cnt s + 1)
theorem subsTo_prefix (s : S) {i j : Nat} (h : i ≤ j) : subsTo s i <+: subsTo s j := by
  induction j with
  | zero =>
    have : i = 0 := by omega
    subst this
    exact List.prefix_refl _
  | succ j ih =>
    rcases Nat.lt_or_ge i (j + 1) with h1 | h1
    · exact (ih (by omega)).trans (List.prefix_append _ _)
    · obtain rfl : i = j + 1 := by omega
      exact List.prefix_refl _

set_option maxRecDepth 100000 in
set_option maxHeartbeats 2000000 in
theorem subsets1_in (n l n₀ B : Nat) (s : S) (hs : small s) (J Jx : List S → World → Prop)
    (hJ : ∀ p A B, J p A → Keeps A B → J p B)
    (hY : ∀ m p x W, J p W → p.length < (subsetsL s).length → YieldAt Fence.wide m Tryz.prog l #[vs x] W fun e W' =>
      (e = .returned (.bool true) ∧ J (p ++ [x]) W' ∧ KpS n₀ B W W') ∨ (e = .returned (.bool false) ∧ Jx (p ++ [x]) W'))
    (W : World) (hT : Tab W) (hg0 : 0 < n₀) (hn : n₀ ≤ W.heap.size) (hB : Boxed W B 31 (.int .u16 (sv s))) (h0 : J [] W) :
    CallsIn Fence.wide n Tryz.prog 164 #[.func (.yield l) #[] #[], .pointer (some ⟨B, 0, none⟩)] W fun e W' => (∃ v, e = .returned v) ∧
      ((∃ ys, ys = subsetsL s ∧ J ys W') ∨ (∃ pre, pre <+: subsetsL s ∧ Jx pre W')) := by
  have hdd : ∀ j : Nat, (Fence.wide.depth.isSome = true → 1 ≤ j) := fun j h => by cases h
  have hcnt := members_cnt hs
  have hc16 := cnt_le s
  have hch := fun k (hk : k ≤ cnt s) pre w1 (k1 : KpS n₀ B W w1) (hj : J pre w1) (hl : pre.length + (chooseL s k).length ≤ (subsetsL s).length) =>
    choose_in (n - 1) l n₀ B (subsetsL s).length s k hs (by omega) J Jx hJ hY pre w1 (hT.below k1.below hg0) (Nat.le_trans hn k1.size) hj hl
  have hcc := fun w1 => count_any s w1
  have HCH := Lib.hid hch; have HCC := Lib.hid hcc; have H0 := Lib.hid h0; have HJ := Lib.hid hJ; have HB := Lib.hid hB
  clear hch hcc h0 hY hJ hT hcnt hB
  generalize hcn : cnt s = c at *
  have HCN := Lib.hid hcn; clear hcn
  refine callsIn_of_wp Tryz.func164 rfl trivial ?_ rfl
  simp only [Tryz.ntmps164, List.size_toArray, List.length_cons, List.length_nil, Nat.reduceAdd, Nat.reduceSub, Array.replicate_succ, Array.replicate_zero, List.push_toArray, List.append_toArray, List.nil_append, List.cons_append]
  gi_wp2
  gi_loopw [3] (fun u wr => ∃ (k : Nat), k ≤ c + 1 ∧ u = .int .i64 k ∧ Hid (J (subsTo s k) wr) ∧ KpS n₀ B W wr) (fun u _ => 17 - (intOf u).toNat)
  case atStart => exact ⟨0, by omega, rfl, H0, KpS.refl _ _ _⟩
  case round =>
    obtain ⟨k, hk, rfl, hj, hkp⟩ := hrel
    have hb : Boxed wr B 31 (.int .u16 (sv s)) := hkp.box _ HB.out
    have hc := hb.cell
    have hsz := hkp.size
    by_cases hle : k ≤ c
    · have hle' : (k : Int) ≤ c := by omega
      gi_wp2
      refine ⟨trivial, hdd _, ?_⟩
      refine (callsIn_wide.2 (HCC.out _)).mono ?_
      rintro e w1 ⟨rfl, nd, rfl⟩
      have hKd : Keeps wr (wr.drewN nd) := (Keeps.refl wr).drewN nd
      have hlen : (subsTo s k).length + (chooseL s k).length ≤ (subsetsL s).length := by
        have h1 := (subsTo_prefix s (show k + 1 ≤ c + 1 by omega)).length_le
        have h2 := HCN.out
        unfold subsetsL
        rw [h2]
        simpa [subsTo] using h1
      have hcon := HCH.out k hle (subsTo s k) (wr.drewN nd) (hkp.trans (KpS.of hKd (Nat.le_trans hn hsz))) (HJ.out _ _ _ hj.out hKd) hlen
      have HCON := Lib.hid hcon; clear hcon hlen
      gi_wp2
      refine ⟨trivial, hdd _, ?_⟩
      refine HCON.out.mono ?_
      clear HCON
      rintro e w2 (⟨rfl, hJ2, hK2⟩ | ⟨rfl, q, hq, hx⟩)
      · have hK3 : KpS n₀ B W w2 := (hkp.trans (KpS.of hKd (Nat.le_trans hn hsz))).trans hK2
        have hJ3 : Hid (J (subsTo s (k + 1)) w2) := hJ2
        clear hJ2 hj
        gi_wp2
        go_roundw
        case rel => exact ⟨k + 1, by omega, rfl, hJ3, hK3⟩
        case measure => simp [intOf]; omega
      · have hX := Lib.hid hx
        have hq2 : subsTo s k ++ q <+: subsetsL s := by
          have h1 := subsTo_prefix s (show k + 1 ≤ c + 1 by omega)
          have h2 := HCN.out
          unfold subsetsL
          rw [h2]
          refine List.IsPrefix.trans ?_ h1
          obtain ⟨r, hr⟩ := hq
          exact ⟨r, by simp [subsTo, ← hr]⟩
        have HQ := Lib.hid hq2
        clear hx hq hq2 hj
        gi_wp2
        go_end0
        exact ⟨⟨_, rfl⟩, .inr ⟨_, HQ.out, hX.out⟩⟩
    · have hle' : ¬ (k : Int) ≤ c := by omega
      obtain rfl : k = c + 1 := by omega
      have hj2 : Hid (J (subsetsL s) wr) := by show J (subsetsL s) wr; unfold subsetsL; rw [HCN.out]; exact hj.out
      gi_wp2
      refine ⟨trivial, hdd _, ?_⟩
      refine (callsIn_wide.2 (HCC.out _)).mono ?_
      rintro e w1 ⟨rfl, nd, rfl⟩
      have hKd : Keeps wr (wr.drewN nd) := (Keeps.refl wr).drewN nd
      gi_wp2
      refine ⟨trivial, ?_⟩
      gi_wp2
      go_end0
      exact ⟨⟨_, rfl⟩, .inl ⟨_, rfl, HJ.out _ _ _ hj2.out hKd⟩⟩

/-- what set.Subsets hands back is an iterator over all subsets -/
theorem subsets_stops (n n₀ B : Nat) (s : S) (hs : small s) (w : World) (hT : Tab w) (hg0 : 0 < n₀) (hn : n₀ ≤ w.heap.size) (hB : Boxed w B 31 (.int .u16 (sv s))) :
    SeqStopsK Fence.wide n Tryz.prog 164 #[.pointer (some ⟨B, 0, none⟩)] (fun x : S => #[vs x]) (KpS n₀ B) (fun ys => ys = subsetsL s) (fun pre => pre <+: subsetsL s) (subsetsL s).length w := fun l J Jx W hW hJ _ hY h0 =>
  subsets1_in n l n₀ B s hs J Jx
    (fun p A B' hp k => hJ p A B' none hp ⟨k.below.os, k.below.tape, k.below.output, k.below.size, fun i hi _ => k.below.block i hi⟩ (fun r e => by cases e))
    (fun m p x W1 hj hl => YieldAt.anyDepth rfl m (hY p x W1 hj hl)) W (hT.keep hW) hg0 (Nat.le_trans hn hW.size)
    ((hW.block B hB.lt).trans hB) h0
/-- set.Subsets: the parameter is boxed; the function value captures the box -/
theorem subsets_any (s : S) (w : World) : Calls Tryz.prog 100 #[.int .u16 (sv s)] w fun e w' => e = .returned (.func (.func 164) #[] #[.pointer (some ⟨w.heap.size, 0, none⟩)]) ∧ w' = w.alloc (.cells #[.int .u16 (sv s)] 31) := by
  go_enter Tryz.func100, Tryz.ntmps100
  go_wp2
  go_ret
  exact ⟨rfl, rfl⟩
end Go.Proofs.YtijknodekomdfaaGreatDoor
namespace Go.Proofs.YtijknodekomdfaaGreatDoor
open Go.RowKit Go.Lib Go.Shelf

/-- a set meets all sets of a list -/
def hitS (f : List S) (s : S) : Bool := !(f.any fun x => x &&& s == 0#16)

end Go.Proofs.YtijknodekomdfaaGreatDoor
namespace Go.Proofs.YtijknodekomdfaaGreatDoor
open Go.RowKit Go.Lib Go.Shelf
attribute [local go_sem] Oper.semAt_some

theorem keepsFrom {W W' : World} (h : Keeps W W') (B : Nat) : KeepsFrom B W W' :=
  ⟨h.size, fun k _ _ hk _ => (h.below.block k (Array.getElem?_eq_some_iff.1 hk).1).trans hk⟩
theorem boxedKeep {W W' : World} {B : Nat} {t : TypeId} {v : Value} (h : Boxed W B t v) (k : Keeps W W') : Boxed W' B t v := (k.below.block B h.lt).trans h
theorem boxedOwn {β : Type} (B : Nat) (t : TypeId) (v : Value) : Go.Own (fun (_ : β) W => Boxed W B t v) := by
  rintro s X Y row hv hg hrow
  refine hv.kept hg (fun e' => ?_)
  obtain ⟨o, ho, hc⟩ := hrow B e'.symm
  rw [show X.heap[B]? = _ from hv] at ho; cases ho; cases hc
theorem boxK {X Y : World} {B b : Nat} {t : TypeId} {v : Value} {row : Option Nat} (hv : Boxed X B t v) (hg : X.grownBy Y row) (hr : ∀ r, row = some r → b ≤ r ∧ ∃ o : Obj, X.heap[r]? = some o ∧ o.isCells = false) : Boxed Y B t v :=
  boxedOwn (β := Unit) B t v () X Y row hv hg (fun r e => (hr r e).2)
theorem belK {w X Y : World} {b : Nat} {row : Option Nat} (hv : Below w.heap.size w X) (hb : w.heap.size ≤ b) (hg : X.grownBy Y row) (hr : ∀ r, row = some r → b ≤ r ∧ ∃ o : Obj, X.heap[r]? = some o ∧ o.isCells = false) : Below w.heap.size w Y :=
  hv.grown hg hv.size (fun k e => Nat.le_trans hb (hr k e).1)
theorem kpS_b {n₀ B : Nat} {w : World} (hn : n₀ ≤ w.heap.size) (hB : B < w.heap.size) (W : World) (l : Nat) (o o' : Obj) (hl : w.heap.size ≤ l) (h : W.heap[l]? = some o) (hc : o.isCells = false) (_ : o.isWalk = false) : KpS n₀ B W (W.putObj l o') := by
  refine ⟨(Below.refl n₀ W).grown (grownBy_putObj' W l o') (by have := (Array.getElem?_eq_some_iff.1 h).1; omega) (fun k e => by cases e; omega), fun k cs hk => ?_, fun o2 h2 => ?_⟩
  · refine World.putObj_heap_other (fun e => ?_)
    subst e
    rw [h] at hk; cases hk; cases hc
  · exact (World.putObj_heap_other (by omega)).trans h2
end Go.Proofs.YtijknodekomdfaaGreatDoor
namespace Go.Proofs.YtijknodekomdfaaGreatDoor
open Go.RowKit Go.Lib Go.Shelf
attribute [local go_sem] Oper.semAt_some

/-- one step of Dual's loop -/
def dualStep (f : List S) (acc : List S) (s : S) : List S := if !accS acc s && hitS f s then acc ++ [s] else acc
def dualP (f : List S) (l : List S) : List S := l.foldl (dualStep f) []
theorem kpApp {W w1 : World} {n₀ Bo Bs b : Nat} {v v0 v' : Value} {k : Nat} {xs : List Value} {tmp : Obj} (hv : Boxed W Bo 25 v0) (hrow : W.ownsRow b 31 1 v k xs) (hb : Bs < b) (hne : Bs ≠ Bo)
    (hgrow : (W.alloc tmp).grownBy w1 v.ownBlock) (hbel : Below n₀ W (w1.setCell ⟨Bo, 0, none⟩ v')) : KpS n₀ Bs W (w1.setCell ⟨Bo, 0, none⟩ v') := by
  have same : ∀ i o, W.heap[i]? = some o → i ≠ Bo → some i ≠ v.ownBlock → (w1.setCell ⟨Bo, 0, none⟩ v').heap[i]? = W.heap[i]? := fun i o ho h1 h2 => by
    have hi := (Array.getElem?_eq_some_iff.1 ho).1
    rw [Below.heap_setCell _ _ _ _ h1, hgrow.block i (by simp; omega) h2, Below.heap_alloc _ _ _ hi]
  refine ⟨hbel, fun i cs hi => same i _ hi ?_ ?_, fun o ho => (same Bs o ho hne ?_).trans ho⟩
  · rintro rfl
    rw [show W.heap[i]? = _ from hv] at hi; cases hi
  · rcases hrow.2 with ⟨rfl, _⟩ | ⟨g, cap, cur, rfl, _, hgb, _⟩
    · simp [Value.ownBlock]
    · intro e'
      obtain rfl : i = g := by simpa [Value.ownBlock] using e'
      rw [hgb] at hi; cases hi
  · rcases hrow.2 with ⟨rfl, _⟩ | ⟨g, cap, cur, rfl, hg, hgb, _⟩
    · simp [Value.ownBlock]
    · intro e'
      obtain rfl : Bs = g := by simpa [Value.ownBlock] using e'
      omega
theorem ownWeak {W : World} {b b' : Nat} {e : TypeId} {sz k : Nat} {v : Value} {xs : List Value} (h : W.ownsRow b e sz v k xs) (hb : b' ≤ b) : W.ownsRow b' e sz v k xs :=
  ⟨h.1, h.2.elim .inl (fun ⟨g, cap, cur, e1, e2, e3⟩ => .inr ⟨g, cap, cur, e1, Nat.le_trans hb e2, e3⟩)⟩
end Go.Proofs.YtijknodekomdfaaGreatDoor
