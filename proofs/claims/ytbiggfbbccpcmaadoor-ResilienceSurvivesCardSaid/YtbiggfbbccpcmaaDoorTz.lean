/- bits.TrailingZeros16, set.Members: the members of a set, ascending. -/
import Derived.Test.YtbiggfbbccpcmaaDoorCount
import Derived.Test.YtbiggfbbccpcmaaDoorSliceS
namespace Go.Proofs.YtbiggfbbccpcmaaDoor
open Go.RowKit Go.Lib

/-- the table of bits.TrailingZeros32 -/
def tab : List Nat := [0, 1, 28, 2, 29, 14, 24, 3, 30, 22, 20, 15, 25, 17, 4, 8, 31, 27, 13, 23, 21, 19, 16, 7, 26, 12, 18, 6, 11, 5, 10, 9]
def Tab (w : World) : Prop := ∀ i, i < 32 → w.cell? ⟨0, i, none⟩ = some (.int .u8 ((tab.getD i 0 : Nat) : Int))
theorem Tab.keep {w w' : World} (h : Tab w) (k : Keeps w w') : Tab w' := fun i hi => k.cell (h i hi)
def dbi (y : S) : Nat := y.toNat * 125613361 % 4294967296 / 134217728
theorem dbi_lt (y : S) : dbi y < 32 := by unfold dbi; omega
@[go_sem] theorem sv_neg (x : S) : IntKind.u16.wrap (-(sv x)) = sv (-x) := by
  rw [IntKind.wrap_u16]; unfold sv
  have := x.isLt
  rw [BitVec.toNat_neg]; omega
/-- the least member -/
def tzS (x : S) : Nat := tab.getD (dbi (x &&& -x)) 0

theorem tzS_def (x : S) : ((tab.getD (dbi (x &&& -x)) 0 : Nat) : Int) = (tzS x : Int) := by unfold tzS; rfl
theorem tab_lt : ∀ i, i < 32 → tab.getD i 0 < 32 := by decide
theorem tzS_lt (x : S) : tzS x < 32 := by unfold tzS; exact tab_lt _ (dbi_lt _)
theorem dbi_eq (y : S) : sv y % 4294967296 * 125613361 % 4294967296 / 134217728 = (dbi y : Int) := by
  have hy := y.isLt
  unfold dbi sv
  generalize y.toNat = n at *
  omega
theorem wrap64_small (n : Nat) (h : n < 32) : wrap64 (n : Int) = n := by unfold wrap64; omega

theorem tz_core (x : S) (k idx : Nat) (w : World) (hx0 : (sv x == 0) = false)
    (key : bits BinOp.and IntKind.u16 (sv x) (IntKind.u16.wrap (-(sv x))) % 4294967296 * 125613361 % 4294967296 / 134217728 = (idx : Int))
    (hi : idx < 32) (hk : k < 32) (hcell : w.cell? ⟨0, idx, none⟩ = some (.int .u8 k)) :
    Calls Tryd.prog 85 #[.int .u16 (sv x)] w fun e w' => e = .returned (.int .i64 k) ∧ w = w' := by
  generalize sv x = n at *
  go_enter Tryd.func85, Tryd.ntmps85
  go_wp2_with (simp only [key])
  go_ret
  exact ⟨rfl, rfl⟩
theorem tz_any (x : S) (w : World) (hT : Tab w) (hx : x ≠ 0#16) : Calls Tryd.prog 85 #[.int .u16 (sv x)] w fun e w' => e = .returned (.int .i64 (tzS x)) ∧ w = w' := by
  have hb : (sv x == 0) = false := by rw [sv_beq0]; simpa using hx
  have hc := hT (dbi (x &&& -x)) (dbi_lt _)
  rw [tzS_def] at hc
  exact tz_core x _ _ w hb (by rw [sv_neg, sv_and]; exact dbi_eq _) (dbi_lt _) (tzS_lt x) hc

/-- a list of numbers as cells -/
def il (l : List Nat) : List Value := l.map fun (n : Nat) => .int .i64 (n : Int)
theorem il_snoc (l : List Nat) (x : Nat) : il (l ++ [x]) = il l ++ [.int .i64 (x : Int)] := by simp [il]
def im (l : List Nat) (i : Nat) : Nat := l.getD i 0
theorem il_at (l : List Nat) (i : Nat) (h : i < l.length) : (il l)[i]? = some (.int .i64 ((im l i : Nat) : Int)) := by simp [il, im, h, List.getD]
theorem drop_im (l : List Nat) (i : Nat) (h : i < l.length) : l.drop i = im l i :: l.drop (i + 1) := by
  rw [List.drop_eq_getElem_cons h]; simp [im, List.getD, h]
theorem length_il (l : List Nat) : (il l).length = l.length := by simp [il]
theorem il_oneCell (l : List Nat) : ∀ u ∈ il l, u.oneCell' = true := by
  intro u hu
  obtain ⟨_, _, rfl⟩ := List.mem_map.1 hu
  rfl
theorem infoI : (Tryd.prog.info? 3).map (fun i => (i.zero, i.size, i.bytes)) = some (some (.int .i64 0), 1, 8) := by kernel_rfl
theorem tyI : STy Tryd.prog 77 3 1 8 := STy.of Tryd.underlying77 infoI rfl (by decide) (by decide)

/-- the members, ascending -/
def members (x : S) : List Nat := (List.range 12).filter fun i => x.toNat.testBit i
theorem members_step' : ∀ (i j : Fin 64), i.val * 64 + j.val ≠ 0 → members (BitVec.ofNat 16 (i.val * 64 + j.val)) = tzS (BitVec.ofNat 16 (i.val * 64 + j.val)) :: members (BitVec.ofNat 16 (i.val * 64 + j.val) &&& (BitVec.ofNat 16 (i.val * 64 + j.val) - 1#16)) ∧ (BitVec.ofNat 16 (i.val * 64 + j.val) &&& (BitVec.ofNat 16 (i.val * 64 + j.val) - 1#16)).toNat < i.val * 64 + j.val := by decide +kernel
def small (x : S) : Prop := x.toNat < 4096
theorem members_step {x : S} (h : small x) (h0 : x ≠ 0#16) : members x = tzS x :: members (x &&& (x - 1#16)) ∧ (x &&& (x - 1#16)).toNat < x.toNat := by
  have hs : x.toNat < 4096 := h
  have e : x.toNat / 64 * 64 + x.toNat % 64 = x.toNat := by omega
  have := members_step' ⟨x.toNat / 64, by omega⟩ ⟨x.toNat % 64, by omega⟩
  simp only [e] at this
  have := this (fun e => h0 (BitVec.eq_of_toNat_eq (by simpa using e)))
  simpa using this
theorem members_zero : members 0#16 = [] := by decide
theorem members_len (x : S) : (members x).length ≤ 12 := Nat.le_trans (List.length_filter_le _ _) (by simp)

theorem members_lt (x : S) (i : Nat) : im (members x) i < 16 := by
  unfold im
  rw [List.getD_eq_getElem?_getD]
  cases h : (members x)[i]? with
  | none => simp
  | some v =>
    have := List.mem_of_getElem? h
    simp only [members, List.mem_filter, List.mem_range] at this
    simp; omega

theorem members_any (s : S) (w : World) (hT : Tab w) (hs : small s) : Calls Tryd.prog 78 #[.int .u16 (sv s)] w fun e w' => ∃ v, e = .returned v ∧ Own 3 1 w w' v (members s).length (il (members s)) := by
  have hz := fun w' (k : Keeps w w') x (hx : x ≠ 0#16) => tz_any x w' (hT.keep k) hx
  have HZ := Lib.hid hz; clear hz hT
  have HS := Lib.hid hs; clear hs
  go_enter Tryd.func78, Tryd.ntmps78
  go_wp2
  go_loopw [0, 3] (fun u v wr => ∃ (x : S) (acc : List Nat), u = .int .u16 (sv x) ∧ Hid (small x) ∧ Own 3 1 w wr v acc.length (il acc) ∧ Hid (members s = acc ++ members x)) (fun u _ _ => (intOf u).toNat)
  case atStart => exact ⟨s, [], rfl, HS, Own.nil _ _ (Keeps.refl _), hrfl (by simp)⟩
  case round =>
    obtain ⟨x, acc, rfl, hx, hA, HI⟩ := hrel
    by_cases h0 : x = 0#16
    · have hb : (x != 0#16) = false := by simpa using h0
      have HI2 : Hid (members s = acc) := by have := HI.out; rw [h0, members_zero, List.append_nil] at this; exact this
      clear h0 HI
      go_wp2
      go_ret
      rw [HI2.out]
      exact ⟨_, rfl, hA⟩
    · have hb : (x != 0#16) = true := by simpa using h0
      obtain ⟨h1, h2⟩ := members_step hx.out h0
      have hl := members_len s
      rw [HI.out, h1] at hl
      simp only [List.length_append, List.length_cons] at hl
      have HN : Hid (acc.length + 1 ≤ 10000000) := by show acc.length + 1 ≤ 10000000; omega
      have HX : Hid (small (x &&& (x - 1#16))) := by have h4 : x.toNat < 4096 := hx.out; show _ < 4096; omega
      have HJ : Hid (members s = (acc ++ [tzS x]) ++ members (x &&& (x - 1#16))) := hrfl (by have := HI.out; rw [h1] at this; simpa using this)
      have H0 := Lib.hid h0
      have H2 : Hid ((sv (x &&& (x - 1#16))).toNat < (sv x).toNat) := by unfold sv; rw [Int.toNat_natCast, Int.toNat_natCast]; exact h2
      clear h0 h1 h2 hl HI
      go_wp2_with (first | (go_at_call 85; refine (HZ.out _ hA.2 _ H0.out).mono ?_; rintro e w' ⟨rfl, rfl⟩) | (at_builtin; refine wp_app tyI rfl _ _ rfl (hA.alloc _) rfl rfl (rd_new _ 1 _ [.int .i64 (tzS x)] 1 (by decide) rfl) (il_oneCell [tzS x]) HN.out ?_))
      intro v' w' hO hgr
      obtain ⟨a', c', rfl, hR⟩ := hO.rd
      have hN : acc.length + 1 = (acc ++ [tzS x]).length := by simp
      rw [← il_snoc, hN] at hO
      have HO := Lib.hid hO
      clear hN hO hgr hR
      go_wp2
      go_roundw
      case rel => exact ⟨_, _, rfl, HX, by simpa using HO.out, HJ⟩
      case measure => exact H2.out
end Go.Proofs.YtbiggfbbccpcmaaDoor
