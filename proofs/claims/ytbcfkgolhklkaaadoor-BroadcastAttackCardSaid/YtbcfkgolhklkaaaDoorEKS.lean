/- Texts joined into one, what is needed of them (a program of ours). -/
import Derived.Test.YtbcfkgolhklkaaaDoorEKA
import Derived.Test.YtbcfkgolhklkaaaDoorProg
import Derived.Test.YtbcfkgolhklkaaaDoorEKP
namespace Go.Proofs.YtbcfkgolhklkaaaDoor
open Go.RowKit Go.Lib

def fk (x y : S) : List S → Option S
  | [] => none
  | z :: zs => if x &&& y &&& ~~~z == 0#16 then some z else fk x y zs
def fj (x : S) (b : List S) : List S → Option (S × S)
  | [] => none
  | y :: ys => match fk x y b with | some z => some (y, z) | none => fj x b ys
def fi (b : List S) : List S → Option (S × S × S)
  | [] => none
  | x :: xs => match fj x b (x :: xs) with | some (y, z) => some (x, y, z) | none => fi b xs
def resD : Option (S × S × S) → Value
  | some (x, y, z) => .tuple #[.int .u16 (sv x), .int .u16 (sv y), .int .u16 (sv z), .int .i64 0]
  | none => .tuple #[.int .u16 0, .int .u16 0, .int .u16 0, .int .i64 13]

set_option maxHeartbeats 800000 in
theorem badDis_any (a1 : Option Addr) (n1 c1 : Nat) (a2 : Option Addr) (n2 c2 : Nat) (f b : List S) (w : World) (h1 : Rd w a1 n1 c1 1 (sl f)) (h2 : Rd w a2 n2 c2 1 (sl b)) :
    Calls Tryd.prog 78 #[.slice a1 n1 c1, .slice a2 n2 c2] w fun e w' => e = .returned (resD (fi b f)) ∧ w' = w := by
  have s1 := h1.small; have s2 := h2.small; have l1 := h1.lenS; have l2 := h2.lenS; have nc := h1.nc
  have L1 := Lib.hid l1; have L2 := Lib.hid l2; clear l1 l2
  go_enter Tryd.func78, Tryd.ntmps78
  go_wp2
  go_loop [16] (fun i => ∃ k : Nat, k ≤ n1 ∧ i = .int .i64 k ∧ Hid (fi b f = fi b (f.drop k))) (fun i => n1 - (RowKit.intOf i).toNat)
  case atStart => exact ⟨0, Nat.zero_le _, rfl, rfl⟩
  case round =>
    obtain ⟨i, hi, rfl, HI⟩ := hrel
    by_cases hlt : i < n1
    · have hci := h1.at hlt
      have ha := h1.isSome (by omega)
      go_wp2
      go_loop [25] (fun v => ∃ k : Nat, k ≤ n1 - i ∧ v = .int .i64 k ∧ Hid (fj (at_ f i) b (f.drop i) = fj (at_ f i) b (f.drop (i + k)))) (fun v => n1 - i - (RowKit.intOf v).toNat)
      case atStart => exact ⟨0, Nat.zero_le _, rfl, rfl⟩
      case round =>
        obtain ⟨j, hj, rfl, HJ⟩ := hrel
        by_cases hlj : j < n1 - i
        · have hcj := h1.at_sub hi hlj
          have hb := (h1.drop (i := i) hi).isSome (by omega)
          go_wp2
          go_loop [31] (fun v => ∃ k : Nat, k ≤ n2 ∧ v = .int .i64 k ∧ Hid (fk (at_ f i) (at_ f (i + j)) b = fk (at_ f i) (at_ f (i + j)) (b.drop k))) (fun v => n2 - (RowKit.intOf v).toNat)
          case atStart => exact ⟨0, Nat.zero_le _, rfl, rfl⟩
          case round =>
            obtain ⟨k, hk, rfl, HK⟩ := hrel
            by_cases hlk : k < n2
            · have hck := h2.at hlk
              have hb2 := h2.isSome (by omega)
              by_cases hv : (at_ f i &&& at_ f (i + j) &&& ~~~at_ b k == 0#16) = true
              · go_wp2
                (try simp only [Exit.inBlock, Exit.then]); refine bodyPost_ret (results_4 rfl _ _ _) rfl ⟨ret_eq ?_, rfl⟩
                rw [HI.out, drop_at f i (by have := L1.out; omega), fi, ← drop_at f i (by have := L1.out; omega), HJ.out, drop_at f (i + j) (by have := L1.out; omega), fj, HK.out, drop_at b k (by have := L2.out; omega), fk, if_pos hv]
                rfl
              · go_wp2
                go_round
                case rel => exact ⟨k + 1, by omega, by go_num, hrfl <| by rw [HK.out, drop_at b k (by have := L2.out; omega), fk, if_neg hv]⟩
                case measure => simp [RowKit.intOf]; omega
            · go_wp2
              go_round
              case rel => exact ⟨j + 1, by omega, by go_num, hrfl <| by rw [HJ.out, drop_at f (i + j) (by have := L1.out; omega), fj, HK.out, drop_all b k (by have := L2.out; omega), fk, Nat.add_assoc]⟩
              case measure => simp [RowKit.intOf]; omega
        · go_wp2
          go_round
          case rel => exact ⟨i + 1, by omega, by go_num, hrfl <| by rw [HI.out, drop_at f i (by have := L1.out; omega), fi, ← drop_at f i (by have := L1.out; omega), HJ.out, drop_all f (i + j) (by have := L1.out; omega), fj]⟩
          case measure => simp [RowKit.intOf]; omega
    · go_wp2
      (try simp only [Exit.inBlock, Exit.then]); refine bodyPost_ret (results_4 rfl _ _ _) rfl ⟨ret_eq ?_, rfl⟩
      rw [HI.out, drop_all f i (by have := L1.out; omega)]
      rfl

end Go.Proofs.YtbcfkgolhklkaaaDoor
namespace Go.Proofs.YtbcfkgolhklkaaaDoor
open Go.RowKit Go.Lib

def ml (x y p : S) : List S → Option S
  | [] => none
  | z :: zs => if x &&& y &&& ~~~(p ||| z) == 0#16 then some z else ml x y p zs
def mk (x y : S) : List S → Option (S × S)
  | [] => none
  | p :: ps => match ml x y p (p :: ps) with | some z => some (p, z) | none => mk x y ps
end Go.Proofs.YtbcfkgolhklkaaaDoor
namespace Go.Proofs.YtbcfkgolhklkaaaDoor
open Go.RowKit Go.Lib Go.Shelf

def disOK (b f : List S) : Bool := (fi b f).isNone
theorem dis_any (a1 : Option Addr) (n1 c1 : Nat) (a2 : Option Addr) (n2 c2 : Nat) (f b : List S) (w : World) (h1 : Rd w a1 n1 c1 1 (sl f)) (h2 : Rd w a2 n2 c2 1 (sl b)) :
    Calls Tryd.prog 38 #[.slice a1 n1 c1, .slice a2 n2 c2] w fun e w' => e = .returned (.bool (disOK b f)) ∧ w = w' := by
  have hc := badDis_any a1 n1 c1 a2 n2 c2 f b w h1 h2
  unfold disOK
  generalize fi b f = r at hc ⊢
  have HC := Lib.hid hc; clear hc h1 h2
  cases r with
  | none =>
    go_enter Tryd.func38, Tryd.ntmps38
    go_wp2_with (go_at_call 78; refine HC.out.mono ?_; rintro e w' ⟨rfl, hw⟩; subst hw; unfold resD)
    go_ret
    exact ⟨rfl, rfl⟩
  | some q =>
    obtain ⟨x, y, z⟩ := q
    go_enter Tryd.func38, Tryd.ntmps38
    go_wp2_with (go_at_call 78; refine HC.out.mono ?_; rintro e w' ⟨rfl, hw⟩; subst hw; unfold resD)
    go_ret
    exact ⟨rfl, rfl⟩

end Go.Proofs.YtbcfkgolhklkaaaDoor
namespace Go.Proofs.YtbcfkgolhklkaaaDoor
open Go.RowKit Go.Lib

theorem fk_isNone (x y : S) (l : List S) : (fk x y l).isNone = true ↔ ∀ z ∈ l, x &&& y &&& ~~~z ≠ 0#16 := by
  induction l with
  | nil => simp [fk]
  | cons a t ih =>
    unfold fk
    by_cases h : (x &&& y &&& ~~~a == 0#16) = true
    · rw [if_pos h]
      simp only [Option.isNone_some, Bool.false_eq_true, false_iff]
      intro hc
      exact hc a (by simp) (by simpa using h)
    · rw [if_neg h, ih]
      constructor
      · intro h2 z hz
        rcases List.mem_cons.1 hz with rfl | hz
        · simpa using h
        · exact h2 z hz
      · intro h2 z hz; exact h2 z (List.mem_cons_of_mem _ hz)
theorem fj_isNone (x : S) (b l : List S) : (fj x b l).isNone = true ↔ ∀ y ∈ l, ∀ z ∈ b, x &&& y &&& ~~~z ≠ 0#16 := by
  induction l with
  | nil => simp [fj]
  | cons a t ih =>
    unfold fj
    have h1 := fk_isNone x a b
    cases hq : fk x a b with
    | some q =>
      rw [hq] at h1
      simp only [Option.isNone_some, Bool.false_eq_true, false_iff] at h1 ⊢
      intro hc
      exact h1 (hc a (by simp))
    | none =>
      rw [hq] at h1
      simp only [Option.isNone_none, true_iff] at h1
      simp only
      rw [ih]
      constructor
      · intro h2 y hy
        rcases List.mem_cons.1 hy with rfl | hy
        · exact h1
        · exact h2 y hy
      · intro h2 y hy; exact h2 y (List.mem_cons_of_mem _ hy)
theorem fi_isNone (b l : List S) : (fi b l).isNone = true ↔ ∀ x ∈ l, ∀ y ∈ l, ∀ z ∈ b, x &&& y &&& ~~~z ≠ 0#16 := by
  induction l with
  | nil => simp [fi]
  | cons a t ih =>
    unfold fi
    have h1 := fj_isNone a b (a :: t)
    cases hq : fj a b (a :: t) with
    | some q =>
      rw [hq] at h1
      simp only [Option.isNone_some, Bool.false_eq_true, false_iff] at h1 ⊢
      intro hc
      exact h1 (hc a (by simp))
    | none =>
      rw [hq] at h1
      simp only [Option.isNone_none, true_iff] at h1
      simp only
      rw [ih]
      constructor
      · intro h2 x hx y hy z hz
        rcases List.mem_cons.1 hx with rfl | hx2
        · exact h1 y hy z hz
        · rcases List.mem_cons.1 hy with rfl | hy2
          · rw [BitVec.and_comm x y]; exact h1 x (List.mem_cons_of_mem _ hx2) z hz
          · exact h2 x hx2 y hy2 z hz
      · intro h2 x hx y hy; exact h2 x (List.mem_cons_of_mem _ hx) y (List.mem_cons_of_mem _ hy)
theorem disOK_iff (b f : List S) : disOK b f = true ↔ ∀ x ∈ f, ∀ y ∈ f, ∀ z ∈ b, x &&& y &&& ~~~z ≠ 0#16 := fi_isNone b f
end Go.Proofs.YtbcfkgolhklkaaaDoor
namespace Go.Proofs.YtbcfkgolhklkaaaDoor
open Go.RowKit Go.Lib Go.Shelf

end Go.Proofs.YtbcfkgolhklkaaaDoor
namespace Go.Proofs.YtbcfkgolhklkaaaDoor
open Go.RowKit Go.Lib Go.Shelf

theorem bits_ne {x : S} (h : x ≠ 0#16) : ∃ j, x.getLsbD j = true := by
  apply Classical.byContradiction
  intro hc
  apply h
  apply BitVec.eq_of_getLsbD_eq
  intro i _
  cases hb : x.getLsbD i with
  | false => simp
  | true => exact absurd ⟨i, hb⟩ hc
theorem dis_of {f b : List S} (h : disOK b f = true) : Diss f b := fun p hp q hq t ht => by
  obtain ⟨j, hj⟩ := bits_ne ((disOK_iff b f).1 h p hp q hq t ht)
  have hlt := bit_lt hj
  rw [BitVec.getLsbD_and, BitVec.getLsbD_and, BitVec.getLsbD_not, Bool.and_eq_true, Bool.and_eq_true, Bool.and_eq_true] at hj
  exact ⟨j, hj.1.1, hj.1.2, by simpa using hj.2.2⟩
theorem honB_corr {n : Nat} {byz : S} {x : Nd} {i : Nat} (hn : n ≤ 16) (hi : i < n) (hx : x.id = (i : Int)) : honB byz x = byz.getLsbD i := by
  unfold honB
  rw [hx, Int.toNat_natCast]
  have : decide (0 ≤ (i : Int) ∧ (i : Int) < 16) = true := by rw [decide_eq_true_eq]; omega
  rw [this, Bool.true_and]
theorem nd_mem {n : Nat} {st : St} (hl : st.nodes.length = n) {x : Nd} (hx : x ∈ st.nodes) : ∃ i, i < n ∧ ndA st i = x := by
  obtain ⟨i, hi, rfl⟩ := List.mem_iff_getElem.1 hx
  exact ⟨i, by omega, by simp [ndA, List.getD, hi]⟩
theorem del_mem {f b : List S} {n : Nat} {byz : S} {source : Nat} {X : Str} {st : St} (I : Inv f b n byz source X st) {v : Str} (hv : v ∈ delL byz st.nodes) : ∃ i, i < n ∧ (ndA st i).hasD = true ∧ (ndA st i).delivered = v := by
  unfold delL honL at hv
  obtain ⟨x, hx, rfl⟩ := List.mem_map.1 hv
  rw [List.mem_filter, List.mem_filter] at hx
  obtain ⟨i, hi, he⟩ := nd_mem I.len hx.1.1
  exact ⟨i, hi, by rw [he]; exact hx.2, by rw [he]⟩
end Go.Proofs.YtbcfkgolhklkaaaDoor
