/- Texts joined into one (wip/bin/pack.py): DisBad, DisMask, DisSmall, DisCover, DisCov2, Fam2, RefCanon, Avail, Awake21, Laws21, DisMath. -/
import Derived.Test.YtijknodekomdfaaGreatDoorKA
import Derived.Test.YtijknodekomdfaaGreatDoorProg
import Derived.Test.YtijknodekomdfaaGreatDoorKB
import Derived.Test.YtijknodekomdfaaGreatDoorKH
import Derived.Deep.RegionHeld3
import Derived.Deep.AppendLies
import Derived.BigGuard
/- The first violation of the dissemination property, as the program and the reference find it. -/
namespace Go.Proofs.YtijknodekomdfaaGreatDoor
open Go.RowKit Go.Lib

def fk (x y : S) : List S → Option S
  | [] => none
  | z :: zs => if x &&& y &&& ~~~z == 0#16 then some z else fk x y zs
def fj (x : S) (b : List S) : List S → Option (S × S)
  | [] => none
  | y :: ys => match fk x y b with | some z => some (y, z) | none => fj x b ys
def fi (b : List S) : List S → Option (S × S × S)
  | [] => none
  | x :: xs => match fj x b (x :: xs) with | some (y, z) => some (x, y, z) | none => fi b xs
def resD : Option (S × S × S) → Value
  | some (x, y, z) => .tuple #[.int .u16 (sv x), .int .u16 (sv y), .int .u16 (sv z), .int .i64 0]
  | none => .tuple #[.int .u16 0, .int .u16 0, .int .u16 0, .int .i64 13]

set_option maxHeartbeats 800000 in
theorem badDis_any (a1 : Option Addr) (n1 c1 : Nat) (a2 : Option Addr) (n2 c2 : Nat) (f b : List S) (w : World) (h1 : Rd w a1 n1 c1 1 (sl f)) (h2 : Rd w a2 n2 c2 1 (sl b)) :
    Calls Tryz.prog 57 #[.slice a1 n1 c1, .slice a2 n2 c2] w fun e w' => e = .returned (resD (fi b f)) ∧ w' = w := by
  have s1 := h1.small; have s2 := h2.small; have l1 := h1.lenS; have l2 := h2.lenS; have nc := h1.nc
  have L1 := Lib.hid l1; have L2 := Lib.hid l2; clear l1 l2
  go_enter Tryz.func57, Tryz.ntmps57
  go_wp2
  go_loop [16] (fun i => ∃ k : Nat, k ≤ n1 ∧ i = .int .i64 k ∧ Hid (fi b f = fi b (f.drop k))) (fun i => n1 - (intOf i).toNat)
  case atStart => exact ⟨0, Nat.zero_le _, rfl, rfl⟩
  case round =>
    obtain ⟨i, hi, rfl, HI⟩ := hrel
    by_cases hlt : i < n1
    · have hci := h1.at hlt
      have ha := h1.isSome (by omega)
      go_wp2
      go_loop [25] (fun v => ∃ k : Nat, k ≤ n1 - i ∧ v = .int .i64 k ∧ Hid (fj (at_ f i) b (f.drop i) = fj (at_ f i) b (f.drop (i + k)))) (fun v => n1 - i - (intOf v).toNat)
      case atStart => exact ⟨0, Nat.zero_le _, rfl, rfl⟩
      case round =>
        obtain ⟨j, hj, rfl, HJ⟩ := hrel
        by_cases hlj : j < n1 - i
        · have hcj := h1.at_sub hi hlj
          have hb := (h1.drop (i := i) hi).isSome (by omega)
          go_wp2
          go_loop [31] (fun v => ∃ k : Nat, k ≤ n2 ∧ v = .int .i64 k ∧ Hid (fk (at_ f i) (at_ f (i + j)) b = fk (at_ f i) (at_ f (i + j)) (b.drop k))) (fun v => n2 - (intOf v).toNat)
          case atStart => exact ⟨0, Nat.zero_le _, rfl, rfl⟩
          case round =>
            obtain ⟨k, hk, rfl, HK⟩ := hrel
            by_cases hlk : k < n2
            · have hck := h2.at hlk
              have hb2 := h2.isSome (by omega)
              by_cases hv : (at_ f i &&& at_ f (i + j) &&& ~~~at_ b k == 0#16) = true
              · go_wp2
                (try simp only [Exit.inBlock, Exit.then]); refine bodyPost_ret (results_4 rfl _ _ _) rfl ⟨ret_eq ?_, rfl⟩
                rw [HI.out, drop_at f i (by have := L1.out; omega), fi, ← drop_at f i (by have := L1.out; omega), HJ.out, drop_at f (i + j) (by have := L1.out; omega), fj, HK.out, drop_at b k (by have := L2.out; omega), fk, if_pos hv]
                rfl
              · go_wp2
                go_round
                case rel => exact ⟨k + 1, by omega, by go_num, hrfl <| by rw [HK.out, drop_at b k (by have := L2.out; omega), fk, if_neg hv]⟩
                case measure => simp [intOf]; omega
            · go_wp2
              go_round
              case rel => exact ⟨j + 1, by omega, by go_num, hrfl <| by rw [HJ.out, drop_at f (i + j) (by have := L1.out; omega), fj, HK.out, drop_all b k (by have := L2.out; omega), fk, Nat.add_assoc]⟩
              case measure => simp [intOf]; omega
        · go_wp2
          go_round
          case rel => exact ⟨i + 1, by omega, by go_num, hrfl <| by rw [HI.out, drop_at f i (by have := L1.out; omega), fi, ← drop_at f i (by have := L1.out; omega), HJ.out, drop_all f (i + j) (by have := L1.out; omega), fj]⟩
          case measure => simp [intOf]; omega
    · go_wp2
      (try simp only [Exit.inBlock, Exit.then]); refine bodyPost_ret (results_4 rfl _ _ _) rfl ⟨ret_eq ?_, rfl⟩
      rw [HI.out, drop_all f i (by have := L1.out; omega)]
      rfl

end Go.Proofs.YtijknodekomdfaaGreatDoor
/- The first violation of the masking property, as the program and the reference find it. -/
namespace Go.Proofs.YtijknodekomdfaaGreatDoor
open Go.RowKit Go.Lib

def ml (x y p : S) : List S → Option S
  | [] => none
  | z :: zs => if x &&& y &&& ~~~(p ||| z) == 0#16 then some z else ml x y p zs
def mk (x y : S) : List S → Option (S × S)
  | [] => none
  | p :: ps => match ml x y p (p :: ps) with | some z => some (p, z) | none => mk x y ps
def mj (x : S) (b : List S) : List S → Option (S × S × S)
  | [] => none
  | y :: ys => match mk x y b with | some (p, z) => some (y, p, z) | none => mj x b ys
def mi (b : List S) : List S → Option (S × S × S × S)
  | [] => none
  | x :: xs => match mj x b (x :: xs) with | some (y, p, z) => some (x, y, p, z) | none => mi b xs
def resM : Option (S × S × S × S) → Value
  | some (x, y, p, z) => .tuple #[.int .u16 (sv x), .int .u16 (sv y), .int .u16 (sv p), .int .u16 (sv z), .int .i64 0]
  | none => .tuple #[.int .u16 0, .int .u16 0, .int .u16 0, .int .u16 0, .int .i64 13]

end Go.Proofs.YtijknodekomdfaaGreatDoor
/- Small functions of the layer dissemination, and Same. -/
namespace Go.Proofs.YtijknodekomdfaaGreatDoor
open Go.RowKit Go.Lib Go.Shelf

def disOK (b f : List S) : Bool := (fi b f).isNone
def maskOK (b f : List S) : Bool := (mi b f).isNone

theorem dis_any (a1 : Option Addr) (n1 c1 : Nat) (a2 : Option Addr) (n2 c2 : Nat) (f b : List S) (w : World) (h1 : Rd w a1 n1 c1 1 (sl f)) (h2 : Rd w a2 n2 c2 1 (sl b)) :
    Calls Tryz.prog 15 #[.slice a1 n1 c1, .slice a2 n2 c2] w fun e w' => e = .returned (.bool (disOK b f)) ∧ w = w' := by
  have hc := badDis_any a1 n1 c1 a2 n2 c2 f b w h1 h2
  unfold disOK
  generalize fi b f = r at hc ⊢
  have HC := Lib.hid hc; clear hc h1 h2
  cases r with
  | none =>
    go_enter Tryz.func15, Tryz.ntmps15
    go_wp2_with (go_at_call 57; refine HC.out.mono ?_; rintro e w' ⟨rfl, hw⟩; subst hw; unfold resD)
    go_ret
    exact ⟨rfl, rfl⟩
  | some q =>
    obtain ⟨x, y, z⟩ := q
    go_enter Tryz.func15, Tryz.ntmps15
    go_wp2_with (go_at_call 57; refine HC.out.mono ?_; rintro e w' ⟨rfl, hw⟩; subst hw; unfold resD)
    go_ret
    exact ⟨rfl, rfl⟩

def sameS (l m : List S) : Bool := l == m
theorem same_step {l m : List S} {k n : Nat} (hl : l.length = n) (hm : m.length = n) (hk : k < n) : (l.drop k == m.drop k) = (at_ l k == at_ m k && l.drop (k + 1) == m.drop (k + 1)) := by
  rw [drop_at l k (by omega), drop_at m k (by omega)]; rfl

set_option maxHeartbeats 400000 in
theorem same_any (a1 : Option Addr) (n1 c1 : Nat) (a2 : Option Addr) (n2 c2 : Nat) (f b : List S) (w : World) (h1 : Rd w a1 n1 c1 1 (sl f)) (h2 : Rd w a2 n2 c2 1 (sl b)) :
    Calls Tryz.prog 84 #[.slice a1 n1 c1, .slice a2 n2 c2] w fun e w' => e = .returned (.bool (f == b)) ∧ Keeps w w' := by
  have s1 := h1.small; have s2 := h2.small; have l1 := h1.lenS; have l2 := h2.lenS
  by_cases hn : n1 = n2
  · subst hn
    have HS := Lib.hid (@same_step f b · n1 l1 l2)
    have L1 := Lib.hid l1; have L2 := Lib.hid l2; clear l1 l2
    have hb : ((n1 : Int) != (n1 : Int)) = false := by simp
    go_enter Tryz.func84, Tryz.ntmps84
    go_wp2
    go_loopw [5] (fun v wr => ∃ k : Nat, k ≤ n1 ∧ v = .int .i64 k ∧ Keeps w wr ∧ Hid ((f == b) = (f.drop k == b.drop k))) (fun v _ => n1 - (intOf v).toNat)
    case atStart => exact ⟨0, Nat.zero_le _, rfl, Keeps.refl _, rfl⟩
    case round =>
      obtain ⟨k, hk, rfl, K1, HI⟩ := hrel
      by_cases hlt : k < n1
      · have hc := (h1.keep K1).at hlt
        have hd := (h2.keep K1).at hlt
        have ha := h1.isSome (by omega)
        have hb2 := h2.isSome (by omega)
        cases hq : (at_ f k == at_ b k) with
        | true =>
          have hq' : (at_ f k != at_ b k) = false := by simp [bne, hq]
          go_wp2
          go_quiet (fail)
          go_wp2
          go_roundw
          case rel => exact ⟨k + 1, by omega, by go_num, K1.drewN _, hrfl <| by rw [HI.out, HS.out k hlt, hq, Bool.true_and]⟩
          case measure => simp [intOf]; omega
        | false =>
          have hq' : (at_ f k != at_ b k) = true := by simp [bne, hq]
          go_wp2
          go_quiet (fail)
          go_wp2
          go_ret
          exact ⟨ret_eq (by rw [HI.out, HS.out k hlt, hq, Bool.false_and]; rfl), K1.drewN _⟩
      · go_wp2
        go_ret
        exact ⟨ret_eq (by rw [HI.out, dropN L1 hlt, dropN L2 hlt]; rfl), K1⟩
  · have hb : ((n1 : Int) != (n2 : Int)) = true := by simp; omega
    have hr : (f == b) = false := by
      rw [beq_eq_false_iff_ne]; intro h; rw [h] at l1; omega
    have HR := Lib.hid hr; clear hr
    clear l1 l2
    go_enter Tryz.func84, Tryz.ntmps84
    go_wp2
    go_ret
    exact ⟨ret_eq (by rw [HR.out]; rfl), Keeps.refl _⟩
end Go.Proofs.YtijknodekomdfaaGreatDoor
/- Covers, as the program and the reference find them. -/
namespace Go.Proofs.YtijknodekomdfaaGreatDoor
open Go.RowKit Go.Lib Go.Shelf


/-- The first list of exactly k further sets that covers m. -/
def cov : List S → Nat → S → Option (List S)
  | _, 0, m => if m == 0#16 then some [] else none
  | [], _ + 1, _ => none
  | x :: xs, k + 1, m => match cov xs k (m &&& ~~~x) with | some l => some (x :: l) | none => cov xs (k + 1) m
theorem cov_zero (l : List S) (m : S) : cov l 0 m = if m == 0#16 then some [] else none := by cases l <;> rfl
theorem cov_length {l : List S} {k : Nat} {m : S} {q : List S} (h : cov l k m = some q) : q.length = k := by
  induction l generalizing k m q with
  | nil =>
    cases k with
    | zero => rw [cov_zero] at h; split at h <;> simp at h; subst h; rfl
    | succ k => simp [cov] at h
  | cons x xs ih =>
    cases k with
    | zero => rw [cov_zero] at h; split at h <;> simp at h; subst h; rfl
    | succ k =>
      rw [cov] at h
      cases hq : cov xs k (m &&& ~~~x) with
      | none => rw [hq] at h; exact ih h
      | some r => rw [hq] at h; simp at h; subst h; simp [ih hq]
def outL (r : Option (List S)) : List S := r.getD []
/-- what cover returns -/
def CovPost (w0 : World) (r : Option (List S)) (e : Ending) (w' : World) : Prop :=
  ∃ v, e = .returned (.tuple #[v, .bool r.isSome]) ∧ Own 31 1 w0 w' v (outL r).length (sl (outL r))

set_option maxHeartbeats 1000000 in
theorem cover_any (N : Nat) : ∀ (a : Option Addr) (n c : Nat) (b : List S) (w : World) (fr k : Int) (m : S), Rd w a n c 1 (sl b) → k.toNat = N → 0 ≤ k → k ≤ 4 → 0 ≤ fr → fr ≤ n → n ≤ 1000000 →
    Calls Tryz.prog 113 #[.slice a n c, .int .i64 fr, .int .i64 k, .int .u16 (sv m)] w fun e w' => CovPost w (cov (b.drop fr.toNat) k.toNat m) e w' := by
  induction N with
  | zero =>
    intro a n c b w fr k m h hk h0 h4 hf0 hf1 hn
    obtain rfl : k = 0 := by omega
    have hz : cov (b.drop fr.toNat) (0 : Int).toNat m = if m == 0#16 then some [] else none := cov_zero _ _
    have HZ := Lib.hid hz; clear hz
    go_enter Tryz.func113, Tryz.ntmps113
    go_wp2
    go_ret2
    rw [HZ.out]
    refine ⟨.slice none 0 0, ret_eq ?_, ?_⟩
    · cases (m == 0#16) <;> rfl
    · cases (m == 0#16) <;> exact Own.nil _ _ (Keeps.refl w)
  | succ N ih =>
    intro a n c b w fr k m h hk h0 h4 hf0 hf1 hn
    have IH := Lib.hid ih; clear ih
    have hk0 : (k == 0) = false := by rw [beq_eq_false_iff_ne]; omega
    have hkn : k.toNat = N + 1 := hk
    obtain ⟨f, rfl⟩ := Int.eq_ofNat_of_zero_le hf0
    have HK := Lib.hid hkn; clear hkn hk
    have s1 := h.small; have l1 := h.lenS
    have L1 := Lib.hid l1; clear l1
    rw [HK.out, Int.toNat_natCast]
    go_enter Tryz.func113, Tryz.ntmps113
    go_wp2
    go_loopw [10] (fun v wr => ∃ i : Nat, f ≤ i ∧ i ≤ n ∧ v = .int .i64 i ∧ Keeps w wr ∧ Hid (cov (b.drop f) (N + 1) m = cov (b.drop i) (N + 1) m)) (fun v _ => n - (intOf v).toNat)
    case atStart => exact ⟨f, Nat.le_refl _, by omega, rfl, Keeps.refl _, rfl⟩
    case round =>
      obtain ⟨i, hfi, hi, rfl, K1, HI⟩ := hrel
      by_cases hlt : i < n
      · have hr := h.keep K1
        have hc := hr.at hlt
        have ha := h.isSome (by omega)
        have hcall := IH.out a n c b wr ((i : Int) + 1) (k - 1) (m &&& ~~~at_ b i) hr (by have := HK.out; omega) (by have := HK.out; omega) (by omega) (by omega) (by omega) hn
        rw [show ((i : Int) + 1).toNat = i + 1 from by omega, show (k - 1).toNat = N from by have := HK.out; omega] at hcall
        have hstep := dropH L1 hlt
        cases hq : cov (b.drop (i + 1)) N (m &&& ~~~at_ b i) with
        | none =>
          rw [hq] at hcall
          have HQ := Lib.hid hq; have HC := Lib.hid hcall; have HS := Lib.hid hstep; clear hq hcall hstep
          go_wp2_with (go_at_call 113; refine HC.out.mono ?_; rintro e w' ⟨v, rfl, hO⟩; simp only [Option.isSome_none])
          go_roundw
          case rel => exact ⟨i + 1, by omega, by omega, by go_num, K1.trans hO.2, hrfl <| by rw [HI.out, HS.out, cov, HQ.out]⟩
          case measure => simp [intOf]; omega
        | some q =>
          rw [hq] at hcall
          have HQ := Lib.hid hq; have HC := Lib.hid hcall; have HS := Lib.hid hstep; clear hq hcall hstep
          have hln : (outL (some q)).length ≤ 4 := by have := cov_length HQ.out; have := HK.out; simp [outL]; omega
          have hcons : sl (outL (cov (b.drop f) (N + 1) m)) = [.int .u16 (sv (at_ b i))] ++ sl (outL (some q)) := by rw [HI.out, HS.out, cov, HQ.out]; rfl
          have HF := Lib.hid hcons; clear hcons
          go_wp2_with (first | (go_at_call 113; refine HC.out.mono ?_; rintro e w' ⟨v, rfl, hO⟩; simp only [Option.isSome_some]; obtain ⟨ao, co, rfl, hR⟩ := hO.rd; have hc2 := hO.2.cell hc; have K2 := K1.trans hO.2) | (at_builtin; refine wp_app tyS rfl _ _ rfl (Own.made K2 [.int .u16 (sv (at_ b i))] 1 (by decide) rfl) rfl rfl (hR.keep ((Keeps.refl _).alloc _)) (sl_oneCell _) ?_ ?_))
          · omega
          · intro v' w2 hO2 _
            go_wp2
            go_ret2
            refine ⟨v', ret_eq ?_, ?_⟩
            · rw [HI.out, HS.out, cov, HQ.out]; rfl
            · rw [HF.out]
              have e1 : (outL (cov (b.drop f) (N + 1) m)).length = 1 + (outL (some q)).length := by rw [← length_sl, HF.out]; simp; omega
              rw [e1]; exact hO2
      · go_wp2
        go_ret2
        rw [HI.out, dropN L1 hlt]
        exact ⟨.slice none 0 0, rfl, Own.nil _ _ K1⟩
end Go.Proofs.YtijknodekomdfaaGreatDoor
/- Cover and Free of the program and of the reference. -/
namespace Go.Proofs.YtijknodekomdfaaGreatDoor
open Go.RowKit Go.Lib Go.Shelf

/-- the first cover by s, s + 1, .. sets: r numbers to try -/
def covFrom (b : List S) (m : S) : Nat → Nat → Option (List S)
  | 0, _ => none
  | r + 1, s => match cov b s m with | some l => some l | none => covFrom b m r (s + 1)
def covPair : Option (List S) → List S × Int
  | some l => (l, 0)
  | none => ([], 13)
def covRes (n : Int) (b : List S) (k : Int) : List S × Int :=
  if n < 0 ∨ 12 < n ∨ k < 0 ∨ 4 < k then ([], 7) else covPair (covFrom b (fullS n.toNat) (k.toNat + 1) 0)
theorem covRes_bad {n : Int} {b : List S} {k : Int} (h : n < 0 ∨ 12 < n ∨ k < 0 ∨ 4 < k) : covRes n b k = ([], 7) := if_pos h
theorem covRes_good {n : Int} {b : List S} {k : Int} (h : ¬ (n < 0 ∨ 12 < n ∨ k < 0 ∨ 4 < k)) : covRes n b k = covPair (covFrom b (fullS n.toNat) (k.toNat + 1) 0) := if_neg h

set_option maxHeartbeats 1000000 in
theorem Cover_any (a : Option Addr) (m c : Nat) (b : List S) (w : World) (n k : Int) (h : Rd w a m c 1 (sl b)) (hm : m ≤ 1000000) :
    Calls Tryz.prog 49 #[.int .i64 n, .slice a m c, .int .i64 k] w fun e w' => RetS w (covRes n b k) e w' := by
  by_cases hbad : n < 0 ∨ 12 < n ∨ k < 0 ∨ 4 < k
  · rw [covRes_bad hbad]
    have fin : ∀ e w', e = Ending.returned (.tuple #[.slice none 0 0, .int .i64 7]) → w = w' → RetS w ([], 7) e w' := fun e w' he hw => by
      subst he; subst hw; exact ⟨_, rfl, Own.nil _ _ (Keeps.refl w)⟩
    have FIN := Lib.hid fin; clear fin h
    by_cases c1 : n < 0
    · go_enter Tryz.func49, Tryz.ntmps49
      go_wp2
      go_ret2
      exact FIN.out _ _ rfl rfl
    by_cases c2 : 12 < n
    · go_enter Tryz.func49, Tryz.ntmps49
      go_wp2
      go_ret2
      exact FIN.out _ _ rfl rfl
    by_cases c3 : k < 0
    · go_enter Tryz.func49, Tryz.ntmps49
      go_wp2
      go_ret2
      exact FIN.out _ _ rfl rfl
    have c4 : 4 < k := by omega
    go_enter Tryz.func49, Tryz.ntmps49
    go_wp2
    go_ret2
    exact FIN.out _ _ rfl rfl
  · have n0 : 0 ≤ n := by omega
    have n1 : n ≤ 12 := by omega
    have k0 : 0 ≤ k := by omega
    have k1 : k ≤ 4 := by omega
    rw [covRes_good hbad]
    clear hbad
    obtain ⟨K, rfl⟩ := Int.eq_ofNat_of_zero_le k0
    rw [Int.toNat_natCast]
    have hf : sv (1#16 <<< n.toNat - 1#16) = sv (fullS n.toNat) := rfl
    go_enter Tryz.func49, Tryz.ntmps49
    go_wp2
    go_loopw [27] (fun v wr => ∃ i : Nat, i ≤ K + 1 ∧ v = .int .i64 i ∧ Keeps w wr ∧ Hid (covFrom b (fullS n.toNat) (K + 1) 0 = covFrom b (fullS n.toNat) (K + 1 - i) i)) (fun v _ => K + 1 - (intOf v).toNat)
    case atStart => exact ⟨0, by omega, rfl, Keeps.refl _, rfl⟩
    case round =>
      obtain ⟨i, hi, rfl, K1, HI⟩ := hrel
      by_cases hlt : i < K + 1
      · have hcall := cover_any i a m c b wr 0 (i : Int) (fullS n.toNat) (h.keep K1) (by omega) (by omega) (by omega) (by omega) (by omega) hm
        rw [Int.toNat_natCast, show (0 : Int).toNat = 0 from rfl, List.drop_zero] at hcall
        have hs : covFrom b (fullS n.toNat) (K + 1 - i) i = match cov b i (fullS n.toNat) with | some l => some l | none => covFrom b (fullS n.toNat) (K + 1 - (i + 1)) (i + 1) := by
          rw [show K + 1 - i = (K + 1 - (i + 1)) + 1 from by omega]; rfl
        have HS := Lib.hid hs; clear hs
        cases hq : cov b i (fullS n.toNat) with
        | none =>
          rw [hq] at hcall
          have HQ := Lib.hid hq; have HC := Lib.hid hcall; clear hq hcall
          go_wp2_with (go_at_call 113; refine HC.out.mono ?_; rintro e w' ⟨v, rfl, hO⟩; simp only [Option.isSome_none])
          go_roundw
          case rel => exact ⟨i + 1, by omega, by go_num, K1.trans hO.2, hrfl <| by rw [HI.out, HS.out, HQ.out]⟩
          case measure => simp [intOf]; omega
        | some q =>
          rw [hq] at hcall
          have HQ := Lib.hid hq; have HC := Lib.hid hcall; clear hq hcall
          go_wp2_with (go_at_call 113; refine HC.out.mono ?_; rintro e w' ⟨v, rfl, hO⟩; simp only [Option.isSome_some])
          go_ret2
          rw [HI.out, HS.out, HQ.out]
          exact ⟨v, rfl, hO.since K1⟩
      · go_wp2
        go_ret2
        rw [HI.out, show K + 1 - i = 0 from by omega]
        exact ⟨_, rfl, Own.nil _ _ K1⟩
theorem free_any (a : Option Addr) (m c : Nat) (b : List S) (w : World) (n k : Int) (h : Rd w a m c 1 (sl b)) (hm : m ≤ 1000000) :
    Calls Tryz.prog 11 #[.int .i64 n, .slice a m c, .int .i64 k] w fun e w' => e = .returned (.bool ((covRes n b k).2 == 13)) ∧ Keeps w w' := by
  have hc := Cover_any a m c b w n k h hm
  generalize covRes n b k = r at hc ⊢
  have HC := Lib.hid hc; clear hc h
  obtain ⟨l, x⟩ := r
  go_enter Tryz.func11, Tryz.ntmps11
  go_wp2_with (go_at_call 49; refine HC.out.mono ?_; rintro e w' ⟨v, rfl, hO⟩)
  go_ret
  exact ⟨rfl, hO.2⟩

end Go.Proofs.YtijknodekomdfaaGreatDoor
/- dissemination.Canonical; within. -/
namespace Go.Proofs.YtijknodekomdfaaGreatDoor
open Go.RowKit Go.Lib Go.Shelf

/-- the complements among n servers -/
def compl (n : Nat) (b : List S) : List S := b.map fun x => fullS n &&& ~~~x
theorem compl_snoc (n : Nat) (b : List S) (k : Nat) (h : k < b.length) : compl n (b.take (k + 1)) = compl n (b.take k) ++ [fullS n &&& ~~~at_ b k] := by
  rw [take_at b k h]; simp [compl]
def canonS (n : Int) (b : List S) : List S × Int := if n < 0 ∨ 12 < n then ([], 7) else minimalS (compl n.toNat b)

set_option maxHeartbeats 800000 in
theorem canonical_any (n : Int) (a : Option Addr) (m c : Nat) (b : List S) (w : World) (h : Rd w a m c 1 (sl b)) (hm : m ≤ 1000000) :
    Calls Tryz.prog 10 #[.int .i64 n, .slice a m c] w fun e w' => RetS w (canonS n b) e w' := by
  by_cases hbad : n < 0 ∨ 12 < n
  · have e1 : canonS n b = ([], 7) := if_pos hbad
    rw [e1]; clear e1 h
    have fin : ∀ e w', e = Ending.returned (.tuple #[.slice none 0 0, .int .i64 7]) → w = w' → RetS w ([], 7) e w' := fun e w' he hw => by
      subst he; subst hw; exact ⟨_, rfl, Own.nil _ _ (Keeps.refl w)⟩
    have FIN := Lib.hid fin; clear fin
    by_cases c1 : n < 0
    · go_enter Tryz.func10, Tryz.ntmps10
      go_wp2
      go_ret2
      exact FIN.out _ _ rfl rfl
    have c2 : 12 < n := by omega
    go_enter Tryz.func10, Tryz.ntmps10
    go_wp2
    go_ret2
    exact FIN.out _ _ rfl rfl
  · have n0 : 0 ≤ n := by omega
    have n1 : n ≤ 12 := by omega
    have e1 : canonS n b = minimalS (compl n.toNat b) := if_neg hbad
    rw [e1]; clear e1 hbad
    have s1 := h.small; have l1 := h.lenS
    have hcl : (compl n.toNat b).length = m := by simp [compl, l1]
    have hcon := fun W v (hO : Own 31 1 w W v m (sl (compl n.toNat b))) => show Calls Tryz.prog 48 #[v] W (fun e w' => RetS w (minimalS (compl n.toNat b)) e w') by
      obtain ⟨a', c', rfl, hR⟩ := hO.rd
      exact (minimal_any a' m c' _ W hR hm).mono fun e w' ⟨v', he, hO'⟩ => ⟨v', he, hO'.since hO.2⟩
    generalize hmn : minimalS (compl n.toNat b) = r at hcon ⊢
    obtain ⟨rl, re⟩ := r
    have HC := Lib.hid hcon; have L1 := Lib.hid l1; have HL := Lib.hid hcl; clear hcon l1 hmn hcl
    have hf : sv (1#16 <<< n.toNat - 1#16) = sv (fullS n.toNat) := rfl
    go_enter Tryz.func10, Tryz.ntmps10
    go_wp2_with fail
    go_loopw [6, 17] (fun u v wr => ∃ k : Nat, k ≤ m ∧ v = .int .i64 k ∧ Own 31 1 w wr u k (sl (compl n.toNat (b.take k)))) (fun _ v _ => m - (intOf v).toNat)
    case atStart => exact ⟨0, Nat.zero_le _, rfl, Own.nil _ _ (Keeps.refl _)⟩
    case round =>
      obtain ⟨k, hk, rfl, hA⟩ := hrel
      by_cases hlt : k < m
      · have hc := (h.keep hA.2).at hlt
        have ha := h.isSome (by omega)
        obtain ⟨a2, c2, rfl, hRa⟩ := hA.rd
        go_wp2_with (at_builtin; refine wp_app tyS rfl _ _ rfl (hA.alloc _) rfl rfl (rd_new _ 1 _ [.int .u16 (sv (fullS n.toNat &&& ~~~at_ b k))] 1 (by decide) rfl) (sl_oneCell [fullS n.toNat &&& ~~~at_ b k]) ?_ ?_)
        · omega
        · intro v' w3 hO3 _
          go_wp2
          go_roundw
          case rel => exact ⟨k + 1, by omega, by go_num, by rw [compl_snoc _ _ _ (by have := L1.out; omega), sl_append]; exact hO3⟩
          case measure => simp [intOf]; omega
      · have hkm : k = m := by omega
        subst hkm
        rw [List.take_of_length_le (by have := L1.out; omega)] at hA
        go_wp2_with (go_at_call 48; refine (HC.out _ _ hA).mono ?_; rintro e w1 ⟨v, rfl, hO⟩)
        go_ret2
        exact ⟨_, rfl, hO⟩

/-- sets restricted to n servers -/
def withinS (n : Nat) (b : List S) : List S := b.map fun x => x &&& fullS n
theorem withinS_snoc (n : Nat) (b : List S) (k : Nat) (h : k < b.length) : withinS n (b.take (k + 1)) = withinS n (b.take k) ++ [at_ b k &&& fullS n] := by
  rw [take_at b k h]; simp [withinS]

end Go.Proofs.YtijknodekomdfaaGreatDoor
/- The reference's Canonical. -/
namespace Go.Proofs.YtijknodekomdfaaGreatDoor
open Go.RowKit Go.Lib Go.Shelf

def refCanon (n : Int) (b : List S) : List S × Int := if n < 0 ∨ 12 < n then ([], 7) else limS (refLeast (compl n.toNat b))

end Go.Proofs.YtijknodekomdfaaGreatDoor
/- Available, of the program and of the reference. -/
namespace Go.Proofs.YtijknodekomdfaaGreatDoor
open Go.RowKit Go.Lib Go.Shelf

/-- some set of f avoids a set -/
def avoids (f : List S) (bad : S) : Bool := f.any fun q => q &&& bad == 0#16
def availS (f b : List S) : Bool := b.all (avoids f)

theorem avoidPred (bad : S) (B : Nat) (l : List S) (w : World) (hc : w.cell? ⟨B, 0, none⟩ = some (.int .u16 (sv bad))) :
    PredK Tryz.prog 60 #[.pointer (some ⟨B, 0, none⟩)] vs (fun q => q &&& bad == 0#16) l w := fun W x _ hk => by
  have hc' := hk.cell hc
  show Calls Tryz.prog 60 #[.int .u16 (sv x), .pointer (some ⟨B, 0, none⟩)] W _
  go_enter Tryz.func60, Tryz.ntmps60
  go_wp2
  go_ret
  exact ⟨rfl, Keeps.refl _⟩

theorem availPred (f : List S) (a : Option Addr) (n c : Nat) (B : Nat) (l : List S) (w : World) (h : Rd w a n c 1 (sl f)) (hB : w.cell? ⟨B, 0, none⟩ = some (.slice a n c)) :
    PredK Tryz.prog 59 #[.pointer (some ⟨B, 0, none⟩)] vs (fun bad => !avoids f bad) l w := fun W x _ hk => by
  have hc' := hk.cell hB
  have hK := (Keeps.refl W).alloc (.cells #[.int .u16 (sv x)] 31)
  have eg : ∀ args w, (callFunc 60 args).run Tryz.prog w = .ok (.enter 60 args) w := enters_of Tryz.func60 (by kernel_rfl) rfl
  have hcon := containsFuncS_any a n c f (W.alloc (.cells #[.int .u16 (sv x)] 31)) 60 #[.pointer (some ⟨W.heap.size, 0, none⟩)] (fun q => q &&& x == 0#16) ((h.keep hk).keep hK) eg
    (avoidPred x W.heap.size f _ (by rw [World.cell?_alloc_at _ _ _ _ rfl]; rfl))
  change Calls _ _ _ _ (fun e w' => e = .returned (.bool (avoids f x)) ∧ _) at hcon
  have hc2 := hK.cell hc'
  show Calls Tryz.prog 59 #[.int .u16 (sv x), .pointer (some ⟨B, 0, none⟩)] W fun e w' => e = .returned (.bool (!avoids f x)) ∧ Keeps W w'
  generalize avoids f x = r at hcon ⊢
  have HC := Lib.hid hcon; clear hcon eg h hc'
  go_enter Tryz.func59, Tryz.ntmps59
  go_wp2_with (go_at_call 46; refine HC.out.mono ?_; rintro e w' ⟨rfl, K2⟩)
  go_ret
  exact ⟨rfl, hK.trans K2⟩

theorem avail_any (a1 : Option Addr) (n1 c1 : Nat) (a2 : Option Addr) (n2 c2 : Nat) (f b : List S) (w : World) (h1 : Rd w a1 n1 c1 1 (sl f)) (h2 : Rd w a2 n2 c2 1 (sl b)) :
    Calls Tryz.prog 17 #[.slice a1 n1 c1, .slice a2 n2 c2] w fun e w' => e = .returned (.bool (availS f b)) ∧ Keeps w w' := by
  have hK := (Keeps.refl w).alloc (.cells #[.slice a1 n1 c1] 25)
  have eg : ∀ args w, (callFunc 59 args).run Tryz.prog w = .ok (.enter 59 args) w := enters_of Tryz.func59 (by kernel_rfl) rfl
  have hcon := containsFuncS_any a2 n2 c2 b (w.alloc (.cells #[.slice a1 n1 c1] 25)) 59 #[.pointer (some ⟨w.heap.size, 0, none⟩)] (fun bad => !avoids f bad) (h2.keep hK) eg
    (availPred f a1 n1 c1 w.heap.size b _ (h1.keep hK) (by rw [World.cell?_alloc_at _ _ _ _ rfl]; rfl))
  have e1 : availS f b = !(b.any fun bad => !avoids f bad) := by unfold availS; simp [List.all_eq_not_any_not]
  rw [e1]; clear e1
  generalize (b.any fun bad => !avoids f bad) = r at hcon ⊢
  have HC := Lib.hid hcon; clear hcon eg h1 h2
  go_enter Tryz.func17, Tryz.ntmps17
  go_wp2_with (go_at_call 46; refine HC.out.mono ?_; rintro e w' ⟨rfl, K2⟩)
  go_ret
  exact ⟨rfl, hK.trans K2⟩

theorem avoids_snoc (f : List S) (k : Nat) (bad : S) (h : k < f.length) : avoids (f.take (k + 1)) bad = (avoids (f.take k) bad || at_ f k &&& bad == 0#16) := by
  rw [take_at f k h]; simp [avoids]
theorem all_step (p : S → Bool) (b : List S) (k : Nat) (h : k < b.length) : (b.drop k).all p = (p (at_ b k) && (b.drop (k + 1)).all p) := by
  rw [drop_at b k h]; rfl

end Go.Proofs.YtijknodekomdfaaGreatDoor
/- The examples of the chapter dissemination hold. -/
namespace Go.Proofs.YtijknodekomdfaaGreatDoor
open Go.RowKit Go.Lib Go.Shelf

theorem ex_canon : canonS 4 [1#16, 2#16, 4#16, 8#16] = ([7#16, 11#16, 13#16, 14#16], 0) := by
  have h : canonS 4 [1#16, 2#16, 4#16, 8#16] = minimalS (compl 4 [1#16, 2#16, 4#16, 8#16]) := rfl
  rw [h]
  unfold minimalS
  rw [if_neg (by decide +kernel), least_same]
  decide +kernel
theorem ex_cover : covRes 3 [1#16, 2#16, 4#16] 3 = ([1#16, 2#16, 4#16], 0) := by decide +kernel
theorem ex_dis : disOK [1#16, 2#16, 4#16, 8#16] [7#16, 11#16, 13#16, 14#16] = true := by decide +kernel
theorem ex_mask : maskOK [1#16, 2#16, 4#16, 8#16] [7#16, 11#16, 13#16, 14#16] = false := by decide +kernel

end Go.Proofs.YtijknodekomdfaaGreatDoor
/- The walks of the statements of the layer dissemination: each answers true and keeps what lay there. -/
namespace Go.Proofs.YtijknodekomdfaaGreatDoor
open Go.RowKit Go.Lib Go.Shelf

/-- masking implies dissemination -/
theorem ml_none {x y p : S} {l : List S} (h : ml x y p l = none) : ∀ z ∈ l, (x &&& y &&& ~~~(p ||| z) == 0#16) = false := by
  induction l with
  | nil => simp
  | cons a t ih =>
    unfold ml at h
    split at h
    · cases h
    · rename_i hn
      intro z hz
      rcases List.mem_cons.1 hz with rfl | hz
      · simpa using hn
      · exact ih h z hz
theorem mk_none {x y : S} {l : List S} (h : mk x y l = none) : ∀ p ∈ l, (x &&& y &&& ~~~p == 0#16) = false := by
  induction l with
  | nil => simp
  | cons a t ih =>
    unfold mk at h
    split at h
    · cases h
    · rename_i hn
      intro z hz
      rcases List.mem_cons.1 hz with rfl | hz
      · have := ml_none hn z (by simp)
        rwa [BitVec.or_self] at this
      · exact ih h z hz
theorem fk_none {x y : S} {l : List S} (h : ∀ p ∈ l, (x &&& y &&& ~~~p == 0#16) = false) : fk x y l = none := by
  induction l with
  | nil => rfl
  | cons a t ih =>
    unfold fk
    rw [h a (by simp)]
    simp only [Bool.false_eq_true, if_false]
    exact ih fun p hp => h p (List.mem_cons_of_mem _ hp)
theorem mj_none {x : S} {b l : List S} (h : mj x b l = none) : fj x b l = none := by
  induction l with
  | nil => rfl
  | cons a t ih =>
    unfold mj at h
    split at h
    · cases h
    · rename_i hn
      unfold fj
      rw [fk_none (mk_none hn)]
      exact ih h
theorem mi_none {b l : List S} (h : mi b l = none) : fi b l = none := by
  induction l with
  | nil => rfl
  | cons a t ih =>
    unfold mi at h
    split at h
    · cases h
    · rename_i hn
      unfold fi
      rw [mj_none hn]
      exact ih h
theorem mask_imp (b f : List S) (h : maskOK b f = true) : disOK b f = true := by
  unfold maskOK at h; unfold disOK
  rw [Option.isNone_iff_eq_none] at *
  exact mi_none h

end Go.Proofs.YtijknodekomdfaaGreatDoor
/- Plain facts on dissemination, masking and covers. -/
namespace Go.Proofs.YtijknodekomdfaaGreatDoor
open Go.RowKit Go.Lib

theorem zero_iff (x : S) : x = 0#16 ↔ ∀ i, i < 16 → x.getLsbD i = false := by
  constructor
  · rintro rfl i hi; simp
  · intro h; exact BitVec.eq_of_getLsbD_eq fun i hi => by rw [h i hi]; simp
/-- m lies inside the union of t -/
def Covered (m : S) (t : List S) : Prop := ∀ i, i < 16 → m.getLsbD i = true → ∃ x ∈ t, x.getLsbD i = true
theorem covered_nil (m : S) : Covered m [] ↔ m = 0#16 := by
  rw [zero_iff]
  unfold Covered
  constructor
  · intro h i hi
    cases hm : m.getLsbD i with
    | false => rfl
    | true => obtain ⟨x, hx, _⟩ := h i hi hm; simp at hx
  · intro h i hi hm; rw [h i hi] at hm; cases hm
theorem covered_cons (m x : S) (t : List S) : Covered (m &&& ~~~x) t ↔ Covered m (x :: t) := by
  unfold Covered
  constructor
  · intro h i hi hm
    cases hx : x.getLsbD i with
    | true => exact ⟨x, by simp, hx⟩
    | false =>
      obtain ⟨y, hy, h2⟩ := h i hi (by rw [BitVec.getLsbD_and, BitVec.getLsbD_not, hm, hx]; simp [hi])
      exact ⟨y, by simp [hy], h2⟩
  · intro h i hi hm
    simp only [BitVec.getLsbD_and, BitVec.getLsbD_not, hi, decide_true, Bool.true_and, Bool.and_eq_true, Bool.not_eq_true'] at hm
    obtain ⟨y, hy, h2⟩ := h i hi hm.1
    rcases List.mem_cons.1 hy with rfl | hy
    · rw [hm.2] at h2; cases h2
    · exact ⟨y, hy, h2⟩
theorem cov_isSome (l : List S) : ∀ (k : Nat) (m : S), (cov l k m).isSome = true ↔ ∃ t, t.Sublist l ∧ t.length = k ∧ Covered m t := by
  induction l with
  | nil =>
    intro k m
    cases k with
    | zero =>
      rw [cov_zero]
      constructor
      · intro h
        split at h
        · rename_i hm
          exact ⟨[], List.Sublist.refl _, rfl, (covered_nil m).2 (by simpa using hm)⟩
        · cases h
      · rintro ⟨t, ht, -, hc⟩
        obtain rfl := List.sublist_nil.1 ht
        rw [(covered_nil m).1 hc]; rfl
    | succ k =>
      constructor
      · intro h; cases h
      · rintro ⟨t, ht, h1, -⟩
        obtain rfl := List.sublist_nil.1 ht
        cases h1
  | cons x xs ih =>
    intro k m
    cases k with
    | zero =>
      rw [cov_zero]
      constructor
      · intro h
        split at h
        · rename_i hm
          exact ⟨[], List.nil_sublist _, rfl, (covered_nil m).2 (by simpa using hm)⟩
        · cases h
      · rintro ⟨t, -, ht, hc⟩
        obtain rfl := List.eq_nil_of_length_eq_zero ht
        rw [(covered_nil m).1 hc]; rfl
    | succ k =>
      rw [cov]
      have h1 := ih k (m &&& ~~~x)
      have h2 := ih (k + 1) m
      constructor
      · intro h
        cases hq : cov xs k (m &&& ~~~x) with
        | some q =>
          obtain ⟨t, ht, hk, hc⟩ := h1.1 (by rw [hq]; rfl)
          exact ⟨x :: t, ht.cons_cons x, by simp [hk], (covered_cons m x t).1 hc⟩
        | none =>
          rw [hq] at h
          obtain ⟨t, ht, hk, hc⟩ := h2.1 h
          exact ⟨t, ht.cons x, hk, hc⟩
      · rintro ⟨t, ht, hk, hc⟩
        cases hq : cov xs k (m &&& ~~~x) with
        | some q => rfl
        | none =>
          cases ht with
          | cons _ ht => exact h2.2 ⟨t, ht, hk, hc⟩
          | cons_cons _ ht =>
            rename_i t
            have := h1.2 ⟨t, ht, by simpa using hk, (covered_cons m x t).2 hc⟩
            rw [hq] at this; cases this
theorem covFrom_isSome (b : List S) (m : S) : ∀ (r s : Nat), (covFrom b m r s).isSome = true ↔ ∃ j, s ≤ j ∧ j < s + r ∧ (cov b j m).isSome = true := by
  intro r
  induction r with
  | zero => intro s; simp [covFrom]; omega
  | succ r ih =>
    intro s
    rw [covFrom]
    cases hq : cov b s m with
    | some q => simp only [Option.isSome_some, true_iff]; exact ⟨s, Nat.le_refl _, by omega, by rw [hq]; rfl⟩
    | none =>
      simp only
      rw [ih (s + 1)]
      constructor
      · rintro ⟨j, h1, h2, h3⟩; exact ⟨j, by omega, by omega, h3⟩
      · rintro ⟨j, h1, h2, h3⟩
        rcases Nat.eq_or_lt_of_le h1 with rfl | h4
        · rw [hq] at h3; cases h3
        · exact ⟨j, h4, by omega, h3⟩
theorem sublist_of_members : ∀ (l t : List S), (∀ x ∈ t, x ∈ l) → ∃ t' : List S, t'.Sublist l ∧ t'.length ≤ t.length ∧ ∀ x ∈ t, x ∈ t' := by
  intro l
  induction l with
  | nil =>
    intro t h
    cases t with
    | nil => exact ⟨[], List.Sublist.refl _, Nat.le_refl _, fun x hx => by simp at hx⟩
    | cons y ys => exact absurd (h y (by simp)) (by simp)
  | cons a l ih =>
    intro t h
    by_cases ha : a ∈ t
    · obtain ⟨t', h1, h2, h3⟩ := ih (t.filter fun x => x ≠ a) (fun x hx => by
        rw [List.mem_filter] at hx
        have := h x hx.1
        rcases List.mem_cons.1 this with rfl | h4
        · simp at hx
        · exact h4)
      refine ⟨a :: t', h1.cons_cons a, ?_, fun x hx => ?_⟩
      · have h4 : (t.filter fun x => x ≠ a).length < t.length := by
          rw [← List.countP_eq_length_filter]
          refine Nat.lt_of_le_of_ne (List.countP_le_length) fun e => ?_
          have := List.countP_eq_length.1 e a ha
          simp at this
        simp; omega
      · by_cases hxa : x = a
        · simp [hxa]
        · exact List.mem_cons_of_mem _ (h3 x (List.mem_filter.2 ⟨hx, by simpa using hxa⟩))
    · obtain ⟨t', h1, h2, h3⟩ := ih t (fun x hx => by
        rcases List.mem_cons.1 (h x hx) with rfl | h4
        · exact absurd hx ha
        · exact h4)
      exact ⟨t', h1.cons a, h2, h3⟩
/-- There is a cover by at most k sets of b. -/
theorem cover_iff (b : List S) (m : S) (k : Nat) : (covFrom b m (k + 1) 0).isSome = true ↔ ∃ t, (∀ x ∈ t, x ∈ b) ∧ t.length ≤ k ∧ Covered m t := by
  rw [covFrom_isSome]
  constructor
  · rintro ⟨j, -, hj, h⟩
    obtain ⟨t, h1, h2, h3⟩ := (cov_isSome b j m).1 h
    exact ⟨t, fun x hx => h1.subset hx, by omega, h3⟩
  · rintro ⟨t, h1, h2, h3⟩
    obtain ⟨t', g1, g2, g3⟩ := sublist_of_members b t h1
    exact ⟨t'.length, Nat.zero_le _, by omega, (cov_isSome b _ m).2 ⟨t', g1, rfl, fun i hi hm => by
      obtain ⟨x, hx, h4⟩ := h3 i hi hm
      exact ⟨x, g3 x hx, h4⟩⟩⟩
/-- Free, for numbers in range. -/
theorem free_iff (n : Int) (b : List S) (k : Nat) (h0 : 0 ≤ n) (h1 : n ≤ 12) (hk : k ≤ 4) : ((covRes n b k).2 == 13) = true ↔ ¬ ∃ t, (∀ x ∈ t, x ∈ b) ∧ t.length ≤ k ∧ Covered (fullS n.toNat) t := by
  rw [← cover_iff, covRes_good (by omega), Int.toNat_natCast]
  cases covFrom b (fullS n.toNat) (k + 1) 0 with
  | none => simp [covPair]
  | some l => simp [covPair]

/-! ### dissemination, masking -/
theorem fk_isNone (x y : S) (l : List S) : (fk x y l).isNone = true ↔ ∀ z ∈ l, x &&& y &&& ~~~z ≠ 0#16 := by
  induction l with
  | nil => simp [fk]
  | cons a t ih =>
    unfold fk
    by_cases h : (x &&& y &&& ~~~a == 0#16) = true
    · rw [if_pos h]
      simp only [Option.isNone_some, Bool.false_eq_true, false_iff]
      intro hc
      exact hc a (by simp) (by simpa using h)
    · rw [if_neg h, ih]
      constructor
      · intro h2 z hz
        rcases List.mem_cons.1 hz with rfl | hz
        · simpa using h
        · exact h2 z hz
      · intro h2 z hz; exact h2 z (List.mem_cons_of_mem _ hz)
theorem fj_isNone (x : S) (b l : List S) : (fj x b l).isNone = true ↔ ∀ y ∈ l, ∀ z ∈ b, x &&& y &&& ~~~z ≠ 0#16 := by
  induction l with
  | nil => simp [fj]
  | cons a t ih =>
    unfold fj
    have h1 := fk_isNone x a b
    cases hq : fk x a b with
    | some q =>
      rw [hq] at h1
      simp only [Option.isNone_some, Bool.false_eq_true, false_iff] at h1 ⊢
      intro hc
      exact h1 (hc a (by simp))
    | none =>
      rw [hq] at h1
      simp only [Option.isNone_none, true_iff] at h1
      simp only
      rw [ih]
      constructor
      · intro h2 y hy
        rcases List.mem_cons.1 hy with rfl | hy
        · exact h1
        · exact h2 y hy
      · intro h2 y hy; exact h2 y (List.mem_cons_of_mem _ hy)
theorem fi_isNone (b l : List S) : (fi b l).isNone = true ↔ ∀ x ∈ l, ∀ y ∈ l, ∀ z ∈ b, x &&& y &&& ~~~z ≠ 0#16 := by
  induction l with
  | nil => simp [fi]
  | cons a t ih =>
    unfold fi
    have h1 := fj_isNone a b (a :: t)
    cases hq : fj a b (a :: t) with
    | some q =>
      rw [hq] at h1
      simp only [Option.isNone_some, Bool.false_eq_true, false_iff] at h1 ⊢
      intro hc
      exact h1 (hc a (by simp))
    | none =>
      rw [hq] at h1
      simp only [Option.isNone_none, true_iff] at h1
      simp only
      rw [ih]
      constructor
      · intro h2 x hx y hy z hz
        rcases List.mem_cons.1 hx with rfl | hx2
        · exact h1 y hy z hz
        · rcases List.mem_cons.1 hy with rfl | hy2
          · rw [BitVec.and_comm x y]; exact h1 x (List.mem_cons_of_mem _ hx2) z hz
          · exact h2 x hx2 y hy2 z hz
      · intro h2 x hx y hy; exact h2 x (List.mem_cons_of_mem _ hx) y (List.mem_cons_of_mem _ hy)
theorem disOK_iff (b f : List S) : disOK b f = true ↔ ∀ x ∈ f, ∀ y ∈ f, ∀ z ∈ b, x &&& y &&& ~~~z ≠ 0#16 := fi_isNone b f
theorem ml_isNone (x y p : S) (l : List S) : (ml x y p l).isNone = true ↔ ∀ z ∈ l, x &&& y &&& ~~~(p ||| z) ≠ 0#16 := by
  induction l with
  | nil => simp [ml]
  | cons a t ih =>
    unfold ml
    by_cases h : (x &&& y &&& ~~~(p ||| a) == 0#16) = true
    · rw [if_pos h]
      simp only [Option.isNone_some, Bool.false_eq_true, false_iff]
      intro hc
      exact hc a (by simp) (by simpa using h)
    · rw [if_neg h, ih]
      constructor
      · intro h2 z hz
        rcases List.mem_cons.1 hz with rfl | hz
        · simpa using h
        · exact h2 z hz
      · intro h2 z hz; exact h2 z (List.mem_cons_of_mem _ hz)
theorem mk_isNone (x y : S) (l : List S) : (mk x y l).isNone = true ↔ ∀ p ∈ l, ∀ z ∈ l, x &&& y &&& ~~~(p ||| z) ≠ 0#16 := by
  induction l with
  | nil => simp [mk]
  | cons a t ih =>
    unfold mk
    have h1 := ml_isNone x y a (a :: t)
    cases hq : ml x y a (a :: t) with
    | some q =>
      rw [hq] at h1
      simp only [Option.isNone_some, Bool.false_eq_true, false_iff] at h1 ⊢
      intro hc
      exact h1 (hc a (by simp))
    | none =>
      rw [hq] at h1
      simp only [Option.isNone_none, true_iff] at h1
      simp only
      rw [ih]
      constructor
      · intro h2 p hp z hz
        rcases List.mem_cons.1 hp with rfl | hp2
        · exact h1 z hz
        · rcases List.mem_cons.1 hz with rfl | hz2
          · rw [BitVec.or_comm p z]; exact h1 p (List.mem_cons_of_mem _ hp2)
          · exact h2 p hp2 z hz2
      · intro h2 p hp z hz; exact h2 p (List.mem_cons_of_mem _ hp) z (List.mem_cons_of_mem _ hz)
theorem mj_isNone (x : S) (b l : List S) : (mj x b l).isNone = true ↔ ∀ y ∈ l, ∀ p ∈ b, ∀ z ∈ b, x &&& y &&& ~~~(p ||| z) ≠ 0#16 := by
  induction l with
  | nil => simp [mj]
  | cons a t ih =>
    unfold mj
    have h1 := mk_isNone x a b
    cases hq : mk x a b with
    | some q =>
      rw [hq] at h1
      simp only [Option.isNone_some, Bool.false_eq_true, false_iff] at h1 ⊢
      intro hc
      exact h1 (hc a (by simp))
    | none =>
      rw [hq] at h1
      simp only [Option.isNone_none, true_iff] at h1
      simp only
      rw [ih]
      constructor
      · intro h2 y hy
        rcases List.mem_cons.1 hy with rfl | hy
        · exact h1
        · exact h2 y hy
      · intro h2 y hy; exact h2 y (List.mem_cons_of_mem _ hy)
theorem maskOK_iff (b l : List S) : maskOK b l = true ↔ ∀ x ∈ l, ∀ y ∈ l, ∀ p ∈ b, ∀ z ∈ b, x &&& y &&& ~~~(p ||| z) ≠ 0#16 := by
  unfold maskOK
  induction l with
  | nil => simp [mi]
  | cons a t ih =>
    unfold mi
    have h1 := mj_isNone a b (a :: t)
    cases hq : mj a b (a :: t) with
    | some q =>
      rw [hq] at h1
      simp only [Option.isNone_some, Bool.false_eq_true, false_iff] at h1 ⊢
      intro hc
      exact h1 (hc a (by simp))
    | none =>
      rw [hq] at h1
      simp only [Option.isNone_none, true_iff] at h1
      simp only
      rw [ih]
      constructor
      · intro h2 x hx y hy p hp z hz
        rcases List.mem_cons.1 hx with rfl | hx2
        · exact h1 y hy p hp z hz
        · rcases List.mem_cons.1 hy with rfl | hy2
          · rw [BitVec.and_comm x y]; exact h1 x (List.mem_cons_of_mem _ hx2) p hp z hz
          · exact h2 x hx2 y hy2 p hp z hz
      · intro h2 x hx y hy; exact h2 x (List.mem_cons_of_mem _ hx) y (List.mem_cons_of_mem _ hy)
theorem availS_iff (f b : List S) : availS f b = true ↔ ∀ z ∈ b, ∃ x ∈ f, x &&& z = 0#16 := by
  unfold availS avoids
  simp only [List.all_eq_true, List.any_eq_true, beq_iff_eq]

/-! ### what the statements say -/
theorem ne_zero_mono {x y : S} (h : ∀ i, i < 16 → x.getLsbD i = true → y.getLsbD i = true) (hx : x ≠ 0#16) : y ≠ 0#16 := by
  intro hy
  apply hx
  rw [zero_iff] at *
  intro i hi
  cases hb : x.getLsbD i with
  | false => rfl
  | true => exact absurd (hy i hi) (by rw [h i hi hb]; simp)
/-- more servers -/
def moreS (f : List S) (m : S) : List S := f.map fun x => x ||| m
def fewerS (b : List S) (m : S) : List S := b.map fun x => x &&& ~~~m
theorem more_dis (f b : List S) (m m' : S) (h : disOK b f = true) : disOK (fewerS b m') (moreS f m) = true := by
  rw [disOK_iff] at *
  intro x hx y hy z hz
  obtain ⟨x, hx2, rfl⟩ := List.mem_map.1 hx
  obtain ⟨y, hy2, rfl⟩ := List.mem_map.1 hy
  obtain ⟨z, hz2, rfl⟩ := List.mem_map.1 hz
  refine ne_zero_mono (fun i hi hb => ?_) (h x hx2 y hy2 z hz2)
  simp only [BitVec.getLsbD_and, BitVec.getLsbD_not, BitVec.getLsbD_or, hi, decide_true, Bool.true_and, Bool.and_eq_true, Bool.not_eq_true'] at hb ⊢
  simp only [hb.1.1, hb.1.2, hb.2, Bool.true_or, Bool.false_and, and_self]
theorem more_mask (f b : List S) (m m' : S) (h : maskOK b f = true) : maskOK (fewerS b m') (moreS f m) = true := by
  rw [maskOK_iff] at *
  intro x hx y hy p hp z hz
  obtain ⟨x, hx2, rfl⟩ := List.mem_map.1 hx
  obtain ⟨y, hy2, rfl⟩ := List.mem_map.1 hy
  obtain ⟨p, hp2, rfl⟩ := List.mem_map.1 hp
  obtain ⟨z, hz2, rfl⟩ := List.mem_map.1 hz
  refine ne_zero_mono (fun i hi hb => ?_) (h x hx2 y hy2 p hp2 z hz2)
  simp only [BitVec.getLsbD_and, BitVec.getLsbD_not, BitVec.getLsbD_or, hi, decide_true, Bool.true_and, Bool.and_eq_true, Bool.not_eq_true', Bool.or_eq_false_iff] at hb ⊢
  simp only [hb.1.1, hb.1.2, hb.2.1, hb.2.2, Bool.true_or, Bool.false_and, and_self]
/-- no cover by two avoided sets and what is left -/
theorem needed_core {q c : List S} {U : S} (hq : ∀ x ∈ q, ∀ i, i < 16 → x.getLsbD i = true → U.getLsbD i = true) (hav : ∀ z ∈ c, ∃ x ∈ q, x &&& z = 0#16) {z1 z2 : S} (h1 : z1 ∈ c) (h2 : z2 ∈ c) (r : List S) (hcov : Covered U (z1 :: z2 :: r)) :
    ∃ x ∈ q, ∃ y ∈ q, ∀ i, i < 16 → (x &&& y).getLsbD i = true → ∃ z ∈ r, z.getLsbD i = true := by
  obtain ⟨x, hx, ex⟩ := hav z1 h1
  obtain ⟨y, hy, ey⟩ := hav z2 h2
  rw [zero_iff] at ex ey
  refine ⟨x, hx, y, hy, fun i hi hb => ?_⟩
  rw [BitVec.getLsbD_and, Bool.and_eq_true] at hb
  have e1 := ex i hi
  have e2 := ey i hi
  rw [BitVec.getLsbD_and, hb.1, Bool.true_and] at e1
  rw [BitVec.getLsbD_and, hb.2, Bool.true_and] at e2
  obtain ⟨z, hz, h3⟩ := hcov i hi (hq x hx i hi hb.1)
  rcases List.mem_cons.1 hz with rfl | hz
  · rw [e1] at h3; cases h3
  · rcases List.mem_cons.1 hz with rfl | hz
    · rw [e2] at h3; cases h3
    · exact ⟨z, hz, h3⟩
/-- a list of at most k + 1 members as one of just k + 1 -/
theorem pad_members {c t : List S} {k : Nat} (hc : c ≠ []) (ht : ∀ x ∈ t, x ∈ c) (hl : t.length ≤ k) : ∃ t' : List S, t'.length = k ∧ (∀ x ∈ t', x ∈ c) ∧ ∀ x ∈ t, x ∈ t' := by
  obtain ⟨a, r, rfl⟩ := List.exists_cons_of_ne_nil hc
  refine ⟨t ++ List.replicate (k - t.length) a, by simp; omega, fun x hx => ?_, fun x hx => List.mem_append_left _ hx⟩
  rcases List.mem_append.1 hx with h | h
  · exact ht x h
  · rw [(List.mem_replicate.1 h).2]; simp
theorem covered_mono {m : S} {t t' : List S} (h : Covered m t) (hs : ∀ x ∈ t, x ∈ t') : Covered m t' := fun i hi hm => by
  obtain ⟨x, hx, h2⟩ := h i hi hm
  exact ⟨x, hs x hx, h2⟩
theorem needed_dis {q c : List S} {n : Int} (h0 : 0 ≤ n) (h1 : n ≤ 12) (hc : c ≠ []) (hq : ∀ x ∈ q, ∀ i, i < 16 → x.getLsbD i = true → (fullS n.toNat).getLsbD i = true) (hav : availS q c = true) (hd : disOK c q = true) : ((covRes n c 3).2 == 13) = true := by
  rw [show (3 : Int) = ((3 : Nat) : Int) from rfl, free_iff n c 3 h0 h1 (by omega)]
  rintro ⟨t, ht, hl, hcov⟩
  obtain ⟨t', hl', ht', hs⟩ := pad_members hc ht hl
  match t', hl' with
  | [z1, z2, z3], _ =>
    obtain ⟨x, hx, y, hy, hb⟩ := needed_core hq ((availS_iff q c).1 hav) (ht' z1 (by simp)) (ht' z2 (by simp)) [z3] (covered_mono hcov hs)
    refine (disOK_iff c q).1 hd x hx y hy z3 (ht' z3 (by simp)) ?_
    rw [zero_iff]
    intro i hi
    rw [BitVec.getLsbD_and]
    cases hxy : (x &&& y).getLsbD i with
    | false => simp
    | true =>
      obtain ⟨z, hz, h4⟩ := hb i hi hxy
      rw [List.mem_singleton] at hz
      subst hz
      rw [BitVec.getLsbD_not, h4]; simp
theorem needed_mask {q c : List S} {n : Int} (h0 : 0 ≤ n) (h1 : n ≤ 12) (hc : c ≠ []) (hq : ∀ x ∈ q, ∀ i, i < 16 → x.getLsbD i = true → (fullS n.toNat).getLsbD i = true) (hav : availS q c = true) (hd : maskOK c q = true) : ((covRes n c 4).2 == 13) = true := by
  rw [show (4 : Int) = ((4 : Nat) : Int) from rfl, free_iff n c 4 h0 h1 (by omega)]
  rintro ⟨t, ht, hl, hcov⟩
  obtain ⟨t', hl', ht', hs⟩ := pad_members hc ht hl
  match t', hl' with
  | [z1, z2, z3, z4], _ =>
    obtain ⟨x, hx, y, hy, hb⟩ := needed_core hq ((availS_iff q c).1 hav) (ht' z1 (by simp)) (ht' z2 (by simp)) [z3, z4] (covered_mono hcov hs)
    refine (maskOK_iff c q).1 hd x hx y hy z3 (ht' z3 (by simp)) z4 (ht' z4 (by simp)) ?_
    rw [zero_iff]
    intro i hi
    rw [BitVec.getLsbD_and]
    cases hxy : (x &&& y).getLsbD i with
    | false => simp
    | true =>
      obtain ⟨z, hz, h4⟩ := hb i hi hxy
      rw [BitVec.getLsbD_not, BitVec.getLsbD_or]
      simp only [List.mem_cons, List.not_mem_nil, or_false] at hz
      rcases hz with rfl | rfl
      · rw [h4]; simp
      · rw [h4]; simp
theorem withinS_sub (n : Nat) (l : List S) : ∀ x ∈ withinS n l, ∀ i, i < 16 → x.getLsbD i = true → (fullS n).getLsbD i = true := by
  intro x hx i hi hb
  obtain ⟨y, -, rfl⟩ := List.mem_map.1 hx
  rw [BitVec.getLsbD_and, Bool.and_eq_true] at hb
  exact hb.2

/-! ### the canonical family -/
theorem fullS_out (n : Nat) (h : n ≤ 12) : fullS n &&& 61440#16 = 0#16 := by
  have : ∀ k : Fin 13, fullS k.val &&& 61440#16 = 0#16 := by decide +kernel
  exact this ⟨n, by omega⟩
theorem compl_in (n : Nat) (h : n ≤ 12) (b : List S) : (compl n b).any outS = false := by
  rw [← Bool.not_eq_true, List.any_eq_true]
  rintro ⟨x, hx, h2⟩
  obtain ⟨y, -, rfl⟩ := List.mem_map.1 hx
  have e : fullS n &&& ~~~y &&& 61440#16 = 0#16 := by
    have h3 := fullS_out n h
    rw [zero_iff] at h3 ⊢
    intro i hi
    have h4 := h3 i hi
    rw [BitVec.getLsbD_and] at h4
    rw [BitVec.getLsbD_and, BitVec.getLsbD_and]
    cases h5 : (fullS n).getLsbD i with
    | false => simp
    | true => rw [h5, Bool.true_and] at h4; rw [h4]; simp
  unfold outS at h2
  rw [e] at h2
  simp at h2
/-- The program's canonical family is the reference's. -/
theorem canon_same (n : Int) (b : List S) : canonS n b = refCanon n b := by
  unfold canonS refCanon
  split
  · rfl
  · rename_i h
    unfold minimalS
    rw [compl_in n.toNat (by omega) b, if_neg (by simp), least_same]
/-- each complement has a minimal set inside it, and each minimal set is a complement -/
theorem least_below (l : List S) (x : S) (hx : x ∈ l) : ∃ y ∈ leastP l, sub y x = true := by
  rw [leastP_filter]
  obtain ⟨y, h1, h2, h3⟩ := below_lone (sortS' l) _ x rfl (((sortS_asc l).2 x).2 hx)
  exact ⟨y, List.mem_filter.2 ⟨h1, h2⟩, h3⟩
theorem least_mem (l : List S) (x : S) (hx : x ∈ leastP l) : x ∈ l := by
  rw [leastP_filter] at hx
  exact ((sortS_asc l).2 x).1 (List.mem_filter.1 hx).1
theorem compl_bit (n : Nat) (y : S) (i : Nat) (hi : i < 16) : (fullS n &&& ~~~y).getLsbD i = true ↔ (fullS n).getLsbD i = true ∧ (y &&& fullS n).getLsbD i = false := by
  rw [BitVec.getLsbD_and, BitVec.getLsbD_not, BitVec.getLsbD_and]
  cases (fullS n).getLsbD i <;> cases y.getLsbD i <;> simp [hi]
/-- F: the family; c: the sets among n servers -/
theorem canon_avail (n : Nat) (b : List S) : availS (leastP (compl n b)) (withinS n b) = true := by
  rw [availS_iff]
  intro z hz
  obtain ⟨y, hy, rfl⟩ := List.mem_map.1 hz
  obtain ⟨x, hx, hs⟩ := least_below (compl n b) (fullS n &&& ~~~y) (List.mem_map.2 ⟨y, hy, rfl⟩)
  refine ⟨x, hx, ?_⟩
  rw [sub_iff] at hs
  rw [zero_iff]
  intro i hi
  rw [BitVec.getLsbD_and]
  cases hb : x.getLsbD i with
  | false => rfl
  | true => rw [((compl_bit n y i hi).1 (hs i hi hb)).2]; rfl
theorem canon_bit {n : Nat} {b : List S} {x : S} (hx : x ∈ leastP (compl n b)) : ∃ z ∈ withinS n b, ∀ i, i < 16 → (x.getLsbD i = true ↔ (fullS n).getLsbD i = true ∧ z.getLsbD i = false) := by
  obtain ⟨y, hy, rfl⟩ := List.mem_map.1 (least_mem _ x hx)
  exact ⟨y &&& fullS n, List.mem_map.2 ⟨y, hy, rfl⟩, fun i hi => compl_bit n y i hi⟩
theorem withinS_ne (n : Nat) {b : List S} (h : b ≠ []) : withinS n b ≠ [] := by
  unfold withinS; simpa using h
theorem leastP_sub (n : Nat) (b : List S) : ∀ x ∈ leastP (compl n b), ∀ i, i < 16 → x.getLsbD i = true → (fullS n).getLsbD i = true := fun x hx i hi hb => by
  obtain ⟨z, -, h⟩ := canon_bit hx
  exact ((h i hi).1 hb).1
theorem canon_dis (n : Int) (b : List S) (h0 : 0 ≤ n) (h1 : n ≤ 12) (hb : b ≠ []) : disOK (withinS n.toNat b) (leastP (compl n.toNat b)) = ((covRes n (withinS n.toNat b) 3).2 == 13) := by
  rw [Bool.eq_iff_iff]
  constructor
  · exact fun h => needed_dis h0 h1 (withinS_ne _ hb) (leastP_sub _ b) (canon_avail _ b) h
  · rw [show (3 : Int) = ((3 : Nat) : Int) from rfl, free_iff n _ 3 h0 h1 (by omega), disOK_iff]
    intro h x hx y hy z hz e
    obtain ⟨u, hu, bu⟩ := canon_bit hx
    obtain ⟨v, hv, bv⟩ := canon_bit hy
    apply h
    refine ⟨[u, v, z], fun a ha => ?_, Nat.le_refl _, fun i hi hm => ?_⟩
    · simp only [List.mem_cons, List.not_mem_nil, or_false] at ha
      rcases ha with rfl | rfl | rfl
      · exact hu
      · exact hv
      · exact hz
    · rw [zero_iff] at e
      have h5 := e i hi
      rw [BitVec.getLsbD_and, BitVec.getLsbD_and, BitVec.getLsbD_not] at h5
      cases c1 : u.getLsbD i with
      | true => exact ⟨u, by simp, c1⟩
      | false =>
        cases c2 : v.getLsbD i with
        | true => exact ⟨v, by simp, c2⟩
        | false =>
          rw [(bu i hi).2 ⟨hm, c1⟩, (bv i hi).2 ⟨hm, c2⟩] at h5
          exact ⟨z, by simp, by simpa [hi] using h5⟩
theorem canon_mask (n : Int) (b : List S) (h0 : 0 ≤ n) (h1 : n ≤ 12) (hb : b ≠ []) : maskOK (withinS n.toNat b) (leastP (compl n.toNat b)) = ((covRes n (withinS n.toNat b) 4).2 == 13) := by
  rw [Bool.eq_iff_iff]
  constructor
  · exact fun h => needed_mask h0 h1 (withinS_ne _ hb) (leastP_sub _ b) (canon_avail _ b) h
  · rw [show (4 : Int) = ((4 : Nat) : Int) from rfl, free_iff n _ 4 h0 h1 (by omega), maskOK_iff]
    intro h x hx y hy p hp z hz e
    obtain ⟨u, hu, bu⟩ := canon_bit hx
    obtain ⟨v, hv, bv⟩ := canon_bit hy
    apply h
    refine ⟨[u, v, p, z], fun a ha => ?_, Nat.le_refl _, fun i hi hm => ?_⟩
    · simp only [List.mem_cons, List.not_mem_nil, or_false] at ha
      rcases ha with rfl | rfl | rfl | rfl
      · exact hu
      · exact hv
      · exact hp
      · exact hz
    · rw [zero_iff] at e
      have h5 := e i hi
      rw [BitVec.getLsbD_and, BitVec.getLsbD_and, BitVec.getLsbD_not, BitVec.getLsbD_or] at h5
      cases c1 : u.getLsbD i with
      | true => exact ⟨u, by simp, c1⟩
      | false =>
        cases c2 : v.getLsbD i with
        | true => exact ⟨v, by simp, c2⟩
        | false =>
          rw [(bu i hi).2 ⟨hm, c1⟩, (bv i hi).2 ⟨hm, c2⟩] at h5
          cases c3 : p.getLsbD i with
          | true => exact ⟨p, by simp, c3⟩
          | false => rw [c3] at h5; exact ⟨z, by simp, by simpa [hi] using h5⟩
end Go.Proofs.YtijknodekomdfaaGreatDoor
