/- Texts joined into one, what is needed of them (a program of ours). -/
import Derived.Test.YtijknodekomdfaaGreatDoorBKS
import Derived.Test.YtijknodekomdfaaGreatDoorBKH
import Derived.Test.YtijknodekomdfaaGreatDoorBKTB
import Derived.Test.YtijknodekomdfaaGreatDoorBKQ
import Derived.Deep.RegionHeld3
import Derived.Deep.AppendLies
import Derived.Test.YtijknodekomdfaaGreatDoorBKU
import Derived.BigGuard
namespace Go.Proofs.YtijknodekomdfaaGreatDoor
open Go.RowKit Go.Lib Go.Shelf


/-- The first list of exactly k further sets that covers m. -/
def cov : List S → Nat → S → Option (List S)
  | _, 0, m => if m == 0#16 then some [] else none
  | [], _ + 1, _ => none
  | x :: xs, k + 1, m => match cov xs k (m &&& ~~~x) with | some l => some (x :: l) | none => cov xs (k + 1) m
theorem cov_zero (l : List S) (m : S) : cov l 0 m = if m == 0#16 then some [] else none := by cases l <;> rfl
theorem cov_length {l : List S} {k : Nat} {m : S} {q : List S} (h : cov l k m = some q) : q.length = k := by
  induction l generalizing k m q with
  | nil =>
    cases k with
    | zero => rw [cov_zero] at h; split at h <;> simp at h; subst h; rfl
    | succ k => simp [cov] at h
  | cons x xs ih =>
    cases k with
    | zero => rw [cov_zero] at h; split at h <;> simp at h; subst h; rfl
    | succ k =>
      rw [cov] at h
      cases hq : cov xs k (m &&& ~~~x) with
      | none => rw [hq] at h; exact ih h
      | some r => rw [hq] at h; simp at h; subst h; simp [ih hq]
def outL (r : Option (List S)) : List S := r.getD []
/-- what cover returns -/
def CovPost (w0 : World) (r : Option (List S)) (e : Ending) (w' : World) : Prop :=
  ∃ v, e = .returned (.tuple #[v, .bool r.isSome]) ∧ Own 31 1 w0 w' v (outL r).length (sl (outL r))

set_option maxHeartbeats 1000000 in
theorem cover_any (N : Nat) : ∀ (a : Option Addr) (n c : Nat) (b : List S) (w : World) (fr k : Int) (m : S), Rd w a n c 1 (sl b) → k.toNat = N → 0 ≤ k → k ≤ 4 → 0 ≤ fr → fr ≤ n → n ≤ 1000000 →
    Calls Tryz.prog 113 #[.slice a n c, .int .i64 fr, .int .i64 k, .int .u16 (sv m)] w fun e w' => CovPost w (cov (b.drop fr.toNat) k.toNat m) e w' := by
  induction N with
  | zero =>
    intro a n c b w fr k m h hk h0 h4 hf0 hf1 hn
    obtain rfl : k = 0 := by omega
    have hz : cov (b.drop fr.toNat) (0 : Int).toNat m = if m == 0#16 then some [] else none := cov_zero _ _
    have HZ := Lib.hid hz; clear hz
    go_enter Tryz.func113, Tryz.ntmps113
    go_wp2
    go_ret2
    rw [HZ.out]
    refine ⟨.slice none 0 0, ret_eq ?_, ?_⟩
    · cases (m == 0#16) <;> rfl
    · cases (m == 0#16) <;> exact Own.nil _ _ (Keeps.refl w)
  | succ N ih =>
    intro a n c b w fr k m h hk h0 h4 hf0 hf1 hn
    have IH := Lib.hid ih; clear ih
    have hk0 : (k == 0) = false := by rw [beq_eq_false_iff_ne]; omega
    have hkn : k.toNat = N + 1 := hk
    obtain ⟨f, rfl⟩ := Int.eq_ofNat_of_zero_le hf0
    have HK := Lib.hid hkn; clear hkn hk
    have s1 := h.small; have l1 := h.lenS
    have L1 := Lib.hid l1; clear l1
    rw [HK.out, Int.toNat_natCast]
    go_enter Tryz.func113, Tryz.ntmps113
    go_wp2
    go_loopw [10] (fun v wr => ∃ i : Nat, f ≤ i ∧ i ≤ n ∧ v = .int .i64 i ∧ Keeps w wr ∧ Hid (cov (b.drop f) (N + 1) m = cov (b.drop i) (N + 1) m)) (fun v _ => n - (intOf v).toNat)
    case atStart => exact ⟨f, Nat.le_refl _, by omega, rfl, Keeps.refl _, rfl⟩
    case round =>
      obtain ⟨i, hfi, hi, rfl, K1, HI⟩ := hrel
      by_cases hlt : i < n
      · have hr := h.keep K1
        have hc := hr.at hlt
        have ha := h.isSome (by omega)
        have hcall := IH.out a n c b wr ((i : Int) + 1) (k - 1) (m &&& ~~~at_ b i) hr (by have := HK.out; omega) (by have := HK.out; omega) (by omega) (by omega) (by omega) hn
        rw [show ((i : Int) + 1).toNat = i + 1 from by omega, show (k - 1).toNat = N from by have := HK.out; omega] at hcall
        have hstep := dropH L1 hlt
        cases hq : cov (b.drop (i + 1)) N (m &&& ~~~at_ b i) with
        | none =>
          rw [hq] at hcall
          have HQ := Lib.hid hq; have HC := Lib.hid hcall; have HS := Lib.hid hstep; clear hq hcall hstep
          go_wp2_with (go_at_call 113; refine HC.out.mono ?_; rintro e w' ⟨v, rfl, hO⟩; simp only [Option.isSome_none])
          go_roundw
          case rel => exact ⟨i + 1, by omega, by omega, by go_num, K1.trans hO.2, hrfl <| by rw [HI.out, HS.out, cov, HQ.out]⟩
          case measure => simp [intOf]; omega
        | some q =>
          rw [hq] at hcall
          have HQ := Lib.hid hq; have HC := Lib.hid hcall; have HS := Lib.hid hstep; clear hq hcall hstep
          have hln : (outL (some q)).length ≤ 4 := by have := cov_length HQ.out; have := HK.out; simp [outL]; omega
          have hcons : sl (outL (cov (b.drop f) (N + 1) m)) = [.int .u16 (sv (at_ b i))] ++ sl (outL (some q)) := by rw [HI.out, HS.out, cov, HQ.out]; rfl
          have HF := Lib.hid hcons; clear hcons
          go_wp2_with (first | (go_at_call 113; refine HC.out.mono ?_; rintro e w' ⟨v, rfl, hO⟩; simp only [Option.isSome_some]; obtain ⟨ao, co, rfl, hR⟩ := hO.rd; have hc2 := hO.2.cell hc; have K2 := K1.trans hO.2) | (at_builtin; refine wp_app tyS rfl _ _ rfl (Own.made K2 [.int .u16 (sv (at_ b i))] 1 (by decide) rfl) rfl rfl (hR.keep ((Keeps.refl _).alloc _)) (sl_oneCell _) ?_ ?_))
          · omega
          · intro v' w2 hO2 _
            go_wp2
            go_ret2
            refine ⟨v', ret_eq ?_, ?_⟩
            · rw [HI.out, HS.out, cov, HQ.out]; rfl
            · rw [HF.out]
              have e1 : (outL (cov (b.drop f) (N + 1) m)).length = 1 + (outL (some q)).length := by rw [← length_sl, HF.out]; simp; omega
              rw [e1]; exact hO2
      · go_wp2
        go_ret2
        rw [HI.out, dropN L1 hlt]
        exact ⟨.slice none 0 0, rfl, Own.nil _ _ K1⟩
end Go.Proofs.YtijknodekomdfaaGreatDoor
namespace Go.Proofs.YtijknodekomdfaaGreatDoor
open Go.RowKit Go.Lib Go.Shelf

/-- the first cover by s, s + 1, .. sets: r numbers to try -/
def covFrom (b : List S) (m : S) : Nat → Nat → Option (List S)
  | 0, _ => none
  | r + 1, s => match cov b s m with | some l => some l | none => covFrom b m r (s + 1)
def covPair : Option (List S) → List S × Int
  | some l => (l, 0)
  | none => ([], 13)
def covRes (n : Int) (b : List S) (k : Int) : List S × Int :=
  if n < 0 ∨ 12 < n ∨ k < 0 ∨ 4 < k then ([], 7) else covPair (covFrom b (fullS n.toNat) (k.toNat + 1) 0)
theorem covRes_bad {n : Int} {b : List S} {k : Int} (h : n < 0 ∨ 12 < n ∨ k < 0 ∨ 4 < k) : covRes n b k = ([], 7) := if_pos h
theorem covRes_good {n : Int} {b : List S} {k : Int} (h : ¬ (n < 0 ∨ 12 < n ∨ k < 0 ∨ 4 < k)) : covRes n b k = covPair (covFrom b (fullS n.toNat) (k.toNat + 1) 0) := if_neg h

set_option maxHeartbeats 1000000 in
theorem Cover_any (a : Option Addr) (m c : Nat) (b : List S) (w : World) (n k : Int) (h : Rd w a m c 1 (sl b)) (hm : m ≤ 1000000) :
    Calls Tryz.prog 49 #[.int .i64 n, .slice a m c, .int .i64 k] w fun e w' => RetS w (covRes n b k) e w' := by
  by_cases hbad : n < 0 ∨ 12 < n ∨ k < 0 ∨ 4 < k
  · rw [covRes_bad hbad]
    have fin : ∀ e w', e = Ending.returned (.tuple #[.slice none 0 0, .int .i64 7]) → w = w' → RetS w ([], 7) e w' := fun e w' he hw => by
      subst he; subst hw; exact ⟨_, rfl, Own.nil _ _ (Keeps.refl w)⟩
    have FIN := Lib.hid fin; clear fin h
    by_cases c1 : n < 0
    · go_enter Tryz.func49, Tryz.ntmps49
      go_wp2
      go_ret2
      exact FIN.out _ _ rfl rfl
    by_cases c2 : 12 < n
    · go_enter Tryz.func49, Tryz.ntmps49
      go_wp2
      go_ret2
      exact FIN.out _ _ rfl rfl
    by_cases c3 : k < 0
    · go_enter Tryz.func49, Tryz.ntmps49
      go_wp2
      go_ret2
      exact FIN.out _ _ rfl rfl
    have c4 : 4 < k := by omega
    go_enter Tryz.func49, Tryz.ntmps49
    go_wp2
    go_ret2
    exact FIN.out _ _ rfl rfl
  · have n0 : 0 ≤ n := by omega
    have n1 : n ≤ 12 := by omega
    have k0 : 0 ≤ k := by omega
    have k1 : k ≤ 4 := by omega
    rw [covRes_good hbad]
    clear hbad
    obtain ⟨K, rfl⟩ := Int.eq_ofNat_of_zero_le k0
    rw [Int.toNat_natCast]
    have hf : sv (1#16 <<< n.toNat - 1#16) = sv (fullS n.toNat) := rfl
    go_enter Tryz.func49, Tryz.ntmps49
    go_wp2
    go_loopw [27] (fun v wr => ∃ i : Nat, i ≤ K + 1 ∧ v = .int .i64 i ∧ Keeps w wr ∧ Hid (covFrom b (fullS n.toNat) (K + 1) 0 = covFrom b (fullS n.toNat) (K + 1 - i) i)) (fun v _ => K + 1 - (intOf v).toNat)
    case atStart => exact ⟨0, by omega, rfl, Keeps.refl _, rfl⟩
    case round =>
      obtain ⟨i, hi, rfl, K1, HI⟩ := hrel
      by_cases hlt : i < K + 1
      · have hcall := cover_any i a m c b wr 0 (i : Int) (fullS n.toNat) (h.keep K1) (by omega) (by omega) (by omega) (by omega) (by omega) hm
        rw [Int.toNat_natCast, show (0 : Int).toNat = 0 from rfl, List.drop_zero] at hcall
        have hs : covFrom b (fullS n.toNat) (K + 1 - i) i = match cov b i (fullS n.toNat) with | some l => some l | none => covFrom b (fullS n.toNat) (K + 1 - (i + 1)) (i + 1) := by
          rw [show K + 1 - i = (K + 1 - (i + 1)) + 1 from by omega]; rfl
        have HS := Lib.hid hs; clear hs
        cases hq : cov b i (fullS n.toNat) with
        | none =>
          rw [hq] at hcall
          have HQ := Lib.hid hq; have HC := Lib.hid hcall; clear hq hcall
          go_wp2_with (go_at_call 113; refine HC.out.mono ?_; rintro e w' ⟨v, rfl, hO⟩; simp only [Option.isSome_none])
          go_roundw
          case rel => exact ⟨i + 1, by omega, by go_num, K1.trans hO.2, hrfl <| by rw [HI.out, HS.out, HQ.out]⟩
          case measure => simp [intOf]; omega
        | some q =>
          rw [hq] at hcall
          have HQ := Lib.hid hq; have HC := Lib.hid hcall; clear hq hcall
          go_wp2_with (go_at_call 113; refine HC.out.mono ?_; rintro e w' ⟨v, rfl, hO⟩; simp only [Option.isSome_some])
          go_ret2
          rw [HI.out, HS.out, HQ.out]
          exact ⟨v, rfl, hO.since K1⟩
      · go_wp2
        go_ret2
        rw [HI.out, show K + 1 - i = 0 from by omega]
        exact ⟨_, rfl, Own.nil _ _ K1⟩
theorem free_any (a : Option Addr) (m c : Nat) (b : List S) (w : World) (n k : Int) (h : Rd w a m c 1 (sl b)) (hm : m ≤ 1000000) :
    Calls Tryz.prog 11 #[.int .i64 n, .slice a m c, .int .i64 k] w fun e w' => e = .returned (.bool ((covRes n b k).2 == 13)) ∧ Keeps w w' := by
  have hc := Cover_any a m c b w n k h hm
  generalize covRes n b k = r at hc ⊢
  have HC := Lib.hid hc; clear hc h
  obtain ⟨l, x⟩ := r
  go_enter Tryz.func11, Tryz.ntmps11
  go_wp2_with (go_at_call 49; refine HC.out.mono ?_; rintro e w' ⟨v, rfl, hO⟩)
  go_ret
  exact ⟨rfl, hO.2⟩

end Go.Proofs.YtijknodekomdfaaGreatDoor
namespace Go.Proofs.YtijknodekomdfaaGreatDoor
open Go.RowKit Go.Lib Go.Shelf

/-- the complements among n servers -/
def compl (n : Nat) (b : List S) : List S := b.map fun x => fullS n &&& ~~~x
theorem compl_snoc (n : Nat) (b : List S) (k : Nat) (h : k < b.length) : compl n (b.take (k + 1)) = compl n (b.take k) ++ [fullS n &&& ~~~at_ b k] := by
  rw [take_at b k h]; simp [compl]
def canonS (n : Int) (b : List S) : List S × Int := if n < 0 ∨ 12 < n then ([], 7) else minimalS (compl n.toNat b)

set_option maxHeartbeats 800000 in
theorem canonical_any (n : Int) (a : Option Addr) (m c : Nat) (b : List S) (w : World) (h : Rd w a m c 1 (sl b)) (hm : m ≤ 1000000) :
    Calls Tryz.prog 10 #[.int .i64 n, .slice a m c] w fun e w' => RetS w (canonS n b) e w' := by
  by_cases hbad : n < 0 ∨ 12 < n
  · have e1 : canonS n b = ([], 7) := if_pos hbad
    rw [e1]; clear e1 h
    have fin : ∀ e w', e = Ending.returned (.tuple #[.slice none 0 0, .int .i64 7]) → w = w' → RetS w ([], 7) e w' := fun e w' he hw => by
      subst he; subst hw; exact ⟨_, rfl, Own.nil _ _ (Keeps.refl w)⟩
    have FIN := Lib.hid fin; clear fin
    by_cases c1 : n < 0
    · go_enter Tryz.func10, Tryz.ntmps10
      go_wp2
      go_ret2
      exact FIN.out _ _ rfl rfl
    have c2 : 12 < n := by omega
    go_enter Tryz.func10, Tryz.ntmps10
    go_wp2
    go_ret2
    exact FIN.out _ _ rfl rfl
  · have n0 : 0 ≤ n := by omega
    have n1 : n ≤ 12 := by omega
    have e1 : canonS n b = minimalS (compl n.toNat b) := if_neg hbad
    rw [e1]; clear e1 hbad
    have s1 := h.small; have l1 := h.lenS
    have hcl : (compl n.toNat b).length = m := by simp [compl, l1]
    have hcon := fun W v (hO : Own 31 1 w W v m (sl (compl n.toNat b))) => show Calls Tryz.prog 48 #[v] W (fun e w' => RetS w (minimalS (compl n.toNat b)) e w') by
      obtain ⟨a', c', rfl, hR⟩ := hO.rd
      exact (minimal_any a' m c' _ W hR hm).mono fun e w' ⟨v', he, hO'⟩ => ⟨v', he, hO'.since hO.2⟩
    generalize hmn : minimalS (compl n.toNat b) = r at hcon ⊢
    obtain ⟨rl, re⟩ := r
    have HC := Lib.hid hcon; have L1 := Lib.hid l1; have HL := Lib.hid hcl; clear hcon l1 hmn hcl
    have hf : sv (1#16 <<< n.toNat - 1#16) = sv (fullS n.toNat) := rfl
    go_enter Tryz.func10, Tryz.ntmps10
    go_wp2_with fail
    go_loopw [6, 17] (fun u v wr => ∃ k : Nat, k ≤ m ∧ v = .int .i64 k ∧ Own 31 1 w wr u k (sl (compl n.toNat (b.take k)))) (fun _ v _ => m - (intOf v).toNat)
    case atStart => exact ⟨0, Nat.zero_le _, rfl, Own.nil _ _ (Keeps.refl _)⟩
    case round =>
      obtain ⟨k, hk, rfl, hA⟩ := hrel
      by_cases hlt : k < m
      · have hc := (h.keep hA.2).at hlt
        have ha := h.isSome (by omega)
        obtain ⟨a2, c2, rfl, hRa⟩ := hA.rd
        go_wp2_with (at_builtin; refine wp_app tyS rfl _ _ rfl (hA.alloc _) rfl rfl (rd_new _ 1 _ [.int .u16 (sv (fullS n.toNat &&& ~~~at_ b k))] 1 (by decide) rfl) (sl_oneCell [fullS n.toNat &&& ~~~at_ b k]) ?_ ?_)
        · omega
        · intro v' w3 hO3 _
          go_wp2
          go_roundw
          case rel => exact ⟨k + 1, by omega, by go_num, by rw [compl_snoc _ _ _ (by have := L1.out; omega), sl_append]; exact hO3⟩
          case measure => simp [intOf]; omega
      · have hkm : k = m := by omega
        subst hkm
        rw [List.take_of_length_le (by have := L1.out; omega)] at hA
        go_wp2_with (go_at_call 48; refine (HC.out _ _ hA).mono ?_; rintro e w1 ⟨v, rfl, hO⟩)
        go_ret2
        exact ⟨_, rfl, hO⟩

/-- sets restricted to n servers -/
def withinS (n : Nat) (b : List S) : List S := b.map fun x => x &&& fullS n
end Go.Proofs.YtijknodekomdfaaGreatDoor
namespace Go.Proofs.YtijknodekomdfaaGreatDoor
open Go.RowKit Go.Lib Go.Shelf

end Go.Proofs.YtijknodekomdfaaGreatDoor
namespace Go.Proofs.YtijknodekomdfaaGreatDoor
open Go.RowKit Go.Lib Go.Shelf

end Go.Proofs.YtijknodekomdfaaGreatDoor
namespace Go.Proofs.YtijknodekomdfaaGreatDoor
open Go.RowKit Go.Lib Go.Shelf

end Go.Proofs.YtijknodekomdfaaGreatDoor
namespace Go.Proofs.YtijknodekomdfaaGreatDoor
open Go.RowKit Go.Lib

theorem zero_iff (x : S) : x = 0#16 ↔ ∀ i, i < 16 → x.getLsbD i = false := by
  constructor
  · rintro rfl i hi; simp
  · intro h; exact BitVec.eq_of_getLsbD_eq fun i hi => by rw [h i hi]; simp
/-- m lies inside the union of t -/
def Covered (m : S) (t : List S) : Prop := ∀ i, i < 16 → m.getLsbD i = true → ∃ x ∈ t, x.getLsbD i = true
theorem covered_nil (m : S) : Covered m [] ↔ m = 0#16 := by
  rw [zero_iff]
  unfold Covered
  constructor
  · intro h i hi
    cases hm : m.getLsbD i with
    | false => rfl
    | true => obtain ⟨x, hx, _⟩ := h i hi hm; simp at hx
  · intro h i hi hm; rw [h i hi] at hm; cases hm
theorem covered_cons (m x : S) (t : List S) : Covered (m &&& ~~~x) t ↔ Covered m (x :: t) := by
  unfold Covered
  constructor
  · intro h i hi hm
    cases hx : x.getLsbD i with
    | true => exact ⟨x, by simp, hx⟩
    | false =>
      obtain ⟨y, hy, h2⟩ := h i hi (by rw [BitVec.getLsbD_and, BitVec.getLsbD_not, hm, hx]; simp [hi])
      exact ⟨y, by simp [hy], h2⟩
  · intro h i hi hm
    simp only [BitVec.getLsbD_and, BitVec.getLsbD_not, hi, decide_true, Bool.true_and, Bool.and_eq_true, Bool.not_eq_true'] at hm
    obtain ⟨y, hy, h2⟩ := h i hi hm.1
    rcases List.mem_cons.1 hy with rfl | hy
    · rw [hm.2] at h2; cases h2
    · exact ⟨y, hy, h2⟩
theorem cov_isSome (l : List S) : ∀ (k : Nat) (m : S), (cov l k m).isSome = true ↔ ∃ t, t.Sublist l ∧ t.length = k ∧ Covered m t := by
  induction l with
  | nil =>
    intro k m
    cases k with
    | zero =>
      rw [cov_zero]
      constructor
      · intro h
        split at h
        · rename_i hm
          exact ⟨[], List.Sublist.refl _, rfl, (covered_nil m).2 (by simpa using hm)⟩
        · cases h
      · rintro ⟨t, ht, -, hc⟩
        obtain rfl := List.sublist_nil.1 ht
        rw [(covered_nil m).1 hc]; rfl
    | succ k =>
      constructor
      · intro h; cases h
      · rintro ⟨t, ht, h1, -⟩
        obtain rfl := List.sublist_nil.1 ht
        cases h1
  | cons x xs ih =>
    intro k m
    cases k with
    | zero =>
      rw [cov_zero]
      constructor
      · intro h
        split at h
        · rename_i hm
          exact ⟨[], List.nil_sublist _, rfl, (covered_nil m).2 (by simpa using hm)⟩
        · cases h
      · rintro ⟨t, -, ht, hc⟩
        obtain rfl := List.eq_nil_of_length_eq_zero ht
        rw [(covered_nil m).1 hc]; rfl
    | succ k =>
      rw [cov]
      have h1 := ih k (m &&& ~~~x)
      have h2 := ih (k + 1) m
      constructor
      · intro h
        cases hq : cov xs k (m &&& ~~~x) with
        | some q =>
          obtain ⟨t, ht, hk, hc⟩ := h1.1 (by rw [hq]; rfl)
          exact ⟨x :: t, ht.cons_cons x, by simp [hk], (covered_cons m x t).1 hc⟩
        | none =>
          rw [hq] at h
          obtain ⟨t, ht, hk, hc⟩ := h2.1 h
          exact ⟨t, ht.cons x, hk, hc⟩
      · rintro ⟨t, ht, hk, hc⟩
        cases hq : cov xs k (m &&& ~~~x) with
        | some q => rfl
        | none =>
          cases ht with
          | cons _ ht => exact h2.2 ⟨t, ht, hk, hc⟩
          | cons_cons _ ht =>
            rename_i t
            have := h1.2 ⟨t, ht, by simpa using hk, (covered_cons m x t).2 hc⟩
            rw [hq] at this; cases this
theorem covFrom_isSome (b : List S) (m : S) : ∀ (r s : Nat), (covFrom b m r s).isSome = true ↔ ∃ j, s ≤ j ∧ j < s + r ∧ (cov b j m).isSome = true := by
  intro r
  induction r with
  | zero => intro s; simp [covFrom]; omega
  | succ r ih =>
    intro s
    rw [covFrom]
    cases hq : cov b s m with
    | some q => simp only [Option.isSome_some, true_iff]; exact ⟨s, Nat.le_refl _, by omega, by rw [hq]; rfl⟩
    | none =>
      simp only
      rw [ih (s + 1)]
      constructor
      · rintro ⟨j, h1, h2, h3⟩; exact ⟨j, by omega, by omega, h3⟩
      · rintro ⟨j, h1, h2, h3⟩
        rcases Nat.eq_or_lt_of_le h1 with rfl | h4
        · rw [hq] at h3; cases h3
        · exact ⟨j, h4, by omega, h3⟩
theorem sublist_of_members : ∀ (l t : List S), (∀ x ∈ t, x ∈ l) → ∃ t' : List S, t'.Sublist l ∧ t'.length ≤ t.length ∧ ∀ x ∈ t, x ∈ t' := by
  intro l
  induction l with
  | nil =>
    intro t h
    cases t with
    | nil => exact ⟨[], List.Sublist.refl _, Nat.le_refl _, fun x hx => by simp at hx⟩
    | cons y ys => exact absurd (h y (by simp)) (by simp)
  | cons a l ih =>
    intro t h
    by_cases ha : a ∈ t
    · obtain ⟨t', h1, h2, h3⟩ := ih (t.filter fun x => x ≠ a) (fun x hx => by
        rw [List.mem_filter] at hx
        have := h x hx.1
        rcases List.mem_cons.1 this with rfl | h4
        · simp at hx
        · exact h4)
      refine ⟨a :: t', h1.cons_cons a, ?_, fun x hx => ?_⟩
      · have h4 : (t.filter fun x => x ≠ a).length < t.length := by
          rw [← List.countP_eq_length_filter]
          refine Nat.lt_of_le_of_ne (List.countP_le_length) fun e => ?_
          have := List.countP_eq_length.1 e a ha
          simp at this
        simp; omega
      · by_cases hxa : x = a
        · simp [hxa]
        · exact List.mem_cons_of_mem _ (h3 x (List.mem_filter.2 ⟨hx, by simpa using hxa⟩))
    · obtain ⟨t', h1, h2, h3⟩ := ih t (fun x hx => by
        rcases List.mem_cons.1 (h x hx) with rfl | h4
        · exact absurd hx ha
        · exact h4)
      exact ⟨t', h1.cons a, h2, h3⟩
/-- There is a cover by at most k sets of b. -/
theorem cover_iff (b : List S) (m : S) (k : Nat) : (covFrom b m (k + 1) 0).isSome = true ↔ ∃ t, (∀ x ∈ t, x ∈ b) ∧ t.length ≤ k ∧ Covered m t := by
  rw [covFrom_isSome]
  constructor
  · rintro ⟨j, -, hj, h⟩
    obtain ⟨t, h1, h2, h3⟩ := (cov_isSome b j m).1 h
    exact ⟨t, fun x hx => h1.subset hx, by omega, h3⟩
  · rintro ⟨t, h1, h2, h3⟩
    obtain ⟨t', g1, g2, g3⟩ := sublist_of_members b t h1
    exact ⟨t'.length, Nat.zero_le _, by omega, (cov_isSome b _ m).2 ⟨t', g1, rfl, fun i hi hm => by
      obtain ⟨x, hx, h4⟩ := h3 i hi hm
      exact ⟨x, g3 x hx, h4⟩⟩⟩
/-- Free, for numbers in range. -/
theorem free_iff (n : Int) (b : List S) (k : Nat) (h0 : 0 ≤ n) (h1 : n ≤ 12) (hk : k ≤ 4) : ((covRes n b k).2 == 13) = true ↔ ¬ ∃ t, (∀ x ∈ t, x ∈ b) ∧ t.length ≤ k ∧ Covered (fullS n.toNat) t := by
  rw [← cover_iff, covRes_good (by omega), Int.toNat_natCast]
  cases covFrom b (fullS n.toNat) (k + 1) 0 with
  | none => simp [covPair]
  | some l => simp [covPair]

theorem availS_iff (f b : List S) : availS f b = true ↔ ∀ z ∈ b, ∃ x ∈ f, x &&& z = 0#16 := by
  unfold availS avoids
  simp only [List.all_eq_true, List.any_eq_true, beq_iff_eq]

/-- no cover by two avoided sets and what is left -/
theorem needed_core {q c : List S} {U : S} (hq : ∀ x ∈ q, ∀ i, i < 16 → x.getLsbD i = true → U.getLsbD i = true) (hav : ∀ z ∈ c, ∃ x ∈ q, x &&& z = 0#16) {z1 z2 : S} (h1 : z1 ∈ c) (h2 : z2 ∈ c) (r : List S) (hcov : Covered U (z1 :: z2 :: r)) :
    ∃ x ∈ q, ∃ y ∈ q, ∀ i, i < 16 → (x &&& y).getLsbD i = true → ∃ z ∈ r, z.getLsbD i = true := by
  obtain ⟨x, hx, ex⟩ := hav z1 h1
  obtain ⟨y, hy, ey⟩ := hav z2 h2
  rw [zero_iff] at ex ey
  refine ⟨x, hx, y, hy, fun i hi hb => ?_⟩
  rw [BitVec.getLsbD_and, Bool.and_eq_true] at hb
  have e1 := ex i hi
  have e2 := ey i hi
  rw [BitVec.getLsbD_and, hb.1, Bool.true_and] at e1
  rw [BitVec.getLsbD_and, hb.2, Bool.true_and] at e2
  obtain ⟨z, hz, h3⟩ := hcov i hi (hq x hx i hi hb.1)
  rcases List.mem_cons.1 hz with rfl | hz
  · rw [e1] at h3; cases h3
  · rcases List.mem_cons.1 hz with rfl | hz
    · rw [e2] at h3; cases h3
    · exact ⟨z, hz, h3⟩
/-- a list of at most k + 1 members as one of just k + 1 -/
theorem pad_members {c t : List S} {k : Nat} (hc : c ≠ []) (ht : ∀ x ∈ t, x ∈ c) (hl : t.length ≤ k) : ∃ t' : List S, t'.length = k ∧ (∀ x ∈ t', x ∈ c) ∧ ∀ x ∈ t, x ∈ t' := by
  obtain ⟨a, r, rfl⟩ := List.exists_cons_of_ne_nil hc
  refine ⟨t ++ List.replicate (k - t.length) a, by simp; omega, fun x hx => ?_, fun x hx => List.mem_append_left _ hx⟩
  rcases List.mem_append.1 hx with h | h
  · exact ht x h
  · rw [(List.mem_replicate.1 h).2]; simp
theorem covered_mono {m : S} {t t' : List S} (h : Covered m t) (hs : ∀ x ∈ t, x ∈ t') : Covered m t' := fun i hi hm => by
  obtain ⟨x, hx, h2⟩ := h i hi hm
  exact ⟨x, hs x hx, h2⟩
theorem needed_dis {q c : List S} {n : Int} (h0 : 0 ≤ n) (h1 : n ≤ 12) (hc : c ≠ []) (hq : ∀ x ∈ q, ∀ i, i < 16 → x.getLsbD i = true → (fullS n.toNat).getLsbD i = true) (hav : availS q c = true) (hd : disOK c q = true) : ((covRes n c 3).2 == 13) = true := by
  rw [show (3 : Int) = ((3 : Nat) : Int) from rfl, free_iff n c 3 h0 h1 (by omega)]
  rintro ⟨t, ht, hl, hcov⟩
  obtain ⟨t', hl', ht', hs⟩ := pad_members hc ht hl
  match t', hl' with
  | [z1, z2, z3], _ =>
    obtain ⟨x, hx, y, hy, hb⟩ := needed_core hq ((availS_iff q c).1 hav) (ht' z1 (by simp)) (ht' z2 (by simp)) [z3] (covered_mono hcov hs)
    refine (disOK_iff c q).1 hd x hx y hy z3 (ht' z3 (by simp)) ?_
    rw [zero_iff]
    intro i hi
    rw [BitVec.getLsbD_and]
    cases hxy : (x &&& y).getLsbD i with
    | false => simp
    | true =>
      obtain ⟨z, hz, h4⟩ := hb i hi hxy
      rw [List.mem_singleton] at hz
      subst hz
      rw [BitVec.getLsbD_not, h4]; simp
theorem fullS_out (n : Nat) (h : n ≤ 12) : fullS n &&& 61440#16 = 0#16 := by
  have : ∀ k : Fin 13, fullS k.val &&& 61440#16 = 0#16 := by decide +kernel
  exact this ⟨n, by omega⟩
theorem compl_in (n : Nat) (h : n ≤ 12) (b : List S) : (compl n b).any outS = false := by
  rw [← Bool.not_eq_true, List.any_eq_true]
  rintro ⟨x, hx, h2⟩
  obtain ⟨y, -, rfl⟩ := List.mem_map.1 hx
  have e : fullS n &&& ~~~y &&& 61440#16 = 0#16 := by
    have h3 := fullS_out n h
    rw [zero_iff] at h3 ⊢
    intro i hi
    have h4 := h3 i hi
    rw [BitVec.getLsbD_and] at h4
    rw [BitVec.getLsbD_and, BitVec.getLsbD_and]
    cases h5 : (fullS n).getLsbD i with
    | false => simp
    | true => rw [h5, Bool.true_and] at h4; rw [h4]; simp
  unfold outS at h2
  rw [e] at h2
  simp at h2
/-- each complement has a minimal set inside it, and each minimal set is a complement -/
theorem least_below (l : List S) (x : S) (hx : x ∈ l) : ∃ y ∈ leastP l, sub y x = true := by
  rw [leastP_filter]
  obtain ⟨y, h1, h2, h3⟩ := below_lone (sortS' l) _ x rfl (((sortS_asc l).2 x).2 hx)
  exact ⟨y, List.mem_filter.2 ⟨h1, h2⟩, h3⟩
theorem least_mem (l : List S) (x : S) (hx : x ∈ leastP l) : x ∈ l := by
  rw [leastP_filter] at hx
  exact ((sortS_asc l).2 x).1 (List.mem_filter.1 hx).1
theorem compl_bit (n : Nat) (y : S) (i : Nat) (hi : i < 16) : (fullS n &&& ~~~y).getLsbD i = true ↔ (fullS n).getLsbD i = true ∧ (y &&& fullS n).getLsbD i = false := by
  rw [BitVec.getLsbD_and, BitVec.getLsbD_not, BitVec.getLsbD_and]
  cases (fullS n).getLsbD i <;> cases y.getLsbD i <;> simp [hi]
/-- F: the family; c: the sets among n servers -/
theorem canon_avail (n : Nat) (b : List S) : availS (leastP (compl n b)) (withinS n b) = true := by
  rw [availS_iff]
  intro z hz
  obtain ⟨y, hy, rfl⟩ := List.mem_map.1 hz
  obtain ⟨x, hx, hs⟩ := least_below (compl n b) (fullS n &&& ~~~y) (List.mem_map.2 ⟨y, hy, rfl⟩)
  refine ⟨x, hx, ?_⟩
  rw [sub_iff] at hs
  rw [zero_iff]
  intro i hi
  rw [BitVec.getLsbD_and]
  cases hb : x.getLsbD i with
  | false => rfl
  | true => rw [((compl_bit n y i hi).1 (hs i hi hb)).2]; rfl
theorem canon_bit {n : Nat} {b : List S} {x : S} (hx : x ∈ leastP (compl n b)) : ∃ z ∈ withinS n b, ∀ i, i < 16 → (x.getLsbD i = true ↔ (fullS n).getLsbD i = true ∧ z.getLsbD i = false) := by
  obtain ⟨y, hy, rfl⟩ := List.mem_map.1 (least_mem _ x hx)
  exact ⟨y &&& fullS n, List.mem_map.2 ⟨y, hy, rfl⟩, fun i hi => compl_bit n y i hi⟩
theorem withinS_ne (n : Nat) {b : List S} (h : b ≠ []) : withinS n b ≠ [] := by
  unfold withinS; simpa using h
theorem leastP_sub (n : Nat) (b : List S) : ∀ x ∈ leastP (compl n b), ∀ i, i < 16 → x.getLsbD i = true → (fullS n).getLsbD i = true := fun x hx i hi hb => by
  obtain ⟨z, -, h⟩ := canon_bit hx
  exact ((h i hi).1 hb).1
theorem canon_dis (n : Int) (b : List S) (h0 : 0 ≤ n) (h1 : n ≤ 12) (hb : b ≠ []) : disOK (withinS n.toNat b) (leastP (compl n.toNat b)) = ((covRes n (withinS n.toNat b) 3).2 == 13) := by
  rw [Bool.eq_iff_iff]
  constructor
  · exact fun h => needed_dis h0 h1 (withinS_ne _ hb) (leastP_sub _ b) (canon_avail _ b) h
  · rw [show (3 : Int) = ((3 : Nat) : Int) from rfl, free_iff n _ 3 h0 h1 (by omega), disOK_iff]
    intro h x hx y hy z hz e
    obtain ⟨u, hu, bu⟩ := canon_bit hx
    obtain ⟨v, hv, bv⟩ := canon_bit hy
    apply h
    refine ⟨[u, v, z], fun a ha => ?_, Nat.le_refl _, fun i hi hm => ?_⟩
    · simp only [List.mem_cons, List.not_mem_nil, or_false] at ha
      rcases ha with rfl | rfl | rfl
      · exact hu
      · exact hv
      · exact hz
    · rw [zero_iff] at e
      have h5 := e i hi
      rw [BitVec.getLsbD_and, BitVec.getLsbD_and, BitVec.getLsbD_not] at h5
      cases c1 : u.getLsbD i with
      | true => exact ⟨u, by simp, c1⟩
      | false =>
        cases c2 : v.getLsbD i with
        | true => exact ⟨v, by simp, c2⟩
        | false =>
          rw [(bu i hi).2 ⟨hm, c1⟩, (bv i hi).2 ⟨hm, c2⟩] at h5
          exact ⟨z, by simp, by simpa [hi] using h5⟩
end Go.Proofs.YtijknodekomdfaaGreatDoor
