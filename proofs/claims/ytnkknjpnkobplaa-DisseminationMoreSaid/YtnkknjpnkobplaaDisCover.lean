/- Covers, as the program and the reference find them. -/
import Derived.Test.YtnkknjpnkobplaaDisSmall
namespace Go.Proofs.Ytnkknjpnkobplaa
open Go.RowKit Go.Lib Go.Shelf


/-- The first list of exactly k further sets that covers m. -/
def cov : List S → Nat → S → Option (List S)
  | _, 0, m => if m == 0#16 then some [] else none
  | [], _ + 1, _ => none
  | x :: xs, k + 1, m => match cov xs k (m &&& ~~~x) with | some l => some (x :: l) | none => cov xs (k + 1) m
theorem cov_zero (l : List S) (m : S) : cov l 0 m = if m == 0#16 then some [] else none := by cases l <;> rfl
theorem cov_length {l : List S} {k : Nat} {m : S} {q : List S} (h : cov l k m = some q) : q.length = k := by
  induction l generalizing k m q with
  | nil =>
    cases k with
    | zero => rw [cov_zero] at h; split at h <;> simp at h; subst h; rfl
    | succ k => simp [cov] at h
  | cons x xs ih =>
    cases k with
    | zero => rw [cov_zero] at h; split at h <;> simp at h; subst h; rfl
    | succ k =>
      rw [cov] at h
      cases hq : cov xs k (m &&& ~~~x) with
      | none => rw [hq] at h; exact ih h
      | some r => rw [hq] at h; simp at h; subst h; simp [ih hq]
def outL (r : Option (List S)) : List S := r.getD []
/-- what cover returns -/
def CovPost (w0 : World) (r : Option (List S)) (e : Ending) (w' : World) : Prop :=
  ∃ v, e = .returned (.tuple #[v, .bool r.isSome]) ∧ Own 26 1 w0 w' v (outL r).length (sl (outL r))

set_option maxHeartbeats 1000000 in
theorem cover_any (N : Nat) : ∀ (a : Option Addr) (n c : Nat) (b : List S) (w : World) (fr k : Int) (m : S), Rd w a n c 1 (sl b) → k.toNat = N → 0 ≤ k → k ≤ 4 → 0 ≤ fr → fr ≤ n → n ≤ 1000000 →
    Calls Try.prog 29 #[.slice a n c, .int .i64 fr, .int .i64 k, .int .u16 (sv m)] w fun e w' => CovPost w (cov (b.drop fr.toNat) k.toNat m) e w' := by
  induction N with
  | zero =>
    intro a n c b w fr k m h hk h0 h4 hf0 hf1 hn
    obtain rfl : k = 0 := by omega
    have hz : cov (b.drop fr.toNat) (0 : Int).toNat m = if m == 0#16 then some [] else none := cov_zero _ _
    have HZ := Lib.hid hz; clear hz
    go_enter Try.func29, Try.ntmps29
    go_wp2
    go_ret2
    rw [HZ.out]
    refine ⟨.slice none 0 0, ret_eq ?_, ?_⟩
    · cases (m == 0#16) <;> rfl
    · cases (m == 0#16) <;> exact Own.nil _ _ (Keeps.refl w)
  | succ N ih =>
    intro a n c b w fr k m h hk h0 h4 hf0 hf1 hn
    have IH := Lib.hid ih; clear ih
    have hk0 : (k == 0) = false := by rw [beq_eq_false_iff_ne]; omega
    have hkn : k.toNat = N + 1 := hk
    obtain ⟨f, rfl⟩ := Int.eq_ofNat_of_zero_le hf0
    have HK := Lib.hid hkn; clear hkn hk
    have s1 := h.small; have l1 := h.lenS
    have L1 := Lib.hid l1; clear l1
    rw [HK.out, Int.toNat_natCast]
    go_enter Try.func29, Try.ntmps29
    go_wp2
    go_loopw [10] (fun v wr => ∃ i : Nat, f ≤ i ∧ i ≤ n ∧ v = .int .i64 i ∧ Keeps w wr ∧ Hid (cov (b.drop f) (N + 1) m = cov (b.drop i) (N + 1) m)) (fun v _ => n - (intOf v).toNat)
    case atStart => exact ⟨f, Nat.le_refl _, by omega, rfl, Keeps.refl _, rfl⟩
    case round =>
      obtain ⟨i, hfi, hi, rfl, K1, HI⟩ := hrel
      by_cases hlt : i < n
      · have hr := h.keep K1
        have hc := hr.at hlt
        have ha := h.isSome (by omega)
        have hcall := IH.out a n c b wr ((i : Int) + 1) (k - 1) (m &&& ~~~at_ b i) hr (by have := HK.out; omega) (by have := HK.out; omega) (by omega) (by omega) (by omega) hn
        rw [show ((i : Int) + 1).toNat = i + 1 from by omega, show (k - 1).toNat = N from by have := HK.out; omega] at hcall
        have hstep := dropH L1 hlt
        cases hq : cov (b.drop (i + 1)) N (m &&& ~~~at_ b i) with
        | none =>
          rw [hq] at hcall
          have HQ := Lib.hid hq; have HC := Lib.hid hcall; have HS := Lib.hid hstep; clear hq hcall hstep
          go_wp2_with (go_at_call 29; refine HC.out.mono ?_; rintro e w' ⟨v, rfl, hO⟩; simp only [Option.isSome_none])
          go_roundw
          case rel => exact ⟨i + 1, by omega, by omega, by go_num, K1.trans hO.2, hrfl <| by rw [HI.out, HS.out, cov, HQ.out]⟩
          case measure => simp [intOf]; omega
        | some q =>
          rw [hq] at hcall
          have HQ := Lib.hid hq; have HC := Lib.hid hcall; have HS := Lib.hid hstep; clear hq hcall hstep
          have hln : (outL (some q)).length ≤ 4 := by have := cov_length HQ.out; have := HK.out; simp [outL]; omega
          have hcons : sl (outL (cov (b.drop f) (N + 1) m)) = [.int .u16 (sv (at_ b i))] ++ sl (outL (some q)) := by rw [HI.out, HS.out, cov, HQ.out]; rfl
          have HF := Lib.hid hcons; clear hcons
          go_wp2_with (first | (go_at_call 29; refine HC.out.mono ?_; rintro e w' ⟨v, rfl, hO⟩; simp only [Option.isSome_some]; obtain ⟨ao, co, rfl, hR⟩ := hO.rd; have hc2 := hO.2.cell hc; have K2 := K1.trans hO.2) | (at_builtin; refine wp_app tyS rfl _ _ rfl (Own.made K2 [.int .u16 (sv (at_ b i))] 1 (by decide) rfl) rfl rfl (hR.keep ((Keeps.refl _).alloc _)) (sl_oneCell _) ?_ ?_))
          · omega
          · intro v' w2 hO2 _
            go_wp2
            go_ret2
            refine ⟨v', ret_eq ?_, ?_⟩
            · rw [HI.out, HS.out, cov, HQ.out]; rfl
            · rw [HF.out]
              have e1 : (outL (cov (b.drop f) (N + 1) m)).length = 1 + (outL (some q)).length := by rw [← length_sl, HF.out]; simp; omega
              rw [e1]; exact hO2
      · go_wp2
        go_ret2
        rw [HI.out, dropN L1 hlt]
        exact ⟨.slice none 0 0, rfl, Own.nil _ _ K1⟩
set_option maxHeartbeats 1000000 in
theorem covers_any (N : Nat) : ∀ (a : Option Addr) (n c : Nat) (b : List S) (w : World) (fr k : Int) (m : S), Rd w a n c 1 (sl b) → k.toNat = N → 0 ≤ k → k ≤ 4 → 0 ≤ fr → fr ≤ n → n ≤ 1000000 →
    Calls Try.prog 30 #[.int .u16 (sv m), .slice a n c, .int .i64 fr, .int .i64 k] w fun e w' => CovPost w (cov (b.drop fr.toNat) k.toNat m) e w' := by
  induction N with
  | zero =>
    intro a n c b w fr k m h hk h0 h4 hf0 hf1 hn
    obtain rfl : k = 0 := by omega
    have hz : cov (b.drop fr.toNat) (0 : Int).toNat m = if m == 0#16 then some [] else none := cov_zero _ _
    have HZ := Lib.hid hz; clear hz
    go_enter Try.func30, Try.ntmps30
    go_wp2
    go_ret2
    rw [HZ.out]
    refine ⟨.slice none 0 0, ret_eq ?_, ?_⟩
    · cases (m == 0#16) <;> rfl
    · cases (m == 0#16) <;> exact Own.nil _ _ (Keeps.refl w)
  | succ N ih =>
    intro a n c b w fr k m h hk h0 h4 hf0 hf1 hn
    have IH := Lib.hid ih; clear ih
    have hk0 : (k == 0) = false := by rw [beq_eq_false_iff_ne]; omega
    have hkn : k.toNat = N + 1 := hk
    obtain ⟨f, rfl⟩ := Int.eq_ofNat_of_zero_le hf0
    have HK := Lib.hid hkn; clear hkn hk
    have s1 := h.small; have l1 := h.lenS
    have L1 := Lib.hid l1; clear l1
    rw [HK.out, Int.toNat_natCast]
    go_enter Try.func30, Try.ntmps30
    go_wp2
    go_loopw [10] (fun v wr => ∃ i : Nat, f ≤ i ∧ i ≤ n ∧ v = .int .i64 i ∧ Keeps w wr ∧ Hid (cov (b.drop f) (N + 1) m = cov (b.drop i) (N + 1) m)) (fun v _ => n - (intOf v).toNat)
    case atStart => exact ⟨f, Nat.le_refl _, by omega, rfl, Keeps.refl _, rfl⟩
    case round =>
      obtain ⟨i, hfi, hi, rfl, K1, HI⟩ := hrel
      by_cases hlt : i < n
      · have hr := h.keep K1
        have hc := hr.at hlt
        have ha := h.isSome (by omega)
        have hcall := IH.out a n c b wr ((i : Int) + 1) (k - 1) (m &&& ~~~at_ b i) hr (by have := HK.out; omega) (by have := HK.out; omega) (by omega) (by omega) (by omega) hn
        rw [show ((i : Int) + 1).toNat = i + 1 from by omega, show (k - 1).toNat = N from by have := HK.out; omega] at hcall
        have hstep := dropH L1 hlt
        cases hq : cov (b.drop (i + 1)) N (m &&& ~~~at_ b i) with
        | none =>
          rw [hq] at hcall
          have HQ := Lib.hid hq; have HC := Lib.hid hcall; have HS := Lib.hid hstep; clear hq hcall hstep
          go_wp2_with (go_at_call 30; refine HC.out.mono ?_; rintro e w' ⟨v, rfl, hO⟩; simp only [Option.isSome_none])
          go_roundw
          case rel => exact ⟨i + 1, by omega, by omega, by go_num, K1.trans hO.2, hrfl <| by rw [HI.out, HS.out, cov, HQ.out]⟩
          case measure => simp [intOf]; omega
        | some q =>
          rw [hq] at hcall
          have HQ := Lib.hid hq; have HC := Lib.hid hcall; have HS := Lib.hid hstep; clear hq hcall hstep
          have hln : (outL (some q)).length ≤ 4 := by have := cov_length HQ.out; have := HK.out; simp [outL]; omega
          have hcons : sl (outL (cov (b.drop f) (N + 1) m)) = [.int .u16 (sv (at_ b i))] ++ sl (outL (some q)) := by rw [HI.out, HS.out, cov, HQ.out]; rfl
          have HF := Lib.hid hcons; clear hcons
          go_wp2_with (first | (go_at_call 30; refine HC.out.mono ?_; rintro e w' ⟨v, rfl, hO⟩; simp only [Option.isSome_some]; obtain ⟨ao, co, rfl, hR⟩ := hO.rd; have hc2 := hO.2.cell hc; have K2 := K1.trans hO.2) | (at_builtin; refine wp_app tyS rfl _ _ rfl (Own.made K2 [.int .u16 (sv (at_ b i))] 1 (by decide) rfl) rfl rfl (hR.keep ((Keeps.refl _).alloc _)) (sl_oneCell _) ?_ ?_))
          · omega
          · intro v' w2 hO2 _
            go_wp2
            go_ret2
            refine ⟨v', ret_eq ?_, ?_⟩
            · rw [HI.out, HS.out, cov, HQ.out]; rfl
            · rw [HF.out]
              have e1 : (outL (cov (b.drop f) (N + 1) m)).length = 1 + (outL (some q)).length := by rw [← length_sl, HF.out]; simp; omega
              rw [e1]; exact hO2
      · go_wp2
        go_ret2
        rw [HI.out, dropN L1 hlt]
        exact ⟨.slice none 0 0, rfl, Own.nil _ _ K1⟩
end Go.Proofs.Ytnkknjpnkobplaa
