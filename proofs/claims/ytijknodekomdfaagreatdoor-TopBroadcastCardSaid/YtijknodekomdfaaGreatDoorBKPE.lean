/- Texts joined into one, what is needed of them (a program of ours). -/
import Derived.Test.YtijknodekomdfaaGreatDoorBKY
import Derived.Test.YtijknodekomdfaaGreatDoorBKO
namespace Go.Proofs.YtijknodekomdfaaGreatDoor
open Go.RowKit Go.Lib Go.Shelf

theorem st5_oth {W : World} {B C : Nat} {T : TypeId} {cs : Array Value} (h : Blk W B T cs) (hn : B ≠ C) (u0 u1 u2 u3 u4 : Value) : Blk (st5 W C u0 u1 u2 u3 u4) B T cs :=
  ((((h.setOther hn 0 u0).setOther hn 1 u1).setOther hn 2 u2).setOther hn 3 u3).setOther hn 4 u4
theorem full_bit : ∀ (n : Fin 9) (i : Fin 16), (1#16 <<< n.val - 1#16).getLsbD i.val = decide (i.val < n.val) := by decide +kernel
theorem rest_mem {n : Nat} (t : S) (hn : n ≤ 8) : memL (restS n t) = corrL n t := by
  have h1 : ∀ i, i < 16 → (restS n t).getLsbD i = corr n t i := fun i hi => by
    unfold restS corr
    rw [BitVec.getLsbD_and, BitVec.getLsbD_not, full_bit ⟨n, by omega⟩ ⟨i, hi⟩, decide_eq_true hi, Bool.true_and]
  unfold memL corrL
  have hr : ∀ m : Nat, n + m = 16 → List.range 16 = List.range n ++ (List.range m).map (n + ·) := fun m hm => by rw [← hm, List.range_add]
  rw [List.filter_congr (fun i hi => h1 i (List.mem_range.1 hi)), hr (16 - n) (by omega), List.filter_append]
  have h2 : ((List.range (16 - n)).map (n + ·)).filter (corr n t) = [] := List.filter_eq_nil_iff.2 fun i hi => by
    obtain ⟨j, _, rfl⟩ := List.mem_map.1 hi
    unfold corr
    rw [decide_eq_false (by omega)]
    simp
  rw [h2, List.append_nil]
theorem cnt_low {n : Nat} {t : S} (h : t.toNat < 2 ^ n) : ∀ m, cntTo t (n + m) = cntTo t n
  | 0 => rfl
  | m + 1 => by
    show cntTo t (n + m) + (t.toNat >>> (n + m)) % 2 = _
    rw [cnt_low h m, Nat.shiftRight_eq_div_pow, Nat.div_eq_of_lt (Nat.lt_of_lt_of_le h (Nat.pow_le_pow_right (by decide) (by omega)))]
    rfl
theorem filter_two {α : Type} (p : α → Bool) : ∀ l : List α, (l.filter p).length + (l.filter fun x => !p x).length = l.length
  | [] => rfl
  | a :: r => by
    have := filter_two p r
    rw [List.filter_cons, List.filter_cons]
    cases p a <;> simp <;> omega
theorem rest_eq {n : Nat} {t : S} (hn : n ≤ 8) (h : t.toNat < 2 ^ n) : memL (restS n t) = corrL n t ∧ (corrL n t).length + cnt t = n := by
  refine ⟨rest_mem t hn, ?_⟩
  have h1 := cnt_low h (16 - n)
  rw [show n + (16 - n) = 16 by omega] at h1
  have h2 := filter_two (fun i => (t >>> i) &&& 1#16 == 1#16) (List.range n)
  rw [List.length_range] at h2
  have h3 : (memTo t n).length = cntTo t n := memTo_cnt t n
  unfold memTo at h3
  rw [← corTo_eq]
  unfold corTo cnt
  rw [h1]
  omega
end Go.Proofs.YtijknodekomdfaaGreatDoor
namespace Go.Proofs.YtijknodekomdfaaGreatDoor
open Go.RowKit Go.Lib Go.Shelf

end Go.Proofs.YtijknodekomdfaaGreatDoor
