/- Texts joined into one (wip/bin/pack.py): SafG, SndG. -/
import Derived.Test.YtijknodekomdfaaGreatDoorKZj
import Derived.Test.YtijknodekomdfaaGreatDoorKYc
import Derived.Test.YtijknodekomdfaaGreatDoorKU
/- Safe at configurations that are valid; joint.Safe; the reference's; how few rows these have. -/
namespace Go.Proofs.YtijknodekomdfaaGreatDoor
open Go.RowKit Go.Lib Go.Shelf
def safC (wt : S) (x : CA) : Bool := safe27 x.c.kd wt x.c.M x.c.R x.c.Q x.c.F
def Few9 (c : Cf) : Prop := (rowsR (byz27 c.kd c.M c.F) c.R c.Q).length ≤ 9000000
/-! ### sizes -/
theorem ch10 : ∀ n : Fin 6, ∀ k : Fin 6, (chTo (fullS n.val) k.val 32).length ≤ 10 := by decide +kernel
theorem sets_ten (md : Int) (l : List S) {n : Nat} (h1 : 1 ≤ n) (hn : n ≤ 5) : (setsR md l n).length ≤ 10 := by
  unfold setsR
  split
  · have hk := (kOf_in l h1).2
    have h := ch10 ⟨n, by omega⟩ ⟨kOf l n, by omega⟩
    rw [← chooseA_eq _ _ (32 + 65504) rfl, chTo32 (full32 ⟨n, by omega⟩) _ 65504 (by omega)]
    exact h
  · refine Nat.le_trans (refLeast_len _) ?_
    have h1 := cutN_le (fullS n) (l.take 6)
    have h2 := List.length_take_le 6 l
    unfold orAll
    split
    · simp
    · omega
theorem few_of {c : Cf} {k : Nat} (hk : k ≤ 100) (hR : c.R.length ≤ k) (hQ : c.Q.length ≤ k) (hv : cvf c = 0) : Few9 c := by
  have hb := byz27_le c.kd c.M c.F
  have hf : c.F.length ≤ 100 := fv_len (cv_parts (cvf_cv hv).2).2.2.2.2
  have h := rowsR_len (byz27 c.kd c.M c.F) c.R c.Q
  have e1 : c.Q.length * (byz27 c.kd c.M c.F).length ≤ 100 * 101 := Nat.mul_le_mul (by omega) (by omega)
  have e2 : c.R.length * (c.Q.length * (byz27 c.kd c.M c.F).length) ≤ 100 * (100 * 101) := Nat.mul_le_mul (by omega) e1
  have e3 : c.Q.length * (c.Q.length * (byz27 c.kd c.M c.F).length) ≤ 100 * (100 * 101) := Nat.mul_le_mul (by omega) e1
  unfold Few9
  omega
theorem md_ten (nm : ByteArray) (d : D29) : (mdC nm d).R.length ≤ 10 ∧ (mdC nm d).Q.length ≤ 10 := by
  have hn1 : 1 ≤ nOf d.N := by unfold nOf; omega
  have hn := nOf_le d.N
  unfold mdC made29 mvL
  dsimp only
  rw [List.length_map, List.length_map]
  exact ⟨sets_ten _ _ hn1 hn, sets_ten _ _ hn1 hn⟩
theorem md_few {nm : ByteArray} (hnm : nmB nm = true) (d : D29) : Few9 (mdC nm d) :=
  few_of (k := 10) (by decide) (md_ten nm d).1 (md_ten nm d).2 (mdC_valid hnm d)
theorem leastP_len (l : List S) : (leastP l).length ≤ l.length := by
  rw [least_same]; exact refLeast_len l
theorem unS8_len (f g : List S) : (unS8 f g).length = f.length * g.length := flatMap_count f _ _ (fun _ => List.length_map ..)
theorem and_len {f g : List S} (h : (andS f g).2 = 0) : (andS f g).1.length ≤ f.length * g.length := by
  rw [(and_ok h).2.2.1, ← unS8_len]
  exact leastP_len _
theorem of_few {a b : Cf} (h : ofE a b = 0) (ha : a.R.length ≤ 10 ∧ a.Q.length ≤ 10) (hb : b.R.length ≤ 10 ∧ b.Q.length ≤ 10) : Few9 (ofC a b) := by
  have ho := of_ok h
  have h1 := and_len ho.r
  have h2 := and_len ho.q
  have e1 : a.R.length * b.R.length ≤ 10 * 10 := Nat.mul_le_mul ha.1 hb.1
  have e2 : a.Q.length * b.Q.length ≤ 10 * 10 := Nat.mul_le_mul ha.2 hb.2
  have hc := ho.c
  refine few_of (k := 100) (by decide) ?_ ?_ ho.cvf <;> rw [hc] <;> dsimp only <;> omega
/-! ### calls -/
theorem csafG_any (x : CA) (wt : S) (w : World) (hT : Tab w) (h : RoG w x) (hv : cvf x.c = 0) : Calls Tryz.prog 14 #[vg x, .int .u16 (sv wt)] w fun e w' => e = .returned (.bool (safC wt x)) ∧ Keeps w w' := by
  haveI : NmOk x.c.nm := ⟨(cvf_cv hv).1⟩
  exact cSafe_any x.c.kd wt x.c.M w hT h (cvf_len hv)
def FewL (l : List CA) : Prop := ∀ x ∈ l, Few9 x.c
end Go.Proofs.YtijknodekomdfaaGreatDoor
/- Sound at configurations that are valid; joint.Sound (under way). -/
namespace Go.Proofs.YtijknodekomdfaaGreatDoor
open Go.RowKit Go.Lib Go.Shelf
def sndC (wt : S) (m : List F2) (x : CA) : Bool := soundS x.c.kd wt x.c.M x.c.R x.c.Q x.c.F m
theorem sndG_any (x : CA) (wt : S) (a : Option Addr) (n c : Nat) (m : List F2) (w : World) (h : RdG w x) (hm : Rd w a n c 2 (fl m)) (hn : n ≤ 1000000) (hv : cvf x.c = 0) :
    Calls Tryz.prog 21 #[vg x, .int .u16 (sv wt), .slice a n c] w fun e w' => e = .returned (.bool (sndC wt m x)) ∧ Keeps w w' := by
  haveI : NmOk x.c.nm := ⟨(cvf_cv hv).1⟩
  exact sound_any x.c.kd wt x.c.M a n c m w h hm hn
end Go.Proofs.YtijknodekomdfaaGreatDoor
