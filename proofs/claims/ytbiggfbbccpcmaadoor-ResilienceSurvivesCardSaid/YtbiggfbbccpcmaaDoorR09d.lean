/- The reference of the layer transversal: Minimal, Made, Coterie, starred, Dominated. -/
import Derived.Test.YtbiggfbbccpcmaaDoorDualM
namespace Go.Proofs.YtbiggfbbccpcmaaDoor
open Go.RowKit Go.Lib Go.Shelf

def mIn (x : S) : List S → List S → List S
  | out, [] => out
  | out, y :: ys => mIn x (if (y == x && !accS out x) = true then out ++ [x] else out) ys
def rminR (f : List S) : List S → List S → List S
  | out, [] => out
  | out, x :: xs => rminR f (mIn x out f) xs
def rminS (f : List S) : List S := rminR f [] (refSubs (supS f))
theorem accS_snoc (out : List S) (x : S) : accS (out ++ [x]) x = true := by
  rw [accS_iff]; exact ⟨x, by simp, sub_refl x⟩
theorem mIn_acc (x : S) : ∀ (f out : List S), accS out x = true → mIn x out f = out
  | [], _, _ => rfl
  | y :: ys, out, h => by
    rw [mIn, if_neg (by rw [h]; simp)]; exact mIn_acc x ys out h
theorem mIn_eq (x : S) : ∀ (f out : List S), accS out x = false → mIn x out f = if f.contains x then out ++ [x] else out
  | [], out, _ => rfl
  | y :: ys, out, h => by
    rw [mIn, contains_cons, h]
    cases hq : y == x with
    | true => rw [if_pos (by rfl), mIn_acc x ys _ (accS_snoc out x)]; simp
    | false => rw [if_neg (by simp), mIn_eq x ys out h]; simp
theorem rminR_least (f : List S) : ∀ (l out : List S), rminR f out l = leastR out (l.filter fun x => f.contains x)
  | [], out => by simp [rminR, leastR]
  | x :: xs, out => by
    rw [rminR, rminR_least f xs, List.filter_cons]
    cases ha : accS out x with
    | true =>
      rw [mIn_acc x f out ha]
      cases hf : f.contains x with
      | true => simp [leastR, ha]
      | false => simp
    | false =>
      rw [mIn_eq x f out ha]
      cases hf : f.contains x with
      | true => simp [leastR, ha]
      | false => simp
theorem mIn_len (x : S) (f out : List S) : (mIn x out f).length ≤ out.length + 1 := by
  cases ha : accS out x with
  | true => rw [mIn_acc x f out ha]; omega
  | false => rw [mIn_eq x f out ha]; split <;> simp

set_option maxHeartbeats 1600000 in
theorem rMinimal_any (a : Option Addr) (n c : Nat) (l : List S) (w : World) (h : Rd w a n c 1 (sl l)) :
    Calls Tryd.prog 35 #[.slice a n c] w fun e w' => ∃ v, e = .returned v ∧ Own 31 1 w w' v (rminS l).length (sl (rminS l)) := by
  have L := Lib.hid h.lenS
  have sn := h.small
  have hsup := rSupport_any a n c l w h
  have hsub := fun W => rSubs_any (supS l) W
  have hlen := refSubs_len (supS l)
  unfold rminS
  generalize supS l = s at *
  generalize refSubs s = m at *
  have HSU := Lib.hid hsup; have HSB := Lib.hid hsub; clear hsup hsub
  go_enter Tryd.func35, Tryd.ntmps35
  go_wp2_with fail
  refine HSU.out.mono ?_
  rintro e w' ⟨rfl, rfl⟩
  go_wp2_with fail
  refine (HSB.out _).mono ?_
  rintro e w1 ⟨v1, rfl, hO⟩
  obtain ⟨a1, c1, rfl, hR⟩ := hO.rd
  have s1 := hR.small
  go_wp2_with fail
  go_loopw [3, 5] (fun u v wr => ∃ (i : Nat) (acc : List S), i ≤ m.length ∧ v = .int .i64 i ∧ acc.length ≤ i ∧ Own 31 1 w1 wr u acc.length (sl acc) ∧ Hid (rminR l [] m = rminR l acc (m.drop i))) (fun _ v _ => m.length - (intOf v).toNat)
  case atStart => exact ⟨0, [], Nat.zero_le _, rfl, Nat.zero_le _, Own.nil _ _ (Keeps.refl _), rfl⟩
  case round =>
    obtain ⟨i, acc, hi, rfl, hai, hA, HI⟩ := hrel
    by_cases hlt : i < m.length
    · have ha := hR.isSome (by omega)
      have hst := HI.out
      rw [drop_at m i hlt, rminR] at hst
      have hml := mIn_len (at_ m i) l acc
      have HST := Lib.hid hst; have HML := Lib.hid hml; clear hst hml HI
      go_wp2
      go_loopw [3, 6] (fun u v wx => ∃ (k : Nat) (out : List S), k ≤ n ∧ v = .int .i64 k ∧ out.length ≤ i + 1 ∧ Own 31 1 w1 wx u out.length (sl out) ∧ Hid (mIn (at_ m i) acc l = mIn (at_ m i) out (l.drop k))) (fun _ v _ => n - (intOf v).toNat)
      case atStart => exact ⟨0, acc, Nat.zero_le _, rfl, by omega, hA, rfl⟩
      case round =>
        obtain ⟨k, out, hk, rfl, hol, hB, HJ⟩ := hrel
        by_cases hlk : k < n
        · have hck := (h.keep (hO.2.trans hB.2)).at hlk
          have hci := (hR.keep hB.2).at hlt
          have hs := h.isSome (by omega)
          have hst := HJ.out
          rw [dropH L hlk, mIn] at hst
          have HN : Hid (out.length + 1 ≤ 10000000) := by show _ ≤ _; omega
          obtain ⟨a2, c2, rfl, hRo⟩ := hB.rd
          cases hq : (at_ l k == at_ m i) with
          | false =>
            have HK : Hid (mIn (at_ m i) acc l = mIn (at_ m i) out (l.drop (k + 1))) := by show _ = _; rw [hst, hq]; rfl
            clear hst HJ
            go_wp2_with (go_quiet (fail))
            go_roundw
            case rel => exact ⟨k + 1, out, by omega, by go_num, hol, hB.keep ((Keeps.refl _).drewN _), HK⟩
            case measure => simp [intOf]; omega
          | true =>
            have hacc := fun W (K : Keeps wr W) => rAccepts_any a2 out.length c2 out (at_ m i) W (hRo.keep K)
            cases hq2 : accS out (at_ m i) with
            | true =>
              rw [hq2] at hacc
              have HA := Lib.hid fun W K => (hacc W K).mono fun e w' ⟨a, b⟩ => (⟨a, b.symm⟩ : e = _ ∧ w' = W)
              have HK : Hid (mIn (at_ m i) acc l = mIn (at_ m i) out (l.drop (k + 1))) := by show _ = _; rw [hst, hq, hq2]; rfl
              clear hst HJ hacc hq2
              go_wp2_with (go_quiet ((go_at_call 58; exact Calls.quiet_of_same (HA.out _ ((Keeps.refl _).drewN _)))))
              go_roundw
              case rel => exact ⟨k + 1, out, by omega, by go_num, hol, hB.keep ((Keeps.refl _).drewN _), HK⟩
              case measure => simp [intOf]; omega
            | false =>
              rw [hq2] at hacc
              have HA := Lib.hid fun W K => (hacc W K).mono fun e w' ⟨a, b⟩ => (⟨a, b.symm⟩ : e = _ ∧ w' = W)
              have HK : Hid (mIn (at_ m i) acc l = mIn (at_ m i) (out ++ [at_ m i]) (l.drop (k + 1))) := by show _ = _; rw [hst, hq, hq2]; rfl
              have hol2 : out.length ≤ i := by
                have h1 := mIn_eq (at_ m i) l acc
                have h3 := hst
                rw [hq, hq2] at h3
                rcases Nat.lt_or_ge i out.length with h4 | h4
                · exfalso
                  have h5 : accS (out ++ [at_ m i]) (at_ m i) = true := accS_snoc _ _
                  have h6 : mIn (at_ m i) (out ++ [at_ m i]) (l.drop (k + 1)) = out ++ [at_ m i] := mIn_acc _ _ _ h5
                  have h7 := HML.out
                  rw [h3] at h7
                  simp only [Bool.not_false, Bool.and_true, if_true] at h7
                  rw [h6] at h7
                  simp at h7
                  omega
                · exact h4
              clear hst HJ hacc hq2
              go_wp2_with (first | (go_quiet ((go_at_call 58; exact Calls.quiet_of_same (HA.out _ ((Keeps.refl _).drewN _))))) | (at_builtin; refine wp_app tyS rfl _ _ rfl ((hB.keep ((Keeps.refl _).drewN _)).alloc _) rfl rfl (rd_new _ 1 _ [.int .u16 (sv (at_ m i))] 1 (by decide) rfl) (sl_oneCell [at_ m i]) HN.out ?_))
              intro v' w3 hO3 _
              go_wp2
              go_roundw
              case rel => exact ⟨k + 1, out ++ [at_ m i], by omega, by go_num, by simp; omega, hO3.snoc, HK⟩
              case measure => simp [intOf]; omega
        · have hof : mIn (at_ m i) acc l = out := by rw [HJ.out, dropN L hlk]; rfl
          have HK : Hid (rminR l [] m = rminR l out (m.drop (i + 1))) := by show _ = _; rw [HST.out, hof]
          clear hof HJ
          go_wp2
          go_roundw
          case rel => exact ⟨i + 1, out, by omega, by go_num, hol, hB, HK⟩
          case measure => simp [intOf]; omega
    · go_wp2
      go_ret
      refine ⟨_, rfl, ?_⟩
      rw [HI.out, drop_all m i (by omega), rminR]
      exact hA.since hO.2

/-! ### Made -/
abbrev B8 := BitVec 8
def bv (x : B8) : Int := x.toNat
def bl (l : List B8) : List Value := l.map fun x => .int .u8 (bv x)
def bat (l : List B8) (i : Nat) : B8 := l.getD i 0#8
/-- what a byte stands for: a set of the servers 0 to 5 -/
def bset (x : B8) : S := BitVec.ofNat 16 (x.toNat % 64)
theorem bset_lt (x : B8) : (bset x).toNat < 64 := by unfold bset; rw [BitVec.toNat_ofNat]; omega
theorem u8_63 : ∀ i : Fin 256, bits .and .u8 (i.val : Int) 63 = ((i.val % 64 : Nat) : Int) := by decide +kernel
@[go_sem] theorem bv_63 (x : B8) : bits .and .u8 (bv x) 63 % 65536 = sv (bset x) := by
  have := u8_63 ⟨x.toNat, x.isLt⟩
  unfold bv bset sv
  simp only at this
  rw [this, BitVec.toNat_ofNat]; omega
@[go_sem] theorem bv_63w (x : B8) : IntKind.u16.wrap (bits .and .u8 (bv x) 63) = sv (bset x) := by
  rw [IntKind.wrap_u16]; exact bv_63 x
theorem bl_at (l : List B8) (i : Nat) (h : i < l.length) : (bl l)[i]? = some (.int .u8 (bv (bat l i))) := by simp [bl, bat, h, List.getD]
theorem Rd.lenB {w : World} {a : Option Addr} {n c : Nat} {l : List B8} (h : Rd w a n c 1 (bl l)) : l.length = n := by have := h.len; simpa [bl] using this
theorem Rd.atB {w : World} {a : Option Addr} {n c : Nat} {l : List B8} (h : Rd w a n c 1 (bl l)) {i : Nat} (hi : i < n) : w.cell? (adr a i) = some (.int .u8 (bv (bat l i))) :=
  h.cell i _ (bl_at l i (by have := h.lenB; omega))
/-- the sets of the first twenty bytes -/
def pre20 (l : List B8) : List S := (l.take 20).map bset
theorem pre20_snoc (l : List B8) (k : Nat) (h : k < l.length) : ((l.take (k + 1)).map bset) = (l.take k).map bset ++ [bset (bat l k)] := by
  have e : bat l k = l[k] := by simp [bat, List.getD, h]
  rw [List.take_succ_eq_append_getElem h, List.map_append, e]; rfl
def madeS (l : List B8) : List S := rminS (pre20 l)
set_option maxHeartbeats 800000 in
theorem made_any (a : Option Addr) (n c : Nat) (l : List B8) (w : World) (h : Rd w a n c 1 (bl l)) :
    Calls Tryd.prog 10 #[.slice a n c] w fun e w' => ∃ v, e = .returned v ∧ Own 31 1 w w' v (madeS l).length (sl (madeS l)) := by
  have sn := h.small
  have L := Lib.hid h.lenB
  have hm := fun W a2 c2 p (K : Keeps w W) (hr : Rd W a2 p c2 1 (sl (pre20 l))) => rMinimal_any a2 p c2 (pre20 l) W hr
  unfold madeS
  have HM := Lib.hid hm; clear hm
  go_enter Tryd.func10, Tryd.ntmps10
  go_wp2
  go_loopw [3, 4] (fun u v wr => ∃ (k : Nat), k ≤ n ∧ k ≤ 20 ∧ v = .int .i64 k ∧ Own 31 1 w wr u k (sl ((l.take k).map bset))) (fun _ v _ => 20 - (intOf v).toNat)
  case atStart => exact ⟨0, Nat.zero_le _, Nat.zero_le _, rfl, Own.nil _ _ (Keeps.refl _)⟩
  case round =>
    obtain ⟨k, hk, hk2, rfl, hA⟩ := hrel
    by_cases hlt : k < n
    · by_cases h20 : k < 20
      · have hc := (h.keep hA.2).atB hlt
        have hs := h.isSome (by omega)
        have HS := Lib.hid (pre20_snoc l k (by have := L.out; omega))
        go_wp2_with (at_builtin; refine wp_app tyS rfl _ _ rfl (hA.alloc _) rfl rfl (rd_new _ 1 _ [.int .u16 (sv (bset (bat l k)))] 1 (by decide) rfl) (sl_oneCell [bset (bat l k)]) (by omega) ?_)
        intro v' w3 hO3 _
        go_wp2
        go_roundw
        case rel => exact ⟨k + 1, by omega, by omega, by go_num, by rw [HS.out, sl_append, List.map_take]; exact hO3⟩
        case measure => simp [intOf]; omega
      · have hk20 : k = 20 := by omega
        have h20' : ¬ ((k : Int) < 20) := by omega
        have HK := Lib.hid hk20; clear hk20
        obtain ⟨a2, c2, rfl, hRa⟩ := hA.rd
        have e : (l.take k).map bset = pre20 l := by rw [HK.out]; rfl
        rw [e] at hRa
        have HE := Lib.hid e; clear e
        go_wp2_with fail
        refine (HM.out _ _ _ _ hA.2 hRa).mono ?_
        rintro e w2 ⟨v2, rfl, hO⟩
        go_wp2_with fail
        go_ret
        exact ⟨_, rfl, hO.since hA.2⟩
    · have hkn : k = n := by omega
      obtain ⟨a2, c2, rfl, hRa⟩ := hA.rd
      have e : (l.take k).map bset = pre20 l := by
        unfold pre20
        have := L.out
        rw [List.take_of_length_le (by omega), List.take_of_length_le (by omega)]
      rw [e] at hRa
      have HE := Lib.hid e; have HKN := Lib.hid hkn; clear e hkn
      go_wp2_with fail
      refine (HM.out _ _ _ _ hA.2 hRa).mono ?_
      rintro e w2 ⟨v2, rfl, hO⟩
      go_wp2_with fail
      go_ret
      exact ⟨_, rfl, hO.since hA.2⟩

/-! ### Coterie, starred, Dominated -/
def rcotS (l : List S) : Bool := rvalS l == 0 && (decide (0 < l.length) && (crossS l l && eqS (rminS l) l))
def starErr (l : List S) : List S × Int := if rvalS l ≠ 0 then ([], rvalS l) else if rcotS l = true then rdualErr l else ([], 1)
def rdomErr (l : List S) : Bool × Int := ((starErr l).2 == 0 && !eqS (starErr l).1 l, (starErr l).2)
def RetB (r : Bool × Int) (e : Ending) : Prop := e = .returned (.tuple #[.bool r.1, .int .i64 r.2])
end Go.Proofs.YtbiggfbbccpcmaaDoor
