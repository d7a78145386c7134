/- set.choose and set.Subsets: the iterators' contracts. -/
import Derived.RangeFuncNested
import Derived.RangeFuncBound
import Derived.RangeFuncCalls
import Derived.RangeFuncLeaves
import Derived.RangeFuncBox
import Derived.Shelf.Abstract
import Derived.Shelf.RegionOpen
import Derived.WalkKit
import Derived.OwnWalkIn
import Derived.TacticsInMore
import Derived.LoopNIn
import Derived.LoopIn
import Derived.Test.YtbiggfbbccpcmaaDoorIterU
import Derived.Test.YtbiggfbbccpcmaaDoorFam
namespace Go.Proofs.YtbiggfbbccpcmaaDoor
open Go.RowKit Go.Lib Go.Shelf
attribute [local go_sem] Oper.semAt_some

theorem room_of_none {F : Fence} (hd : F.depth = none) (k : Nat) : F.room k := fun d h => by rw [hd] at h; cases h
theorem YieldAt.anyDepth {F : Fence} (hd : F.depth = none) {m : Nat} (m' : Nat) {P : Program} {l : Nat} {args : Array Value} {W : World} {R : Ending → World → Prop} (h : YieldAt F m P l args W R) : YieldAt F m' P l args W R := by
  obtain ⟨fn, tmps, assign, body, hy, hR⟩ := h
  exact ⟨fn, tmps, assign, body, hy, hR.1, fun c cs _ => hR.2 c cs (room_of_none hd _)⟩
/-- what a round keeps: all below a mark; all rows of ints; one more block -/
structure KpS (n₀ B : Nat) (W W' : World) : Prop where
  below : Below n₀ W W'
  ints : ∀ (k : Nat) (cs : Array Value), W.heap[k]? = some (.cells cs 3 (0, 0)) → W'.heap[k]? = W.heap[k]?
  box : ∀ o, W.heap[B]? = some o → W'.heap[B]? = some o
theorem KpS.of {n₀ B : Nat} {W W' : World} (h : Keeps W W') (hn : n₀ ≤ W.heap.size) : KpS n₀ B W W' :=
  ⟨h.below.mono hn, fun k _ hk => h.below.block k (Array.getElem?_eq_some_iff.1 hk).1, fun _ ho => (h.below.block B (Array.getElem?_eq_some_iff.1 ho).1).trans ho⟩
theorem KpS.refl (n₀ B : Nat) (W : World) : KpS n₀ B W W := ⟨Below.refl _ _, fun _ _ _ => rfl, fun _ h => h⟩
theorem KpS.trans {n₀ B : Nat} {X Y Z : World} (h : KpS n₀ B X Y) (k : KpS n₀ B Y Z) : KpS n₀ B X Z :=
  ⟨h.below.trans k.below, fun i cs hi => (k.ints i cs ((h.ints i cs hi).trans hi)).trans (h.ints i cs hi), fun o ho => k.box o (h.box o ho)⟩
theorem KpS.size {n₀ B : Nat} {W W' : World} (h : KpS n₀ B W W') : W.heap.size ≤ W'.heap.size := h.below.size
theorem KpS.own {n₀ B : Nat} {W W' : World} (h : KpS n₀ B W W') {b sz : Nat} {v : Value} {n : Nat} {xs : List Value} (ho : W.ownsRow b 3 sz v n xs) : W'.ownsRow b 3 sz v n xs := by
  refine ⟨ho.1, ?_⟩
  rcases ho.2 with h1 | ⟨g, cap, cur, rfl, hb, hg, r⟩
  · exact .inl h1
  · exact .inr ⟨g, cap, cur, rfl, hb, (h.ints g cur hg).trans hg, r⟩
theorem Tab.lt {w : World} (h : Tab w) : 0 < w.heap.size := World.block_lt_of_cell? w _ (h 0 (by decide))
theorem Tab.below {n₀ : Nat} {W W' : World} (h : Tab W) (k : Below n₀ W W') (hn : 0 < n₀) : Tab W' := fun i hi => (k.cell (p := ⟨0, i, none⟩) hn).trans (h i hi)

theorem uv_lt (x : U) (n : Nat) (h : n ≤ 12) : decide (uv x < uv (1#32 <<< n)) = decide (x.toNat < 2 ^ n) := by
  have : uv (1#32 <<< n) = ((2 ^ n : Nat) : Int) := by
    unfold uv; rw [BitVec.toNat_shiftLeft, Nat.shiftLeft_eq]
    have : 2 ^ n ≤ 2 ^ 12 := Nat.pow_le_pow_right (by decide) h
    have e : 1 * 2 ^ n % 2 ^ 32 = 2 ^ n := by rw [Nat.one_mul]; exact Nat.mod_eq_of_lt (by omega)
    exact congrArg (Nat.cast (R := Int)) e
  rw [this]; unfold uv
  rw [decide_eq_decide]
  exact Int.ofNat_lt

set_option maxRecDepth 100000 in
set_option maxHeartbeats 2000000 in
theorem choose_in (n l n₀ B N : Nat) (s : S) (k : Nat) (hs : small s) (hkm : k ≤ (members s).length) (J Jx : List S → World → Prop)
    (hJ : ∀ p A B, J p A → Keeps A B → J p B)
    (hY : ∀ m p x W, J p W → p.length < N → YieldAt Fence.wide m Tryd.prog l #[vs x] W fun e W' =>
      (e = .returned (.bool true) ∧ J (p ++ [x]) W' ∧ KpS n₀ B W W') ∨ (e = .returned (.bool false) ∧ Jx (p ++ [x]) W'))
    (pre : List S) (W : World) (hT : Tab W) (hn : n₀ ≤ W.heap.size) (h0 : J pre W) (hN : pre.length + (chooseL s k).length ≤ N) :
    CallsIn Fence.wide n Tryd.prog 62 #[.int .u16 (sv s), .int .i64 k, .func (.yield l) #[] #[]] W fun e W' =>
      (e = .returned (.bool true) ∧ J (pre ++ chooseL s k) W' ∧ KpS n₀ B W W') ∨ (e = .returned (.bool false) ∧ ∃ q, q <+: chooseL s k ∧ Jx (pre ++ q) W') := by
  have hdd : ∀ j : Nat, (Fence.wide.depth.isSome = true → 1 ≤ j) := fun j h => by cases h
  have hm := members_any s W hT hs
  have hml := members_len s
  have hmb := members_lt s
  generalize hmem : members s = mem at *
  have hch : chooseL s k = (gosR mem.length 4096 ((1#32 <<< k) - 1#32)).map (emb mem) := by unfold chooseL; rw [hmem]
  have hk1 : ((k : Int) < 0) = False := by simp
  have hk2 : ((mem.length : Int) < k) = False := by simp; omega
  have HM := Lib.hid hm; have HCH := Lib.hid hch; have HY := Lib.hid hY; have HJ := Lib.hid hJ; have H0 := Lib.hid h0; have HN := Lib.hid hN; have HS := Lib.hid hs; have HE := Lib.hid hmem; have HMB := Lib.hid hmb
  clear hmb hm hch hY hJ h0 hN hs hmem hT
  refine callsIn_of_wp Tryd.func62 rfl trivial ?_ rfl
  simp only [Tryd.ntmps62, List.size_toArray, List.length_cons, List.length_nil, Nat.reduceAdd, Nat.reduceSub, Array.replicate_succ, Array.replicate_zero, List.push_toArray, List.append_toArray, List.nil_append, List.cons_append]
  gi_wp2
  refine ⟨trivial, hdd _, ?_⟩
  refine (callsIn_wide.2 HM.out).mono ?_
  rintro e w1 ⟨v1, rfl, hO⟩
  obtain ⟨a1, c1, rfl, hR⟩ := hO.rd
  have hcc := hR.nc
  gi_wp2
  simp only [uv_shl1, uv_sub1]
  gi_loopw [8] (fun u wr => ∃ (q : List S) (nn : U) (f : Nat), u = .int .u32 (uv nn) ∧ Hid (4096 ≤ nn.toNat + f) ∧ Hid (J (pre ++ q) wr) ∧ KpS n₀ B w1 wr ∧ Hid (chooseL s k = q ++ (gosR mem.length f nn).map (emb mem))) (fun u _ => 4096 - (intOf u).toNat)
  case atStart =>
    refine ⟨[], (1#32 <<< k) - 1#32, 4096, rfl, ?_, ?_, KpS.refl _ _ _, ?_⟩
    · show 4096 ≤ _ + 4096; omega
    · rw [List.append_nil]; exact HJ.out _ _ _ H0.out hO.2
    · rw [List.nil_append]; exact HCH
  case round =>
    obtain ⟨q, nn, f, rfl, hf, hj, hkp, hch⟩ := hrel
    rename World => w2
    have hRr : Rd w2 a1 mem.length c1 1 (il mem) := by
      obtain ⟨a', c', he, hr⟩ := own_rd (hkp.own hO.1)
      cases he
      exact hr
    have hcmp := uv_lt nn mem.length hml
    have hpw : 2 ^ mem.length ≤ 2 ^ 12 := Nat.pow_le_pow_right (by decide) hml
    by_cases hlt : nn.toNat < 2 ^ mem.length
    · rw [decide_eq_true hlt] at hcmp
      obtain ⟨f, rfl⟩ : ∃ g, f = g + 1 := ⟨f - 1, by have : 4096 ≤ nn.toNat + f := hf; omega⟩
      have hch2 : chooseL s k = q ++ emb mem nn :: (if nn = 0#32 then [] else gosR mem.length f (nxt nn)).map (emb mem) := by
        have := hch.out
        rw [gosR, if_pos hlt, List.map_cons] at this
        exact this
      have hlen : (pre ++ q).length < N := by
        have h1 := HN.out
        rw [hch2] at h1
        simp only [List.length_append, List.length_cons] at h1 ⊢
        omega
      have HC2 := Lib.hid hch2; have HLN := Lib.hid hlen; have HP := Lib.hid hpw; have HL := Lib.hid hlt
      clear hch hch2 hlen hpw hlt
      gi_wp2
      gi_loopw [9, 34] (fun u v wx => ∃ (i : Nat) (acc : S), i ≤ mem.length ∧ v = .int .i64 i ∧ u = .int .u16 (sv acc) ∧ Keeps w2 wx ∧ Hid (emb mem nn = embG nn (mem.drop i) i acc)) (fun _ v _ => mem.length - (intOf v).toNat)
      case atStart => exact ⟨0, 0#16, Nat.zero_le _, rfl, rfl, Keeps.refl _, rfl⟩
      case round =>
        obtain ⟨i, acc, hi, rfl, rfl, hk, hacc⟩ := hrel
        by_cases hil : i < mem.length
        · have hcell := (hRr.keep hk).cell i _ (il_at mem i hil)
          have hacc2 : Hid (emb mem nn = embG nn (mem.drop (i + 1)) (i + 1) (if (nn >>> i) &&& 1#32 = 1#32 then acc ||| (1#16 <<< im mem i) else acc)) := by
            have := hacc.out
            rw [drop_im mem i hil] at this
            exact this
          have hs1 := (hRr.keep hk).isSome (by omega)
          have hmin : min (im mem i) 16 = im mem i := by have := HMB.out i; omega
          clear hacc
          by_cases hbit : (nn >>> i) &&& 1#32 = 1#32
          · rw [if_pos hbit] at hacc2
            have hb : ((nn >>> i) &&& 1#32 == 1#32) = true := by simpa using hbit
            clear hbit
            gi_wp2
            go_roundw
            case rel => exact ⟨i + 1, _, by omega, rfl, rfl, hk, hacc2⟩
            case measure => simp [intOf]; omega
          · rw [if_neg hbit] at hacc2
            have hb : ((nn >>> i) &&& 1#32 == 1#32) = false := by simpa using hbit
            clear hbit
            gi_wp2
            go_roundw
            case rel => exact ⟨i + 1, _, by omega, rfl, rfl, hk, hacc2⟩
            case measure => simp [intOf]; omega
        · obtain rfl : i = mem.length := by omega
          have he : emb mem nn = acc := by have := hacc.out; simpa [embG] using this
          obtain ⟨fn, tmps, assign, body, hy, hRo⟩ := HY.out (n - 1) (pre ++ q) acc wr (HJ.out _ _ _ hj.out hk) HLN.out
          rw [he] at HC2
          dsimp only [vs] at hy
          clear he hacc hil
          gi_wp2
          refine ⟨hdd _, ?_⟩
          refine hRo.mono ?_
          rintro e w3 (⟨rfl, hJ3, hK3⟩ | ⟨rfl, hJx3⟩)
          · have hK4 : KpS n₀ B w1 w3 := (hkp.trans (KpS.of hk (Nat.le_trans hn (Nat.le_trans hO.2.size hkp.size)))).trans hK3
            have hJ4 : Hid (J (pre ++ (q ++ [acc])) w3) := by show J _ w3; rw [← List.append_assoc]; exact hJ3
            have hlt4 : nn.toNat < 4096 := Nat.lt_of_lt_of_le HL.out HP.out
            clear hJ3 hRo hy
            by_cases h0 : nn = 0#32
            · have hb : (nn == 0#32) = true := by simpa using h0
              have HC3 : Hid (chooseL s k = q ++ [acc]) := by have := HC2.out; rw [if_pos h0] at this; exact this
              clear h0 HC2
              gi_wp2
              go_ret
              left
              rw [HC3.out]
              exact ⟨rfl, hJ4.out, (KpS.of hO.2 hn).trans hK4⟩
            · have hb : (nn == 0#32) = false := by simpa using h0
              obtain ⟨hgt, hlow⟩ := nxt_gt hlt4 h0
              have hlb : (nn &&& -nn == 0#32) = false := by simpa using hlow
              have hlc : (uv (nn &&& -nn) = 0) = False := by have e : (0 : Int) = uv 0#32 := rfl; rw [e, uv_inj]; simpa using hlow
              have HC3 : Hid (chooseL s k = (q ++ [acc]) ++ (gosR mem.length f (nxt nn)).map (emb mem)) := by have := HC2.out; rw [if_neg h0] at this; show chooseL s k = _; rw [this]; simp
              have HF : Hid (4096 ≤ (nxt nn).toNat + f) := by have h1 : 4096 ≤ nn.toNat + (f + 1) := hf; show 4096 ≤ _; omega
              have HG : Hid (4096 - (uv (nxt nn)).toNat < 4096 - (uv nn).toNat) := by show 4096 - (uv (nxt nn)).toNat < 4096 - (uv nn).toNat; unfold uv; rw [Int.toNat_natCast, Int.toNat_natCast]; omega
              clear h0 HC2 hf hgt hlow hlt4
              gi_wp2
              go_roundw
              case rel => exact ⟨q ++ [acc], nxt nn, f, rfl, HF, hJ4, hK4, HC3⟩
              case measure => exact HG.out
          · have HC3 : q ++ [acc] <+: chooseL s k := by rw [HC2.out]; simp
            have HX := Lib.hid hJx3
            have HC4 := Lib.hid HC3
            clear HC3 hJx3 HC2 hRo hy
            gi_wp2
            go_ret
            right
            exact ⟨rfl, q ++ [acc], HC4.out, by rw [← List.append_assoc]; exact HX.out⟩
    · rw [decide_eq_false hlt] at hcmp
      have hch2 : chooseL s k = q := by
        have := hch.out
        cases f with
        | zero => simpa [gosR] using this
        | succ f => rw [gosR, if_neg hlt] at this; simpa using this
      have HC2 := Lib.hid hch2
      clear hch hch2 hpw hlt
      gi_wp2
      go_ret
      left
      rw [HC2.out]
      exact ⟨rfl, hj.out, (KpS.of hO.2 hn).trans hkp⟩

theorem members_cnt' : ∀ i j : Fin 64, (members (BitVec.ofNat 16 (i.val * 64 + j.val))).length = cnt (BitVec.ofNat 16 (i.val * 64 + j.val)) := by decide +kernel
theorem members_cnt {x : S} (h : small x) : (members x).length = cnt x := by
  have hs : x.toNat < 4096 := h
  have e : x.toNat / 64 * 64 + x.toNat % 64 = x.toNat := by omega
  have := members_cnt' ⟨x.toNat / 64, by omega⟩ ⟨x.toNat % 64, by omega⟩
  simp only [e] at this
  simpa using this
/-- the subsets with fewer than k members, as the program finds them -/
def subsTo (s : S) : Nat → List S
  | 0 => []
  | k + 1 => subsTo s k ++ chooseL s k
def subsetsL (s : S) : List S := subsTo s (cnt s + 1)
theorem subsTo_prefix (s : S) {i j : Nat} (h : i ≤ j) : subsTo s i <+: subsTo s j := by
  induction j with
  | zero =>
    have : i = 0 := by omega
    subst this
    exact List.prefix_refl _
  | succ j ih =>
    rcases Nat.lt_or_ge i (j + 1) with h1 | h1
    · exact (ih (by omega)).trans (List.prefix_append _ _)
    · obtain rfl : i = j + 1 := by omega
      exact List.prefix_refl _

set_option maxRecDepth 100000 in
set_option maxHeartbeats 2000000 in
theorem subsets1_in (n l n₀ B : Nat) (s : S) (hs : small s) (J Jx : List S → World → Prop)
    (hJ : ∀ p A B, J p A → Keeps A B → J p B)
    (hY : ∀ m p x W, J p W → p.length < (subsetsL s).length → YieldAt Fence.wide m Tryd.prog l #[vs x] W fun e W' =>
      (e = .returned (.bool true) ∧ J (p ++ [x]) W' ∧ KpS n₀ B W W') ∨ (e = .returned (.bool false) ∧ Jx (p ++ [x]) W'))
    (W : World) (hT : Tab W) (hg0 : 0 < n₀) (hn : n₀ ≤ W.heap.size) (hB : Boxed W B 31 (.int .u16 (sv s))) (h0 : J [] W) :
    CallsIn Fence.wide n Tryd.prog 68 #[.func (.yield l) #[] #[], .pointer (some ⟨B, 0, none⟩)] W fun e W' => (∃ v, e = .returned v) ∧
      ((∃ ys, ys = subsetsL s ∧ J ys W') ∨ (∃ pre, pre <+: subsetsL s ∧ Jx pre W')) := by
  have hdd : ∀ j : Nat, (Fence.wide.depth.isSome = true → 1 ≤ j) := fun j h => by cases h
  have hcnt := members_cnt hs
  have hc16 := cnt_le s
  have hch := fun k (hk : k ≤ cnt s) pre w1 (k1 : KpS n₀ B W w1) (hj : J pre w1) (hl : pre.length + (chooseL s k).length ≤ (subsetsL s).length) =>
    choose_in (n - 1) l n₀ B (subsetsL s).length s k hs (by omega) J Jx hJ hY pre w1 (hT.below k1.below hg0) (Nat.le_trans hn k1.size) hj hl
  have hcc := fun w1 => count_any s w1
  have HCH := Lib.hid hch; have HCC := Lib.hid hcc; have H0 := Lib.hid h0; have HJ := Lib.hid hJ; have HB := Lib.hid hB
  clear hch hcc h0 hY hJ hT hcnt hB
  generalize hcn : cnt s = c at *
  have HCN := Lib.hid hcn; clear hcn
  refine callsIn_of_wp Tryd.func68 rfl trivial ?_ rfl
  simp only [Tryd.ntmps68, List.size_toArray, List.length_cons, List.length_nil, Nat.reduceAdd, Nat.reduceSub, Array.replicate_succ, Array.replicate_zero, List.push_toArray, List.append_toArray, List.nil_append, List.cons_append]
  gi_wp2
  gi_loopw [3] (fun u wr => ∃ (k : Nat), k ≤ c + 1 ∧ u = .int .i64 k ∧ Hid (J (subsTo s k) wr) ∧ KpS n₀ B W wr) (fun u _ => 17 - (intOf u).toNat)
  case atStart => exact ⟨0, by omega, rfl, H0, KpS.refl _ _ _⟩
  case round =>
    obtain ⟨k, hk, rfl, hj, hkp⟩ := hrel
    have hb : Boxed wr B 31 (.int .u16 (sv s)) := hkp.box _ HB.out
    have hc := hb.cell
    have hsz := hkp.size
    by_cases hle : k ≤ c
    · have hle' : (k : Int) ≤ c := by omega
      gi_wp2
      refine ⟨trivial, hdd _, ?_⟩
      refine (callsIn_wide.2 (HCC.out _)).mono ?_
      rintro e w1 ⟨rfl, nd, rfl⟩
      have hKd : Keeps wr (wr.drewN nd) := (Keeps.refl wr).drewN nd
      have hlen : (subsTo s k).length + (chooseL s k).length ≤ (subsetsL s).length := by
        have h1 := (subsTo_prefix s (show k + 1 ≤ c + 1 by omega)).length_le
        have h2 := HCN.out
        unfold subsetsL
        rw [h2]
        simpa [subsTo] using h1
      have hcon := HCH.out k hle (subsTo s k) (wr.drewN nd) (hkp.trans (KpS.of hKd (Nat.le_trans hn hsz))) (HJ.out _ _ _ hj.out hKd) hlen
      have HCON := Lib.hid hcon; clear hcon hlen
      gi_wp2
      refine ⟨trivial, hdd _, ?_⟩
      refine HCON.out.mono ?_
      clear HCON
      rintro e w2 (⟨rfl, hJ2, hK2⟩ | ⟨rfl, q, hq, hx⟩)
      · have hK3 : KpS n₀ B W w2 := (hkp.trans (KpS.of hKd (Nat.le_trans hn hsz))).trans hK2
        have hJ3 : Hid (J (subsTo s (k + 1)) w2) := hJ2
        clear hJ2 hj
        gi_wp2
        go_roundw
        case rel => exact ⟨k + 1, by omega, rfl, hJ3, hK3⟩
        case measure => simp [intOf]; omega
      · have hX := Lib.hid hx
        have hq2 : subsTo s k ++ q <+: subsetsL s := by
          have h1 := subsTo_prefix s (show k + 1 ≤ c + 1 by omega)
          have h2 := HCN.out
          unfold subsetsL
          rw [h2]
          refine List.IsPrefix.trans ?_ h1
          obtain ⟨r, hr⟩ := hq
          exact ⟨r, by simp [subsTo, ← hr]⟩
        have HQ := Lib.hid hq2
        clear hx hq hq2 hj
        gi_wp2
        go_end0
        exact ⟨⟨_, rfl⟩, .inr ⟨_, HQ.out, hX.out⟩⟩
    · have hle' : ¬ (k : Int) ≤ c := by omega
      obtain rfl : k = c + 1 := by omega
      have hj2 : Hid (J (subsetsL s) wr) := by show J (subsetsL s) wr; unfold subsetsL; rw [HCN.out]; exact hj.out
      gi_wp2
      refine ⟨trivial, hdd _, ?_⟩
      refine (callsIn_wide.2 (HCC.out _)).mono ?_
      rintro e w1 ⟨rfl, nd, rfl⟩
      have hKd : Keeps wr (wr.drewN nd) := (Keeps.refl wr).drewN nd
      gi_wp2
      refine ⟨trivial, ?_⟩
      gi_wp2
      go_end0
      exact ⟨⟨_, rfl⟩, .inl ⟨_, rfl, HJ.out _ _ _ hj2.out hKd⟩⟩

/-- what set.Subsets hands back is an iterator over all subsets -/
theorem subsets_stops (n n₀ B : Nat) (s : S) (hs : small s) (w : World) (hT : Tab w) (hg0 : 0 < n₀) (hn : n₀ ≤ w.heap.size) (hB : Boxed w B 31 (.int .u16 (sv s))) :
    SeqStopsK Fence.wide n Tryd.prog 68 #[.pointer (some ⟨B, 0, none⟩)] (fun x : S => #[vs x]) (KpS n₀ B) (fun ys => ys = subsetsL s) (fun pre => pre <+: subsetsL s) (subsetsL s).length w := fun l J Jx W hW hJ _ hY h0 =>
  subsets1_in n l n₀ B s hs J Jx
    (fun p A B' hp k => hJ p A B' none hp ⟨k.below.os, k.below.tape, k.below.output, k.below.size, fun i hi _ => k.below.block i hi⟩ (fun r e => by cases e))
    (fun m p x W1 hj hl => YieldAt.anyDepth rfl m (hY p x W1 hj hl)) W (hT.keep hW) hg0 (Nat.le_trans hn hW.size)
    ((hW.block B hB.lt).trans hB) h0
/-- set.Subsets: the parameter is boxed; the function value captures the box -/
theorem subsets_any (s : S) (w : World) : Calls Tryd.prog 49 #[.int .u16 (sv s)] w fun e w' => e = .returned (.func (.func 68) #[] #[.pointer (some ⟨w.heap.size, 0, none⟩)]) ∧ w' = w.alloc (.cells #[.int .u16 (sv s)] 31) := by
  go_enter Tryd.func49, Tryd.ntmps49
  go_wp2
  go_ret
  exact ⟨rfl, rfl⟩
end Go.Proofs.YtbiggfbbccpcmaaDoor
