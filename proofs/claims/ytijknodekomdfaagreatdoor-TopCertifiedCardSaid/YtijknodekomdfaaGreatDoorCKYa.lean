/- Texts joined into one, what is needed of them (a program of ours). -/
import Derived.Test.YtijknodekomdfaaGreatDoorCKM
import Derived.Test.YtijknodekomdfaaGreatDoorCKU
import Derived.Test.YtijknodekomdfaaGreatDoorCKF
namespace Go.Proofs.YtijknodekomdfaaGreatDoor
open Go.RowKit Go.Lib Go.Shelf

structure KpX (bad : Nat → Obj → Prop) (W W' : World) : Prop where
  os : W'.os = W.os
  tape : W'.tape = W.tape
  output : W'.output = W.output
  size : W.heap.size ≤ W'.heap.size
  block : ∀ k o, W.heap[k]? = some o → ¬ bad k o → W'.heap[k]? = some o
theorem KpX.refl (bad : Nat → Obj → Prop) (W : World) : KpX bad W W := ⟨rfl, rfl, rfl, Nat.le_refl _, fun _ _ h _ => h⟩
theorem KpX.trans {bad : Nat → Obj → Prop} {X Y Z : World} (h : KpX bad X Y) (k : KpX bad Y Z) : KpX bad X Z :=
  ⟨k.os.trans h.os, k.tape.trans h.tape, k.output.trans h.output, Nat.le_trans h.size k.size, fun i o hi hb => k.block i o (h.block i o hi hb) hb⟩
theorem KpX.of {bad : Nat → Obj → Prop} {W W' : World} (h : Keeps W W') : KpX bad W W' := by
  have h' : Below W.heap.size W W' := h
  exact ⟨h'.os, h'.tape, h'.output, h'.size, fun k o hk _ => (h'.block k (Array.getElem?_eq_some_iff.1 hk).1).trans hk⟩
theorem KpX.keeps {bad : Nat → Obj → Prop} {w w' : World} (h : KpX bad w w') (hb : ∀ k o, k < w.heap.size → w.heap[k]? = some o → ¬ bad k o) : Keeps w w' :=
  show Below w.heap.size w w' from ⟨h.os, h.tape, h.output, h.size, fun k hk => by
    have he : w.heap[k]? = some w.heap[k] := Array.getElem?_eq_getElem hk
    rw [he]; exact h.block k _ he (hb k _ hk he)⟩
/-- from an earlier world on, if what may change was made later -/
theorem KpX.below {bad : Nat → Obj → Prop} {n : Nat} {w w' : World} (h : KpX bad w w') (hn : n ≤ w.heap.size) (hb : ∀ k o, k < n → ¬ bad k o) : Below n w w' :=
  ⟨h.os, h.tape, h.output, h.size, fun k hk => by
    have he : w.heap[k]? = some w.heap[k] := Array.getElem?_eq_getElem (by omega)
    rw [he]; exact h.block k _ he (hb k _ hk)⟩
theorem KpX.blk {bad : Nat → Obj → Prop} {w w' : World} (h : KpX bad w w') {B : Nat} {T : TypeId} {cs : Array Value} (hB : Blk w B T cs) (hb : ¬ bad B (.cells cs T)) : Blk w' B T cs := h.block B _ hB hb
theorem KpX.row0 {bad : Nat → Obj → Prop} {w w' : World} (h : KpX bad w w') {e : TypeId} {sz : Nat} {v : Value} {n : Nat} {xs : List Value} (hr : Row0 e sz w v n xs) (hb : ∀ k cs, ¬ bad k (.cells cs e)) : Row0 e sz w' v n xs := by
  obtain ⟨h1, h2⟩ := hr
  refine ⟨h1, ?_⟩
  rcases h2 with ⟨a, b⟩ | ⟨g, cap, cur, hv, hg, hh, r⟩
  · exact Or.inl ⟨a, b⟩
  · exact Or.inr ⟨g, cap, cur, hv, hg, h.block g _ hh (hb _ _), r⟩
theorem KpX.own {bad : Nat → Obj → Prop} {w0 w w' : World} (h : KpX bad w w') {e : TypeId} {sz : Nat} {v : Value} {n : Nat} {xs : List Value} (hr : w.ownsRow w0.heap.size e sz v n xs) (hb : ∀ k cs, ¬ bad k (.cells cs e)) : w'.ownsRow w0.heap.size e sz v n xs := by
  obtain ⟨h1, h2⟩ := hr
  refine ⟨h1, ?_⟩
  rcases h2 with ⟨a, b⟩ | ⟨g, cap, cur, hv, hg, hh, r⟩
  · exact Or.inl ⟨a, b⟩
  · exact Or.inr ⟨g, cap, cur, hv, hg, h.block g _ hh (hb _ _), r⟩
theorem KpX.rowC {bad : Nat → Obj → Prop} {w w' : World} (h : KpX bad w w') {ar : Option Addr} {cr : Nat} {R : List S} {aw : Option Addr} {cw : Nat} {Q : List S} {af : Option Addr} {cf : Nat} {F : List F2} (hc : RowC w ar cr R aw cw Q af cf F)
    (h1 : ∀ k cs, ¬ bad k (.cells cs 31)) (h2 : ∀ k cs, ¬ bad k (.cells cs 34)) : RowC w' ar cr R aw cw Q af cf F := ⟨h.row0 hc.r h1, h.row0 hc.q h1, h.row0 hc.f h2⟩
end Go.Proofs.YtijknodekomdfaaGreatDoor
namespace Go.Proofs.YtijknodekomdfaaGreatDoor
open Go.RowKit Go.Lib Go.Shelf

def fB (m : List F2) : List S := m.map fun x => x.1
theorem fB_snoc (m : List F2) (k : Nat) (h : k < m.length) : fB (m.take (k + 1)) = fB (m.take k) ++ [(fa m k).1] := by
  unfold fB; rw [take_fa m k h, List.map_append]; rfl
theorem fB_len (m : List F2) : (fB m).length = m.length := by simp [fB]
theorem fB_mask (M : S) (m : List F2) : fB (maskF M m) = mskF M m := by simp [fB, maskF, mskF]
/-- another set has this one -/
def othB (s t : S) : Bool := t != s && s &&& ~~~t == 0#16
def bzP (l : List S) : List S := l.filter fun s => !l.any (othB s)
theorem bzP_eq (l : List S) : bzP (sortS' l) = refGreatest l := by
  rw [refGreatest_filter]
  refine List.filter_congr fun x _ => ?_
  rw [Bool.eq_iff_iff, lonG_iff, Bool.not_eq_true', ← Bool.not_eq_true, List.any_eq_true]
  constructor
  · intro h y hy hs
    refine Classical.byContradiction fun hn => h ⟨y, hy, ?_⟩
    unfold othB; unfold sub at hs
    simp [hn, hs]
    try simpa using hs
  · rintro h ⟨y, hy, ho⟩
    unfold othB at ho
    simp only [Bool.and_eq_true, bne_iff_ne, ne_eq] at ho
    exact ho.1 (h y hy ho.2)
theorem othPred (s : S) (B : Nat) (l : List S) (w : World) (hc : w.cell? ⟨B, 0, none⟩ = some (.int .u16 (sv s))) :
    PredK Tryz.prog 47 #[.pointer (some ⟨B, 0, none⟩)] vs (othB s) l w := fun W x _ hk => by
  have hc' := hk.cell hc
  show Calls Tryz.prog 47 #[.int .u16 (sv x), .pointer (some ⟨B, 0, none⟩)] W _
  unfold othB
  cases hq : (x != s)
  · rw [Bool.false_and]
    go_enter Tryz.func47, Tryz.ntmps47
    go_wp2_with fail
    go_ret
    exact ⟨rfl, Keeps.refl _⟩
  · rw [Bool.true_and]
    go_enter Tryz.func47, Tryz.ntmps47
    go_wp2_with fail
    go_ret
    exact ⟨rfl, Keeps.refl _⟩
set_option maxRecDepth 20000 in
set_option maxHeartbeats 4000000 in
theorem faultByz_any (a : Option Addr) (n c : Nat) (m : List F2) (w : World) (hm : Rd w a n c 2 (fl m)) (hn : n ≤ 1000000) :
    Calls Tryz.prog 9 #[.slice a n c] w fun e w' => ∃ v, e = .returned v ∧ Own 31 1 w w' v (bzP (sortS' (fB m))).length (sl (bzP (sortS' (fB m)))) := by
  have L := hm.lenF
  subst L
  have sz := hm.small
  have eg : ∀ args w, (callFunc 47 args).run Tryz.prog w = .ok (.enter 47 args) w := enters_of Tryz.func47 (by kernel_rfl) rfl
  have hml := fB_len m
  have hs := fun w1 v (hO : Own 31 1 w w1 v m.length (sl (fB m))) => sortFunc_any w w1 v m.length (fB m) hO hn
  have hk := fun w1 v (hO : Own 31 1 w w1 v m.length (sl (msort (fB m)))) => compact_any w w1 v m.length (msort (fB m)) hO hn
  have hlen : (sortS' (fB m)).length ≤ 1000000 := by
    have h1 := compactL_le (msort (fB m))
    have h2 := msort_length (fB m)
    unfold sortS'; omega
  rw [show compactL (msort (fB m)) = sortS' (fB m) from rfl] at hk
  generalize sortS' (fB m) = z at *
  have HS := Lib.hid hs; have HK := Lib.hid hk
  clear hs hk
  go_enter Tryz.func9, Tryz.ntmps9
  go_wp2_with fail
  go_loopw [3, 11] (fun u v wr => ∃ k : Nat, k ≤ m.length ∧ v = .int .i64 k ∧ Own 31 1 w wr u k (sl (fB (m.take k)))) (fun _ v _ => m.length - (RowKit.intOf v).toNat)
  case atStart => exact ⟨0, Nat.zero_le _, rfl, Own.nil _ _ (Keeps.refl _)⟩
  case round =>
    obtain ⟨k, hk, rfl, hO⟩ := hrel
    by_cases hlt : k < m.length
    · obtain ⟨a2, c22, rfl, hRa⟩ := hO.rd
      have hR := hm.keep hO.2
      have c0 := hR.f0 hlt
      have c1 := hR.f1' hlt
      have ha := hR.isSome (by omega)
      have hst := fB_snoc m k hlt
      obtain ⟨e0, e1⟩ := newF (fa m k) wr 34
      have hrd := rd_new 31 1 (wr.alloc (.cells #[.int .u16 (sv (fa m k).1), .int .u16 (sv (fa m k).2)] 34)) [.int .u16 (sv ((fa m k).1))] 1 (by decide) rfl
      rw [World.size_alloc] at hrd
      have HRD := Lib.hid hrd
      clear hrd
      have HO := Lib.hid hO
      have HST := Lib.hid hst
      clear hO hst hR hRa
      go_wp2_with (at_builtin; refine wp_app tyS rfl _ _ rfl ((HO.out.alloc _).alloc _) rfl rfl HRD.out (sl_oneCell [(fa m k).1]) ?_ ?_)
      · omega
      · intro v' w3 hO3 _
        go_wp2
        go_roundw
        case rel =>
          refine ⟨k + 1, by omega, by go_num, ?_⟩
          rw [HST.out, sl_append]
          exact hO3
        case measure => simp [RowKit.intOf]; omega
    · have hkk : k = m.length := by omega
      subst hkk
      rw [List.take_of_length_le (Nat.le_refl _)] at hO
      have HO := Lib.hid hO
      clear hO
      go_wp2_with fail
      refine (HS.out _ _ HO.out).mono ?_
      rintro e w4 ⟨rfl, hO4⟩
      go_wp2_with fail
      refine (HK.out _ _ hO4).mono ?_
      rintro e w5 ⟨v5, rfl, hO5⟩
      obtain ⟨a5, c5, rfl, hR5⟩ := hO5.rd
      have s5 := hR5.small
      clear hO4
      go_wp2_with fail
      go_loopw [4, 27] (fun u v wr => ∃ (k : Nat) (acc : List S), k ≤ z.length ∧ v = .int .i64 k ∧ acc.length ≤ k ∧ Own 31 1 w5 wr u acc.length (sl acc) ∧ Hid (bzP z = acc ++ (z.drop k).filter fun s => !z.any (othB s))) (fun _ v _ => z.length - (RowKit.intOf v).toNat)
      case atStart => exact ⟨0, [], Nat.zero_le _, rfl, Nat.zero_le _, Own.nil _ _ (Keeps.refl _), rfl⟩
      case round =>
        obtain ⟨k, acc, hk, rfl, hak, hA, HI⟩ := hrel
        by_cases hlt : k < z.length
        · have hRz := hR5.keep hA.2
          have hc := hRz.at hlt
          have ha := hR5.isSome (by omega)
          obtain ⟨a2, c2, rfl, hRa⟩ := hA.rd
          have K1 := (Keeps.refl wr).alloc (.cells #[.int .u16 (sv (at_ z k))] 31)
          have hcon := containsFuncS_any a5 z.length c5 z (wr.alloc (.cells #[.int .u16 (sv (at_ z k))] 31)) 47 #[.pointer (some ⟨wr.heap.size, 0, none⟩)] (othB (at_ z k)) (hRz.keep K1) eg
            (othPred (at_ z k) wr.heap.size z _ (by rw [World.cell?_alloc_at _ _ _ _ rfl]; rfl))
          have hst := HI.out
          have hcb : ∀ W, Keeps (wr.alloc (.cells #[.int .u16 (sv (at_ z k))] 31)) W → W.cell? ⟨wr.heap.size, 0, none⟩ = some (.int .u16 (sv (at_ z k))) := fun W K => K.cell (by rw [World.cell?_alloc_at _ _ _ _ rfl]; rfl)
          have HCB := Lib.hid hcb
          rw [drop_at z k hlt, List.filter_cons] at hst
          generalize at_ z k = s at *
          have HA := Lib.hid hA
          clear hA hRa hcb
          cases hq : z.any (othB s) with
          | true =>
            rw [hq] at hcon hst
            have HC := Lib.hid hcon; have HST := Lib.hid hst; clear hcon hq hst hRz
            go_wp2_with (go_at_call 46; refine HC.out.mono ?_; rintro e w6 ⟨rfl, K2⟩)
            go_roundw
            case rel => exact ⟨k + 1, acc, by omega, by go_num, by omega, (HA.out.alloc _).keep K2, hrfl <| by rw [HST.out]; simp⟩
            case measure => simp [RowKit.intOf]; omega
          | false =>
            rw [hq] at hcon hst
            have HC := Lib.hid hcon; have HST := Lib.hid hst; clear hcon hq hst hRz
            go_wp2_with (first | (go_at_call 46; refine HC.out.mono ?_; rintro e w6 ⟨rfl, K2⟩; have hcb := HCB.out _ K2) | (at_builtin; refine wp_app tyS rfl _ _ rfl (((HA.out.alloc _).keep K2).alloc _) rfl rfl (rd_new _ 1 _ [.int .u16 (sv s)] 1 (by decide) rfl) (sl_oneCell [s]) ?_ ?_))
            · omega
            · intro v' w3 hO3 _
              go_wp2
              go_roundw
              case rel => exact ⟨k + 1, acc ++ [s], by omega, by go_num, by simp; omega, hO3.snoc, hrfl <| by rw [HST.out]; simp⟩
              case measure => simp [RowKit.intOf]; omega
        · go_wp2
          go_ret
          refine ⟨_, rfl, ?_⟩
          rw [HI.out, drop_all z k (by omega), List.filter_nil, List.append_nil]
          exact hA.since hO5.2
end Go.Proofs.YtijknodekomdfaaGreatDoor
namespace Go.Proofs.YtijknodekomdfaaGreatDoor
open Go.RowKit Go.Lib Go.Shelf

set_option maxRecDepth 20000 in
set_option maxHeartbeats 4000000 in
theorem cByz_any (nm : ByteArray) (kd : Int) (M : S) {ar : Option Addr} {cr : Nat} {R : List S} {aw : Option Addr} {cw : Nat} {Q : List S} {af : Option Addr} {cf : Nat} {F : List F2} (w : World) (hm : Rd w af F.length cf 2 (fl F)) (hn : F.length ≤ 1000000) :
    Calls Tryz.prog 50 #[.agg #[.string nm, .int .i64 kd, .int .u16 (sv M), .slice ar R.length cr, .slice aw Q.length cw, .slice af F.length cf]] w fun e w' => ∃ v, e = .returned v ∧ Own 31 1 w w' v (byz27 kd M F).length (sl (byz27 kd M F)) := by
  have sm := hm.small
  have K0 := (Keeps.refl w).alloc (.cells #[.string nm, .int .i64 kd, .int .u16 (sv M), .slice ar R.length cr, .slice aw Q.length cw, .slice af F.length cf] 36)
  have hb := BoxC.new w 36 nm kd M ar R.length cr aw Q.length cw af F.length cf
  obtain ⟨W1, hW1⟩ : ∃ W0, W0 = w.alloc (.cells #[.string nm, .int .i64 kd, .int .u16 (sv M), .slice ar R.length cr, .slice aw Q.length cw, .slice af F.length cf] 36) := ⟨_, rfl⟩
  rw [← hW1] at hb K0
  unfold byz27
  by_cases hk : kd = 1
  · rw [if_pos hk]
    have hkb : (kd == 1) = true := by simpa using hk
    have hO := Own.made (e := 31) (sz := 1) (Keeps.refl W1) [.int .u16 0] 1 (by decide) rfl
    rw [show W1.heap.size = w.heap.size + 1 by rw [hW1, World.size_alloc]] at hO
    have HO := Lib.hid hO
    obtain ⟨c0, c1, c2, c3, c4, c5⟩ := hb.conj
    clear hO hk hb hm
    go_enter Tryz.func50, Tryz.ntmps50
    go_wp2_with fail
    rw [← hW1]
    go_ret
    exact ⟨_, rfl, HO.out.since K0⟩
  · rw [if_neg hk]
    have hkb : (kd == 1) = false := by simpa using hk
    have hno := fun A C (l : List F2) W (hR : Rd W A l.length C 2 (fl l)) (hl : l.length ≤ 1000000) => faultByz_any A l.length C l W hR hl
    have HNO := Lib.hid hno
    have hres : restrL M F = bzP (sortS' (fB (maskF M F))) := by rw [bzP_eq, fB_mask, restr_eq]
    have HRES := Lib.hid hres
    have HM1 := Lib.hid (hm.keep K0)
    have HB2 := Lib.hid (fun (W : World) (K : Keeps W1 W) => (hb.keep K).c2)
    obtain ⟨c0, c1, c2, c3, c4, c5⟩ := hb.conj
    clear hno hres hm hb hk
    generalize restrL M F = res at *
    generalize R.length = nr at *
    generalize Q.length = nq at *
    go_enter Tryz.func50, Tryz.ntmps50
    go_wp2_with fail
    rw [← hW1]
    clear hW1 c0 c1 c2 c3 c4 c5
    go_loopw [3, 13] (fun u v wr => ∃ k : Nat, k ≤ F.length ∧ v = .int .i64 k ∧ Own 34 2 W1 wr u k (fl (maskF M (F.take k)))) (fun _ v _ => F.length - (RowKit.intOf v).toNat)
    case atStart => exact ⟨0, Nat.zero_le _, rfl, Own.nil _ _ (Keeps.refl _)⟩
    case round =>
      obtain ⟨k, hk, rfl, hO⟩ := hrel
      obtain ⟨a2, c2, rfl, hRa⟩ := hO.rd
      by_cases hlt : k < F.length
      · have hs := HM1.out.isSome (by omega)
        have hst := maskF_snoc M F k hlt
        have KO := hO.2
        have hR := HM1.out.keep KO
        have c0 := hR.f0 hlt
        have c1 := hR.f1' hlt
        have hd2 := HB2.out _ KO
        obtain ⟨e0, e1⟩ := newF (fa F k) wr 34
        have KB := (Keeps.refl wr).alloc (.cells #[.int .u16 (sv (fa F k).1), .int .u16 (sv (fa F k).2)] 34)
        have d3 := KB.cell hd2
        have hrd := rd_new 34 2 (wr.alloc (.cells #[.int .u16 (sv (fa F k).1), .int .u16 (sv (fa F k).2)] 34)) [.int .u16 (sv ((fa F k).1 &&& M)), .int .u16 (sv 0#16)] 1 (by decide) rfl
        rw [World.size_alloc] at hrd
        have HRD := Lib.hid hrd
        have HO := Lib.hid hO; have HST := Lib.hid hst
        clear hO hst hRa hR hrd
        go_wp2_with (at_builtin; refine wp_app tyF rfl _ _ rfl ((HO.out.alloc _).alloc _) rfl rfl HRD.out (fl_oneCell [((fa F k).1 &&& M, 0#16)]) ?_ ?_)
        · omega
        · intro v' w3 hO3 _
          go_wp2
          go_roundw
          case rel => exact ⟨k + 1, by omega, by go_num, by rw [HST.out]; exact hO3⟩
          case measure => simp [RowKit.intOf]; omega
      · obtain rfl : k = F.length := by omega
        rw [List.take_length] at hO hRa
        have hml := maskF_len M F
        have hrs := HRES.out
        generalize maskF M F = l at *
        rw [← hml] at hRa
        have hcall := HNO.out a2 c2 l wr hRa (by omega)
        rw [← hrs, hml] at hcall
        have HC := Lib.hid hcall
        have K1 := hO.2
        clear hcall hO hRa hml hrs HRES
        go_wp2_with fail
        refine HC.out.mono ?_
        rintro e w4 ⟨v4, rfl, hO4⟩
        go_wp2_with fail
        go_ret
        exact ⟨_, rfl, hO4.since (K0.trans K1)⟩
end Go.Proofs.YtijknodekomdfaaGreatDoor
