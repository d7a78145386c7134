/- Texts joined into one (wip/bin/pack.py): Trust, Rules. -/
import Derived.Test.YtijknodekomdfaaGreatDoorKC
import Derived.Laws.ResultCell
/- trust: valid, rules, accepts. -/
namespace Go.Proofs.YtijknodekomdfaaGreatDoor
open Go.RowKit Go.Lib Go.Shelf

def tvS (kd : Int) (M : S) (R Q : List S) (F m : List F2) : Int := if cvS kd M R Q F ≠ 0 then cvS kd M R Q F else fvS m
set_option maxRecDepth 20000 in
theorem tvalid_any {nm : ByteArray} [NmOk nm] (kd : Int) (M : S) {ar : Option Addr} {cr : Nat} {R : List S} {aw : Option Addr} {cw : Nat} {Q : List S} {af : Option Addr} {cf : Nat} {F : List F2} (a : Option Addr) (n c : Nat) (m : List F2) (w : World) (h : RdC w ar cr R aw cw Q af cf F) (hm : Rd w a n c 2 (fl m)) :
    Calls Tryz.prog 68 #[.agg #[.string nm, .int .i64 kd, .int .u16 (sv M), .slice ar R.length cr, .slice aw Q.length cw, .slice af F.length cf], .slice a n c] w fun e w' => e = .returned (.int .i64 (tvS kd M R Q F m)) ∧ Keeps w w' := by
  have K0 := (Keeps.refl w).alloc (.cells #[.string nm, .int .i64 kd, .int .u16 (sv M), .slice ar R.length cr, .slice aw Q.length cw, .slice af F.length cf] 36)
  have h1 := fun W (k : Keeps w W) => configValid_any (nm := nm) kd M W (h.keep k)
  have h2 := fun W (k : Keeps w W) => fvalid_any a n c m W (hm.keep k)
  unfold tvS
  generalize cvS kd M R Q F = x at *
  generalize fvS m = y at *
  generalize R.length = nr at *
  generalize Q.length = nq at *
  generalize F.length = nf at *
  have H1 := Lib.hid h1; have H2 := Lib.hid h2
  clear h1 h2 h hm
  by_cases hx : x = 0
  · subst hx
    rw [if_neg (by simp)]
    go_enter Tryz.func68, Tryz.ntmps68
    go_wp2_with fail
    refine (H1.out _ K0).mono ?_
    rintro e w2 ⟨rfl, K1⟩
    replace K1 := K0.trans K1
    go_wp2_with fail
    refine (H2.out _ K1).mono ?_
    rintro e w3 ⟨rfl, K2⟩
    go_wp2_with fail
    go_ret
    exact ⟨rfl, K1.trans K2⟩
  · rw [if_pos hx]
    have hb : (x != 0) = true := by simpa using hx
    go_enter Tryz.func68, Tryz.ntmps68
    go_wp2_with fail
    refine (H1.out _ K0).mono ?_
    rintro e w2 ⟨rfl, K1⟩
    replace K1 := K0.trans K1
    go_wp2_with fail
    go_ret
    exact ⟨rfl, K1⟩

/-! ### what a client accepts -/
def acb (s r wt : S) (byz : List S) : Bool := byz.any fun b => s &&& r &&& ~~~(b ||| wt) == 0#16
def accT (s wt : S) (byz R : List S) : Bool := !(R.any fun r => acb s r wt byz)
set_option maxRecDepth 20000 in
theorem acceptsT_any (nm : ByteArray) (kd : Int) (M wt s : S) {ar : Option Addr} {cr : Nat} {R : List S} {aw : Option Addr} {cw : Nat} {Q : List S} {af : Option Addr} {cf : Nat} {F : List F2} (a : Option Addr) (n c : Nat) (byz : List S) (w : World) (h : RdC w ar cr R aw cw Q af cf F) (hm : Rd w a n c 1 (sl byz)) :
    Calls Tryz.prog 69 #[.agg #[.string nm, .int .i64 kd, .int .u16 (sv M), .slice ar R.length cr, .slice aw Q.length cw, .slice af F.length cf], .int .u16 (sv wt), .slice a n c, .int .u16 (sv s)] w fun e w' => e = .returned (.bool (accT s wt byz R)) ∧ Keeps w w' := by
  have K0 := (Keeps.refl w).alloc (.cells #[.string nm, .int .i64 kd, .int .u16 (sv M), .slice ar R.length cr, .slice aw Q.length cw, .slice af F.length cf] 36)
  have hb := BoxC.new w 36 nm kd M ar R.length cr aw Q.length cw af F.length cf
  obtain ⟨W0, hW0⟩ : ∃ W0, W0 = w.alloc (.cells #[.string nm, .int .i64 kd, .int .u16 (sv M), .slice ar R.length cr, .slice aw Q.length cw, .slice af F.length cf] 36) := ⟨_, rfl⟩
  rw [← hW0] at hb K0
  obtain ⟨c0, c1, c2, c3, c4, c5⟩ := hb
  have hr := h.r.keep K0
  have hz := hm.keep K0
  have sr := hr.small; have sz := hz.small
  have L := hz.lenS
  subst L
  have e1 : accT s wt byz R = !(R.any fun r => acb s r wt byz) := rfl
  have E1 := Lib.hid e1; clear e1
  generalize accT s wt byz R = res at *
  go_enter Tryz.func69, Tryz.ntmps69
  go_wp2
  rw [← hW0]
  clear hW0
  go_loopw [16] (fun v wr => ∃ i : Nat, i ≤ R.length ∧ v = .int .i64 i ∧ W0 = wr ∧ Hid ((R.any fun r => acb s r wt byz) = (R.drop i).any fun r => acb s r wt byz)) (fun v _ => R.length - (intOf v).toNat)
  case atStart => exact ⟨0, Nat.zero_le _, rfl, rfl, rfl⟩
  case round =>
    obtain ⟨i, hi, rfl, rfl, HI⟩ := hrel
    by_cases hlt : i < R.length
    · have hc := hr.at hlt
      have hs := hr.isSome (by omega)
      have hst := HI.out
      rw [drop_at R i hlt, List.any_cons] at hst
      have HST := Lib.hid hst
      clear hst HI
      generalize at_ R i = r at *
      go_wp2
      go_loopw [22] (fun v wr => ∃ k : Nat, k ≤ byz.length ∧ v = .int .i64 k ∧ W0 = wr ∧ Hid (acb s r wt byz = acb s r wt (byz.drop k))) (fun v _ => byz.length - (intOf v).toNat)
      case atStart => exact ⟨0, Nat.zero_le _, rfl, rfl, rfl⟩
      case round =>
        obtain ⟨k, hk, rfl, rfl, HK⟩ := hrel
        by_cases hltk : k < byz.length
        · have hc2 := hz.at hltk
          have hs2 := hz.isSome (by omega)
          have hst := HK.out
          unfold acb at hst
          rw [drop_at byz k hltk, List.any_cons] at hst
          cases hq : (s &&& r &&& ~~~(at_ byz k ||| wt) == 0#16)
          · rw [hq, Bool.false_or] at hst
            have HS := Lib.hid hst
            clear hst HK
            go_wp2
            go_roundw
            case rel => exact ⟨k + 1, by omega, by go_num, trivial, HS⟩
            case measure => simp [intOf]; omega
          · rw [hq, Bool.true_or] at hst
            have hf := HST.out
            rw [show acb s r wt byz = true from hst, Bool.true_or] at hf
            have hres : res = false := by rw [E1.out, hf]; rfl
            clear hst hf HK
            go_wp2
            go_ret
            rw [hres]
            exact ⟨rfl, K0⟩
        · have hf := HK.out
          rw [drop_all byz k (by omega)] at hf
          have hst := HST.out
          rw [hf, show acb s r wt [] = false from rfl, Bool.false_or] at hst
          have HS := Lib.hid hst
          clear hf hst HK
          go_wp2
          go_roundw
          case rel => exact ⟨i + 1, by omega, by go_num, trivial, HS⟩
          case measure => simp [intOf]; omega
    · have hf := HI.out
      rw [drop_all R i (by omega)] at hf
      have hres : res = true := by rw [E1.out, hf]; rfl
      clear hf HI
      go_wp2
      go_ret
      rw [hres]
      exact ⟨rfl, K0⟩
end Go.Proofs.YtijknodekomdfaaGreatDoor
/- trust: rules. -/
namespace Go.Proofs.YtijknodekomdfaaGreatDoor
open Go.RowKit Go.Lib Go.Shelf

/-- a clash: rule, two sets, Byzantine servers -/
abbrev CL := Int × S × S × S
def vcl (x : CL) : Value := .agg #[.int .i64 x.1, .int .u16 (sv x.2.1), .int .u16 (sv x.2.2.1), .int .u16 (sv x.2.2.2)]
def cl0 : CL := (0, 0#16, 0#16, 0#16)
def p1 (r q wt b : S) : Bool := r &&& q &&& ~~~(b ||| wt) == 0#16
def p2 (p q b : S) : Bool := b != 0#16 && p &&& q &&& ~~~b == 0#16
def g1 (wt : S) (byz : List S) (r q : S) : Option CL := (byz.find? (p1 r q wt)).map fun b => (1, r, q, b)
def g2 (byz : List S) (p q : S) : Option CL := (byz.find? (p2 p q)).map fun b => (2, p, q, b)
def f1 (wt : S) (byz Q : List S) (r : S) : Option CL := Q.findSome? (g1 wt byz r)
def f2 (byz Q : List S) (p : S) : Option CL := Q.findSome? (g2 byz p)
def rulesS (kd : Int) (wt : S) (byz R Q : List S) : Option CL :=
  match R.findSome? (f1 wt byz Q) with
  | some x => some x
  | none => if kd ≠ 2 then none else Q.findSome? (f2 byz Q)
def RetCB (o : Option CL) (e : Ending) : Prop := e = .returned (.tuple #[vcl (o.getD cl0), .bool o.isSome])
theorem f_step {α : Type} (f : S → Option α) (l : List S) (i : Nat) (h : i < l.length) : (l.drop i).findSome? f = match f (at_ l i) with | some b => some b | none => (l.drop (i + 1)).findSome? f := by
  rw [drop_at l i h, List.findSome?_cons]; cases f (at_ l i) <;> rfl
theorem find_step (f : S → Bool) (l : List S) (i : Nat) (h : i < l.length) : (l.drop i).find? f = match f (at_ l i) with | true => some (at_ l i) | false => (l.drop (i + 1)).find? f := by
  rw [drop_at l i h, List.find?_cons]; cases f (at_ l i) <;> rfl
/-- a clash in a cell and a plain value come back -/
theorem resCL {fn : Func} {p u : Tmp} (h : fn.results = #[.cell p 61, .tmp u]) {tmps : Array Value} {W1 : World} {B : Nat} {x : CL} {v : Value} (hB : W1.heap.size = B) (T : TypeId)
    (tp : tmps.getD p undef = .pointer (some ⟨B, 0, none⟩)) (tu : tmps.getD u undef = v) :
    (results fn tmps).run Tryz.prog (W1.alloc (.cells #[.int .i64 x.1, .int .u16 (sv x.2.1), .int .u16 (sv x.2.2.1), .int .u16 (sv x.2.2.2)] T)) = .ok (.tuple #[vcl x, v]) (W1.alloc (.cells #[.int .i64 x.1, .int .u16 (sv x.2.1), .int .u16 (sv x.2.2.1), .int .u16 (sv x.2.2.2)] T)) := by
  subst hB
  rw [results_cell_tmp h, tp, tu]
  have k0 : ∀ i, (W1.alloc (.cells #[.int .i64 x.1, .int .u16 (sv x.2.1), .int .u16 (sv x.2.2.1), .int .u16 (sv x.2.2.2)] T)).cell? ⟨W1.heap.size, i, none⟩ = #[Value.int .i64 x.1, .int .u16 (sv x.2.1), .int .u16 (sv x.2.2.1), .int .u16 (sv x.2.2.2)][i]? := fun i => World.cell?_alloc_at _ _ _ _ rfl
  simp [go_sem, vcl, asAddr, loadVar, loadCells, loadCellsFrom]
set_option maxRecDepth 20000 in
set_option maxHeartbeats 3000000 in
theorem rules_any (nm : ByteArray) (kd : Int) (M wt : S) {ar : Option Addr} {cr : Nat} {R : List S} {aw : Option Addr} {cw : Nat} {Q : List S} {af : Option Addr} {cf : Nat} {F : List F2} (a : Option Addr) (n c : Nat) (byz : List S) (w : World) (h : RdC w ar cr R aw cw Q af cf F) (hm : Rd w a n c 1 (sl byz)) :
    Calls Tryz.prog 130 #[.agg #[.string nm, .int .i64 kd, .int .u16 (sv M), .slice ar R.length cr, .slice aw Q.length cw, .slice af F.length cf], .int .u16 (sv wt), .slice a n c] w fun e w' => RetCB (rulesS kd wt byz R Q) e ∧ Keeps w w' := by
  have K0 := (Keeps.refl w).alloc (.cells #[.string nm, .int .i64 kd, .int .u16 (sv M), .slice ar R.length cr, .slice aw Q.length cw, .slice af F.length cf] 36)
  have hb := BoxC.new w 36 nm kd M ar R.length cr aw Q.length cw af F.length cf
  obtain ⟨W1, hW1⟩ : ∃ W0, W0 = w.alloc (.cells #[.string nm, .int .i64 kd, .int .u16 (sv M), .slice ar R.length cr, .slice aw Q.length cw, .slice af F.length cf] 36) := ⟨_, rfl⟩
  have hsz : W1.heap.size = w.heap.size + 1 := by rw [hW1, World.size_alloc]
  rw [← hW1] at hb K0
  have k2 := (Keeps.refl W1).alloc (.cells #[.int .i64 0, .int .u16 0, .int .u16 0, .int .u16 0] 61)
  replace hb := hb.keep k2
  obtain ⟨c0, c1, c2, c3, c4, c5⟩ := hb
  have hr := (h.r.keep K0).keep k2
  have hq := (h.q.keep K0).keep k2
  have hz := (hm.keep K0).keep k2
  have sr := hr.small; have sq := hq.small; have sz := hz.small
  have L := hz.lenS
  subst L
  clear h hm
  have e0 : rulesS kd wt byz R Q = match R.findSome? (f1 wt byz Q) with | some x => some x | none => if kd ≠ 2 then none else Q.findSome? (f2 byz Q) := rfl
  have E0 := Lib.hid e0
  clear e0
  generalize rulesS kd wt byz R Q = res at *
  go_enter Tryz.func130, Tryz.ntmps130
  go_wp2
  rw [← hW1, ← hsz]
  obtain ⟨W2, hW2⟩ : ∃ W2, W2 = W1.alloc (.cells #[.int .i64 0, .int .u16 0, .int .u16 0, .int .u16 0] 61) := ⟨_, rfl⟩
  rw [← hW2] at c0 c1 c2 c3 c4 c5 hr hq hz k2 ⊢
  have HW2 := Lib.hid hW2
  have HW1 := Lib.hid hW1
  clear hW2 hW1
  go_loopw [23] (fun v wr => ∃ i : Nat, i ≤ R.length ∧ v = .int .i64 i ∧ W2 = wr ∧ Hid (R.findSome? (f1 wt byz Q) = (R.drop i).findSome? (f1 wt byz Q))) (fun v _ => R.length - (intOf v).toNat)
  case atStart => exact ⟨0, Nat.zero_le _, rfl, rfl, rfl⟩
  case round =>
    obtain ⟨i, hi, rfl, rfl, HI⟩ := hrel
    by_cases hlt : i < R.length
    · have hc := hr.at hlt
      have hs := hr.isSome (by omega)
      have hst := HI.out
      rw [f_step _ R i hlt] at hst
      have HST := Lib.hid hst
      clear hst HI
      generalize at_ R i = r at *
      go_wp2
      go_loopw [30] (fun v wr => ∃ k : Nat, k ≤ Q.length ∧ v = .int .i64 k ∧ W2 = wr ∧ Hid (f1 wt byz Q r = (Q.drop k).findSome? (g1 wt byz r))) (fun v _ => Q.length - (intOf v).toNat)
      case atStart => exact ⟨0, Nat.zero_le _, rfl, rfl, rfl⟩
      case round =>
        obtain ⟨k, hk, rfl, rfl, HK⟩ := hrel
        by_cases hltk : k < Q.length
        · have hc2 := hq.at hltk
          have hs2 := hq.isSome (by omega)
          have hst := HK.out
          rw [f_step _ Q k hltk] at hst
          have HSK := Lib.hid hst
          clear hst HK
          generalize at_ Q k = q at *
          go_wp2
          go_loopw [36] (fun v wr => ∃ j : Nat, j ≤ byz.length ∧ v = .int .i64 j ∧ W2 = wr ∧ Hid (byz.find? (p1 r q wt) = (byz.drop j).find? (p1 r q wt))) (fun v _ => byz.length - (intOf v).toNat)
          case atStart => exact ⟨0, Nat.zero_le _, rfl, rfl, rfl⟩
          case round =>
            obtain ⟨j, hj, rfl, rfl, HJ⟩ := hrel
            by_cases hltj : j < byz.length
            · have hc3 := hz.at hltj
              have hs3 := hz.isSome (by omega)
              have hst := HJ.out
              rw [find_step _ byz j hltj] at hst
              generalize at_ byz j = b at *
              cases hpp : (r &&& q &&& ~~~(b ||| wt) == 0#16)
              · rw [show p1 r q wt b = false from hpp] at hst
                have HS := Lib.hid hst
                clear hst HJ
                go_wp2
                go_roundw
                case rel => exact ⟨j + 1, by omega, by go_num, trivial, HS⟩
                case measure => simp [intOf]; omega
              · rw [show p1 r q wt b = true from hpp] at hst
                have hg : g1 wt byz r q = some (1, r, q, b) := by unfold g1; rw [hst]; rfl
                have hf := HSK.out
                rw [hg] at hf
                have ht := HST.out
                rw [hf] at ht
                have he := E0.out
                rw [ht] at he
                simp only at he
                have HE := Lib.hid he
                clear hst HJ hg hf ht he
                have hw := HW2.out
                subst hw
                go_wp2
                exact bodyPost_ret (resCL rfl hsz 61 (x := (1, r, q, b)) rfl rfl) rfl ⟨by rw [HE.out]; rfl, K0.alloc _⟩
            · have hst := HJ.out
              rw [drop_all byz j (by omega)] at hst
              have hg : g1 wt byz r q = none := by unfold g1; rw [hst]; rfl
              have hf := HSK.out
              rw [hg] at hf
              have HS := Lib.hid hf
              clear hst hf hg HJ
              go_wp2
              go_roundw
              case rel => exact ⟨k + 1, by omega, by go_num, trivial, HS⟩
              case measure => simp [intOf]; omega
        · have hst := HK.out
          rw [drop_all Q k (by omega)] at hst
          have hf := HST.out
          rw [hst] at hf
          have HS := Lib.hid hf
          clear hst hf HK
          go_wp2
          go_roundw
          case rel => exact ⟨i + 1, by omega, by go_num, trivial, HS⟩
          case measure => simp [intOf]; omega
    · have hst := HI.out
      rw [drop_all R i (by omega)] at hst
      have he := E0.out
      rw [hst] at he
      simp only [List.findSome?_nil] at he
      have HE0 := Lib.hid he
      clear he hst HI E0
      by_cases hkd : kd = 2
      rotate_left
      · have hb : (kd != 2) = true := by simpa using hkd
        have he := HE0.out
        rw [if_pos hkd] at he
        have HE := Lib.hid he
        clear he HE0 hkd
        have hw := HW2.out
        subst hw
        go_wp2
        exact bodyPost_ret (resCL rfl hsz 61 (x := cl0) rfl rfl) rfl ⟨by rw [HE.out]; rfl, K0.alloc _⟩
      have hb : (kd != 2) = false := by simpa using hkd
      have he := HE0.out
      rw [if_neg (by simpa using hkd)] at he
      have E0 := Lib.hid he
      clear he HE0 hkd
      go_wp2
      go_loopw [62] (fun v wr => ∃ i : Nat, i ≤ Q.length ∧ v = .int .i64 i ∧ W2 = wr ∧ Hid (Q.findSome? (f2 byz Q) = (Q.drop i).findSome? (f2 byz Q))) (fun v _ => Q.length - (intOf v).toNat)
      case atStart => exact ⟨0, Nat.zero_le _, rfl, rfl, rfl⟩
      case round =>
        obtain ⟨i, hi, rfl, rfl, HI⟩ := hrel
        by_cases hlt : i < Q.length
        · have hc := hq.at hlt
          have hs := hq.isSome (by omega)
          have hst := HI.out
          rw [f_step _ Q i hlt] at hst
          have HST := Lib.hid hst
          clear hst HI
          generalize at_ Q i = r at *
          go_wp2
          go_loopw [69] (fun v wr => ∃ k : Nat, k ≤ Q.length ∧ v = .int .i64 k ∧ W2 = wr ∧ Hid (f2 byz Q r = (Q.drop k).findSome? (g2 byz r))) (fun v _ => Q.length - (intOf v).toNat)
          case atStart => exact ⟨0, Nat.zero_le _, rfl, rfl, rfl⟩
          case round =>
            obtain ⟨k, hk, rfl, rfl, HK⟩ := hrel
            by_cases hltk : k < Q.length
            · have hc2 := hq.at hltk
              have hst := HK.out
              rw [f_step _ Q k hltk] at hst
              have HSK := Lib.hid hst
              clear hst HK
              generalize at_ Q k = q at *
              go_wp2
              go_loopw [75] (fun v wr => ∃ j : Nat, j ≤ byz.length ∧ v = .int .i64 j ∧ W2 = wr ∧ Hid (byz.find? (p2 r q) = (byz.drop j).find? (p2 r q))) (fun v _ => byz.length - (intOf v).toNat)
              case atStart => exact ⟨0, Nat.zero_le _, rfl, rfl, rfl⟩
              case round =>
                obtain ⟨j, hj, rfl, rfl, HJ⟩ := hrel
                by_cases hltj : j < byz.length
                · have hc3 := hz.at hltj
                  have hs3 := hz.isSome (by omega)
                  have hst := HJ.out
                  rw [find_step _ byz j hltj] at hst
                  generalize at_ byz j = b at *
                  cases hp0 : (b != 0#16)
                  · rw [show p2 r q b = false by unfold p2; rw [hp0]; rfl] at hst
                    have HS := Lib.hid hst
                    clear hst HJ
                    go_wp2
                    go_roundw
                    case rel => exact ⟨j + 1, by omega, by go_num, trivial, HS⟩
                    case measure => simp [intOf]; omega
                  cases hpp : (r &&& q &&& ~~~b == 0#16)
                  · rw [show p2 r q b = false by unfold p2; rw [hp0, hpp]; rfl] at hst
                    have HS := Lib.hid hst
                    clear hst HJ
                    go_wp2
                    go_roundw
                    case rel => exact ⟨j + 1, by omega, by go_num, trivial, HS⟩
                    case measure => simp [intOf]; omega
                  · rw [show p2 r q b = true by unfold p2; rw [hp0, hpp]; rfl] at hst
                    have hg : g2 byz r q = some (2, r, q, b) := by unfold g2; rw [hst]; rfl
                    have hf := HSK.out
                    rw [hg] at hf
                    have ht := HST.out
                    rw [hf] at ht
                    have he := E0.out
                    rw [ht] at he
                    have HE := Lib.hid he
                    clear hst HJ hg hf ht he
                    have hw := HW2.out
                    subst hw
                    go_wp2
                    exact bodyPost_ret (resCL rfl hsz 61 (x := (2, r, q, b)) rfl rfl) rfl ⟨by rw [HE.out]; rfl, K0.alloc _⟩
                · have hst := HJ.out
                  rw [drop_all byz j (by omega)] at hst
                  have hg : g2 byz r q = none := by unfold g2; rw [hst]; rfl
                  have hf := HSK.out
                  rw [hg] at hf
                  have HS := Lib.hid hf
                  clear hst hf hg HJ
                  go_wp2
                  go_roundw
                  case rel => exact ⟨k + 1, by omega, by go_num, trivial, HS⟩
                  case measure => simp [intOf]; omega
            · have hst := HK.out
              rw [drop_all Q k (by omega)] at hst
              have hf := HST.out
              rw [hst] at hf
              have HS := Lib.hid hf
              clear hst hf HK
              go_wp2
              go_roundw
              case rel => exact ⟨i + 1, by omega, by go_num, trivial, HS⟩
              case measure => simp [intOf]; omega
        · have hst := HI.out
          rw [drop_all Q i (by omega)] at hst
          have he := E0.out
          rw [hst] at he
          have HE := Lib.hid he
          clear he hst HI
          have hw := HW2.out
          subst hw
          go_wp2
          exact bodyPost_ret (resCL rfl hsz 61 (x := cl0) rfl rfl) rfl ⟨by rw [HE.out]; rfl, K0.alloc _⟩
end Go.Proofs.YtijknodekomdfaaGreatDoor
