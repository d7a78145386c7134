/- Texts joined into one, what is needed of them (a program of ours). -/
import Derived.Test.YtijknodekomdfaaGreatDoorCKC
import Derived.Laws.ResultCell
namespace Go.Proofs.YtijknodekomdfaaGreatDoor
open Go.RowKit Go.Lib Go.Shelf

def tvS (kd : Int) (M : S) (R Q : List S) (F m : List F2) : Int := if cvS kd M R Q F ≠ 0 then cvS kd M R Q F else fvS m
set_option maxRecDepth 20000 in
theorem tvalid_any {nm : ByteArray} [NmOk nm] (kd : Int) (M : S) {ar : Option Addr} {cr : Nat} {R : List S} {aw : Option Addr} {cw : Nat} {Q : List S} {af : Option Addr} {cf : Nat} {F : List F2} (a : Option Addr) (n c : Nat) (m : List F2) (w : World) (h : RdC w ar cr R aw cw Q af cf F) (hm : Rd w a n c 2 (fl m)) :
    Calls Tryz.prog 68 #[.agg #[.string nm, .int .i64 kd, .int .u16 (sv M), .slice ar R.length cr, .slice aw Q.length cw, .slice af F.length cf], .slice a n c] w fun e w' => e = .returned (.int .i64 (tvS kd M R Q F m)) ∧ Keeps w w' := by
  have K0 := (Keeps.refl w).alloc (.cells #[.string nm, .int .i64 kd, .int .u16 (sv M), .slice ar R.length cr, .slice aw Q.length cw, .slice af F.length cf] 36)
  have h1 := fun W (k : Keeps w W) => configValid_any (nm := nm) kd M W (h.keep k)
  have h2 := fun W (k : Keeps w W) => fvalid_any a n c m W (hm.keep k)
  unfold tvS
  generalize cvS kd M R Q F = x at *
  generalize fvS m = y at *
  generalize R.length = nr at *
  generalize Q.length = nq at *
  generalize F.length = nf at *
  have H1 := Lib.hid h1; have H2 := Lib.hid h2
  clear h1 h2 h hm
  by_cases hx : x = 0
  · subst hx
    rw [if_neg (by simp)]
    go_enter Tryz.func68, Tryz.ntmps68
    go_wp2_with fail
    refine (H1.out _ K0).mono ?_
    rintro e w2 ⟨rfl, K1⟩
    replace K1 := K0.trans K1
    go_wp2_with fail
    refine (H2.out _ K1).mono ?_
    rintro e w3 ⟨rfl, K2⟩
    go_wp2_with fail
    go_ret
    exact ⟨rfl, K1.trans K2⟩
  · rw [if_pos hx]
    have hb : (x != 0) = true := by simpa using hx
    go_enter Tryz.func68, Tryz.ntmps68
    go_wp2_with fail
    refine (H1.out _ K0).mono ?_
    rintro e w2 ⟨rfl, K1⟩
    replace K1 := K0.trans K1
    go_wp2_with fail
    go_ret
    exact ⟨rfl, K1⟩

def acb (s r wt : S) (byz : List S) : Bool := byz.any fun b => s &&& r &&& ~~~(b ||| wt) == 0#16
def accT (s wt : S) (byz R : List S) : Bool := !(R.any fun r => acb s r wt byz)
set_option maxRecDepth 20000 in
theorem acceptsT_any (nm : ByteArray) (kd : Int) (M wt s : S) {ar : Option Addr} {cr : Nat} {R : List S} {aw : Option Addr} {cw : Nat} {Q : List S} {af : Option Addr} {cf : Nat} {F : List F2} (a : Option Addr) (n c : Nat) (byz : List S) (w : World) (h : RdC w ar cr R aw cw Q af cf F) (hm : Rd w a n c 1 (sl byz)) :
    Calls Tryz.prog 69 #[.agg #[.string nm, .int .i64 kd, .int .u16 (sv M), .slice ar R.length cr, .slice aw Q.length cw, .slice af F.length cf], .int .u16 (sv wt), .slice a n c, .int .u16 (sv s)] w fun e w' => e = .returned (.bool (accT s wt byz R)) ∧ Keeps w w' := by
  have K0 := (Keeps.refl w).alloc (.cells #[.string nm, .int .i64 kd, .int .u16 (sv M), .slice ar R.length cr, .slice aw Q.length cw, .slice af F.length cf] 36)
  have hb := BoxC.new w 36 nm kd M ar R.length cr aw Q.length cw af F.length cf
  obtain ⟨W0, hW0⟩ : ∃ W0, W0 = w.alloc (.cells #[.string nm, .int .i64 kd, .int .u16 (sv M), .slice ar R.length cr, .slice aw Q.length cw, .slice af F.length cf] 36) := ⟨_, rfl⟩
  rw [← hW0] at hb K0
  obtain ⟨c0, c1, c2, c3, c4, c5⟩ := hb
  have hr := h.r.keep K0
  have hz := hm.keep K0
  have sr := hr.small; have sz := hz.small
  have L := hz.lenS
  subst L
  have e1 : accT s wt byz R = !(R.any fun r => acb s r wt byz) := rfl
  have E1 := Lib.hid e1; clear e1
  generalize accT s wt byz R = res at *
  go_enter Tryz.func69, Tryz.ntmps69
  go_wp2
  rw [← hW0]
  clear hW0
  go_loopw [16] (fun v wr => ∃ i : Nat, i ≤ R.length ∧ v = .int .i64 i ∧ W0 = wr ∧ Hid ((R.any fun r => acb s r wt byz) = (R.drop i).any fun r => acb s r wt byz)) (fun v _ => R.length - (intOf v).toNat)
  case atStart => exact ⟨0, Nat.zero_le _, rfl, rfl, rfl⟩
  case round =>
    obtain ⟨i, hi, rfl, rfl, HI⟩ := hrel
    by_cases hlt : i < R.length
    · have hc := hr.at hlt
      have hs := hr.isSome (by omega)
      have hst := HI.out
      rw [drop_at R i hlt, List.any_cons] at hst
      have HST := Lib.hid hst
      clear hst HI
      generalize at_ R i = r at *
      go_wp2
      go_loopw [22] (fun v wr => ∃ k : Nat, k ≤ byz.length ∧ v = .int .i64 k ∧ W0 = wr ∧ Hid (acb s r wt byz = acb s r wt (byz.drop k))) (fun v _ => byz.length - (intOf v).toNat)
      case atStart => exact ⟨0, Nat.zero_le _, rfl, rfl, rfl⟩
      case round =>
        obtain ⟨k, hk, rfl, rfl, HK⟩ := hrel
        by_cases hltk : k < byz.length
        · have hc2 := hz.at hltk
          have hs2 := hz.isSome (by omega)
          have hst := HK.out
          unfold acb at hst
          rw [drop_at byz k hltk, List.any_cons] at hst
          cases hq : (s &&& r &&& ~~~(at_ byz k ||| wt) == 0#16)
          · rw [hq, Bool.false_or] at hst
            have HS := Lib.hid hst
            clear hst HK
            go_wp2
            go_roundw
            case rel => exact ⟨k + 1, by omega, by go_num, trivial, HS⟩
            case measure => simp [intOf]; omega
          · rw [hq, Bool.true_or] at hst
            have hf := HST.out
            rw [show acb s r wt byz = true from hst, Bool.true_or] at hf
            have hres : res = false := by rw [E1.out, hf]; rfl
            clear hst hf HK
            go_wp2
            go_ret
            rw [hres]
            exact ⟨rfl, K0⟩
        · have hf := HK.out
          rw [drop_all byz k (by omega)] at hf
          have hst := HST.out
          rw [hf, show acb s r wt [] = false from rfl, Bool.false_or] at hst
          have HS := Lib.hid hst
          clear hf hst HK
          go_wp2
          go_roundw
          case rel => exact ⟨i + 1, by omega, by go_num, trivial, HS⟩
          case measure => simp [intOf]; omega
    · have hf := HI.out
      rw [drop_all R i (by omega)] at hf
      have hres : res = true := by rw [E1.out, hf]; rfl
      clear hf HI
      go_wp2
      go_ret
      rw [hres]
      exact ⟨rfl, K0⟩
end Go.Proofs.YtijknodekomdfaaGreatDoor
namespace Go.Proofs.YtijknodekomdfaaGreatDoor
open Go.RowKit Go.Lib Go.Shelf

/-- a clash: rule, two sets, Byzantine servers -/
abbrev CL := Int × S × S × S
def vcl (x : CL) : Value := .agg #[.int .i64 x.1, .int .u16 (sv x.2.1), .int .u16 (sv x.2.2.1), .int .u16 (sv x.2.2.2)]
def cl0 : CL := (0, 0#16, 0#16, 0#16)
def p1 (r q wt b : S) : Bool := r &&& q &&& ~~~(b ||| wt) == 0#16
def p2 (p q b : S) : Bool := b != 0#16 && p &&& q &&& ~~~b == 0#16
def g1 (wt : S) (byz : List S) (r q : S) : Option CL := (byz.find? (p1 r q wt)).map fun b => (1, r, q, b)
def g2 (byz : List S) (p q : S) : Option CL := (byz.find? (p2 p q)).map fun b => (2, p, q, b)
def f1 (wt : S) (byz Q : List S) (r : S) : Option CL := Q.findSome? (g1 wt byz r)
def f2 (byz Q : List S) (p : S) : Option CL := Q.findSome? (g2 byz p)
end Go.Proofs.YtijknodekomdfaaGreatDoor
