/- transversal.Extend. -/
import Derived.Deep.LoopGhost
import Derived.Deep.RegionHeld3
import Derived.Deep.RegionLaw
import Derived.Outline
import Derived.Test.YteaehcaokcbehaaDoorExtM
namespace Go.Proofs.YteaehcaokcbehaaDoor
open Go.RowKit Go.Lib Go.Shelf

theorem idxFrom_find {α : Type} (p : α → Bool) : ∀ (l : List α) (k : Nat), (idxFrom p l k = -1 ∧ l.find? p = none) ∨ ∃ (j : Nat) (h : j < l.length), idxFrom p l k = ((k + j : Nat) : Int) ∧ l.find? p = some l[j]
  | [], k => .inl ⟨rfl, rfl⟩
  | x :: xs, k => by
    unfold idxFrom
    cases hx : p x with
    | true => exact .inr ⟨0, by simp, by simp, by simp [hx]⟩
    | false =>
      rcases idxFrom_find p xs (k + 1) with ⟨h1, h2⟩ | ⟨j, h, h1, h2⟩
      · exact .inl ⟨by simpa using h1, by simp [hx, h2]⟩
      · exact .inr ⟨j + 1, by simpa using h, by simp [h1]; omega, by simp [hx, h2]⟩
theorem extPred (f l : List S) (a : Option Addr) (n c : Nat) (B : Nat) (w : World) (h : Rd w a n c 1 (sl f)) (hB : w.cell? ⟨B, 0, none⟩ = some (.slice a n c)) :
    PredK Tryd.prog 52 #[.pointer (some ⟨B, 0, none⟩)] vs (fun t => !f.contains t) l w := fun W x _ hk => by
  have hc' := hk.cell hB
  have hcall := contains_s_any a n c f x W (h.keep hk)
  generalize hr : f.contains x = r at hcall
  have HR := Lib.hid hr; clear hr
  have HC := Lib.hid hcall; clear hcall
  show Calls Tryd.prog 52 #[.int .u16 (sv x), .pointer (some ⟨B, 0, none⟩)] W _
  go_enter Tryd.func52, Tryd.ntmps52
  go_wp2_with (go_at_call 49; refine HC.out.mono ?_; rintro e w' ⟨rfl, rfl⟩)
  go_ret
  exact ⟨by show Ending.returned (.bool (!r)) = .returned (.bool (!f.contains x)); rw [HR.out], Keeps.refl _⟩
theorem box_store {w W : World} {B base n : Nat} {v v' row : Value} {xs : List Value} (hb : Boxed W B 25 v) (hB : w.heap.size ≤ B) (hk : Keeps w W) (hr : W.ownsRow base 24 1 row n xs) :
    Boxed (W.setCell ⟨B, 0, none⟩ v') B 25 v' ∧ Keeps w (W.setCell ⟨B, 0, none⟩ v') ∧ (W.setCell ⟨B, 0, none⟩ v').ownsRow base 24 1 row n xs :=
  ⟨hb.set v', Below.setCell hk.below hB _, hr.kept (grownBy_setCell' W B v') (.inr (hb.not_row (by decide) hr).symm)⟩

theorem rows_apart {W : World} {base sz n : Nat} {e : TypeId} {v u : Value} {xs : List Value} (h : W.ownsRow base e sz v n xs) (hlt : ∀ k, u.ownBlock = some k → k < base) : v.ownBlock = none ∨ v.ownBlock ≠ u.ownBlock := by
  cases hv : v.ownBlock with
  | none => exact .inl rfl
  | some k =>
    refine .inr fun e => ?_
    have h1 := (h.lt k hv).1
    have h2 := hlt k e.symm
    omega

set_option maxRecDepth 100000 in
set_option maxHeartbeats 2000000 in
theorem extend_ok (a : Option Addr) (n c : Nat) (l : List S) (w : World) (hT : Tab w) (h : Rd w a n c 1 (sl l)) (hn : n ≤ 1000000) (hg : Good l) :
    Calls Tryd.prog 26 #[.slice a n c] w fun e w' => RetS w (extS l, 0) e w' := by
  have eg : ∀ args w, (callFunc 52 args).run Tryd.prog w = .ok (.enter 52 args) w := enters_of Tryd.func52 (by kernel_rfl) rfl
  have hc := fun W (k : Keeps w W) => coterieErr_any a n c l W (h.keep k) hn
  rw [cotErr_cot hg.cot] at hc
  have hcl := fun W (k : Keeps w W) => cloneS_any a n c (sl l) W (h.keep k) (sl_oneCell _) hn
  have hd : ∀ W f a2 n2 c2, Tab W → Good f → Rd W a2 n2 c2 1 (sl f) → Calls Tryd.prog 13 #[.slice a2 n2 c2] W fun e w' => ∃ v, e = .returned (.tuple #[v, .int .i64 0]) ∧ Own 24 1 W w' v (D f).length (sl (D f)) := fun W f a2 n2 c2 t g r => by
    have := dual_any a2 n2 c2 f W t r (fun _ => g.sup)
    rw [g.dual] at this
    exact this
  have hm : ∀ W v f t, Good f → t ∈ D f → t ∉ f → Own 24 1 w W v (f ++ [t]).length (sl (f ++ [t])) → Calls Tryd.prog 50 #[v] W fun e w' => ∃ v', e = .returned (.tuple #[v', .int .i64 0]) ∧ Own 24 1 W w' v' (leastP (f ++ [t])).length (sl (leastP (f ++ [t]))) := fun W v f t g ht hn hO => by
    obtain ⟨a2, c2, rfl, hR⟩ := hO.rd
    have hl := (g.step ht hn).1.low
    have hl2 := low_len g.low g.cot.fam.asc
    have := minimal_any a2 _ c2 (f ++ [t]) W hR (by rw [List.length_append]; simp; omega)
    rw [minimalS_ok (f := f ++ [t]) (fun x hx => by
      rcases List.mem_append.1 hx with hx | hx
      · exact g.low.small x hx
      · rw [List.mem_singleton.1 hx]; exact (low_D g.low).small t ht) (by have := low_len hl (leastP_asc _); omega)] at this
    exact this
  have LN := Lib.hid h.lenS
  have HC := Lib.hid hc; have HCL := Lib.hid hcl; have HD := Lib.hid hd; have HM := Lib.hid hm; have HG := Lib.hid hg; have HT := Lib.hid hT
  clear hc hcl hd hm hg h hT
  go_enter Tryd.func26, Tryd.ntmps26
  go_wp2_with fail
  have k0 := (Keeps.refl w).alloc (.cells #[.slice a n c] 25)
  refine (HC.out _ k0).mono ?_
  rintro e w1 ⟨rfl, K1⟩
  have hb := boxedKeep (Boxed.new w 25 (.slice a n c)) K1
  have k1 := k0.trans K1
  have hcell := hb.cell
  go_wp2_with fail
  refine (HCL.out _ k1).mono ?_
  rintro e w2 ⟨v2, rfl, ho, K2⟩
  have hb2 := boxedKeep hb K2
  have k2 := k1.trans K2
  obtain ⟨q1, q2, q3⟩ := box_store (v' := v2) hb2 (Nat.le_refl _) k2 (ownWeak ho k1.size)
  have hcell2 := hb2.cell; have hfr2 := hb2.frozen
  obtain ⟨a2, c2, rfl, hR2⟩ := own_rd ho
  have hO : Own 24 1 w (w2.setCell ⟨w.heap.size, 0, none⟩ (.slice a2 n c2)) (.slice a2 n c2) n (sl l) := ⟨q3, q2⟩
  have HO := Lib.hid hO; have HB := Lib.hid q1
  clear q2 q3 hO q1
  go_wp2_with fail
  go_loopg [7] 65 (fun g s7 wr => ∃ f v, Hid (Good f) ∧ Hid (mu f < g) ∧ Hid (extS l = extR (g - 1) f) ∧ Boxed wr w.heap.size 25 v ∧ Own 24 1 w wr v f.length (sl f))
  case atStart =>
    have e : n = l.length := LN.out.symm
    refine ⟨l, .slice a2 n c2, HG, ?_, rfl, HB.out, ?_⟩
    · have := mu_le l; show _ < _; omega
    · have := HO.out; rw [e] at this ⊢; exact this
  case round =>
    obtain ⟨f, v, hgf, hmu, hex, hbx, hOf⟩ := hrel
    obtain ⟨af, cf, rfl, hRf⟩ := hOf.rd
    have hbc := hbx.cell
    have hdu := HD.out wr f af _ cf (HT.out.keep hOf.2) hgf.out hRf
    have HDU := Lib.hid hdu; clear hdu
    go_wp2_with fail
    refine HDU.out.mono ?_
    rintro e w3 ⟨v3, rfl, hO3⟩
    obtain ⟨a3, c3, rfl, hR3⟩ := hO3.rd
    have hb3 := boxedKeep hbx hO3.2
    have hc3 := hb3.cell
    have hcon := indexFuncS_any a3 _ c3 (D f) w3 52 #[.pointer (some ⟨w.heap.size, 0, none⟩)] (fun t => !f.contains t) hR3 eg
      (extPred f (D f) af _ cf w.heap.size w3 (hRf.keep hO3.2) hc3)
    rcases idxFrom_find (fun t => !f.contains t) (D f) 0 with ⟨e1, e2⟩ | ⟨j, hj, e1, e2⟩
    · rw [e1] at hcon
      have HCO := Lib.hid hcon
      have HV : Hid (extS l = f) := by show _ = _; rw [hex.out]; exact extR_none e2 _
      clear hcon e1 e2
      go_wp2_with fail
      refine HCO.out.mono ?_
      rintro e w4 ⟨rfl, K4⟩
      have hc4 := (boxedKeep hb3 K4).cell
      go_wp2_with fail
      go_ret2
      exact ⟨_, rfl, by rw [HV.out]; exact (hOf.keep hO3.2).keep K4⟩
    · rw [e1] at hcon
      have e3 : (D f)[j] = at_ (D f) j := by simp [at_, List.getD, hj]
      rw [e3] at e2
      obtain ⟨m1, m2⟩ := nxtE_some (f := f) e2
      have hst := hgf.out.step m1 m2
      have HV : Hid (extS l = extR (gk - 1 - 1) (leastP (f ++ [at_ (D f) j]))) := by
        show _ = _
        obtain ⟨g', hg'⟩ : ∃ g', gk - 1 = g' + 1 := ⟨gk - 2, by have h1 : mu f < gk := hmu; have h2 := hst.2; omega⟩
        rw [hex.out, hg', extR, show nxtE f = some (at_ (D f) j) from e2]
        rfl
      have HCO := Lib.hid hcon
      have HST := Lib.hid hst
      have hmm := fun W v hO => HM.out W v f _ hgf.out m1 m2 hO
      have HMM := Lib.hid hmm
      have hl2 := low_len hgf.out.low hgf.out.cot.fam.asc
      clear hcon e1 e2 e3 m1 m2 hst hmm
      go_wp2_with fail
      refine HCO.out.mono ?_
      rintro e w4 ⟨rfl, K4⟩
      have hb4 := boxedKeep hb3 K4
      have hc4 := hb4.cell; have hf4 := hb4.frozen
      have hO4 := (hOf.keep hO3.2).keep K4
      have hR4 := hR3.keep K4
      have hd4 := hR4.at hj
      have ha3 := hR4.isSome (by omega)
      have hj0 : (0 : Int) ≤ (j : Int) := by omega
      have hj1 : (j : Int) < ((D f).length : Int) := by omega
      go_wp2_with fail
      have hrow : ∀ o, Own 24 1 w ((w4.alloc o).drew) (.slice af f.length cf) f.length (sl f) := fun o => (hO4.alloc o).keep ((Keeps.refl _).drew)
      have hbW : ∀ o w5, ((w4.alloc o).drew).grownBy w5 (Value.slice af f.length cf).ownBlock → Boxed w5 w.heap.size 25 (.slice af f.length cf) := fun o w5 hgr =>
        (boxedKeep (hb4.alloc o) ((Keeps.refl _).drew)).kept hgr ((boxedKeep (hb4.alloc o) ((Keeps.refl _).drew)).not_row (by decide) (hrow o).1)
      have HROW := Lib.hid hrow; have HBW := Lib.hid hbW
      clear hrow hbW
      have hca := (hb4.alloc (.cells #[.int .u16 (sv (at_ (D f) j))] 24)).cell
      go_region_law ((first | (refine step_app tyS (by rfl) _ _ (by rfl) (HROW.out _) (by rfl) (by rfl) ((rd_new _ 1 _ [.int .u16 (sv (at_ (D f) j))] 1 (by decide) rfl).keep ((Keeps.refl _).drew)) (sl_oneCell [at_ (D f) j]) (by omega) ?_; intro v' w5 hO5 hgr; have hB5 := HBW.out _ _ hgr; have hO5' := hO5.snoc) | (go_simp; go_at_call 50; refine (HMM.out _ _ (by assumption)).mono ?_; rintro e w6 ⟨v6, rfl, hO6⟩; obtain ⟨a6, c6, rfl, hR6⟩ := hO6.rd; have hB6 := boxedKeep hB5 hO6.2; have hcc := hB6.cell; have hff := hB6.frozen; dsimp only)))
      all_goals
        have K6 := hO5.2.trans hO6.2
        obtain ⟨r1, r2, r3⟩ := box_store (v' := .slice a6 (leastP (f ++ [at_ (D f) j])).length c6) hB6 (Nat.le_refl _) K6 (ownWeak hO6.1 hO5.2.size)
        have HR1 := Lib.hid r1; have HR2 := Lib.hid (And.intro r3 r2)
        clear r1 r2 r3 hcc hff
        go_wp2_with fail
        go_roundg (gk - 1)
        case measure => have h1 : mu f < gk := hmu; omega
        case rel => exact ⟨_, _, HST.out.1, by have h1 : mu f < gk := hmu; have h2 := HST.out.2; show _ < _; omega, HV, HR1.out, HR2.out⟩
theorem dummy : True := trivial
end Go.Proofs.YteaehcaokcbehaaDoor
