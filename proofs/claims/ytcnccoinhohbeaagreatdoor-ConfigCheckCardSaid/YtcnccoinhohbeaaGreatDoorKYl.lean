/- Texts joined into one (wip/bin/pack.py): RPro. -/
import Derived.Lib.QuietBelow
import Derived.Test.YtcnccoinhohbeaaGreatDoorKYj
import Derived.Test.YtcnccoinhohbeaaGreatDoorKYe
import Derived.Test.YtcnccoinhohbeaaGreatDoorKYf
/- The reference's Prove. -/
namespace Go.Proofs.YtcnccoinhohbeaaGreatDoor
open Go.RowKit Go.Lib Go.Shelf

theorem row_ne {w : World} {b1 b2 : Nat} {e1 e2 : TypeId} {s1 s2 : Nat} {v1 v2 : Value} {n1 n2 : Nat} {x1 x2 : List Value} (h1 : w.ownsRow b1 e1 s1 v1 n1 x1) (h2 : w.ownsRow b2 e2 s2 v2 n2 x2) (hT : e1 ≠ e2) : v1.ownBlock = none ∨ v1.ownBlock ≠ v2.ownBlock := by
  rcases h1.2 with ⟨rfl, _⟩ | ⟨g, cap, cur, rfl, _, hh, _⟩
  · exact .inl rfl
  · refine .inr (fun he => ?_)
    rcases h2.2 with ⟨rfl, _⟩ | ⟨g2, cap2, cur2, rfl, _, hh2, _⟩
    · cases he
    · injection he with he
      subst he
      rw [hh] at hh2
      injection hh2 with hh2
      injection hh2 with _ hh3
      exact hT hh3
def hdM (s : S) : Int := (((memTo s 16).getD 0 0 : Nat) : Int)
theorem withM_def (wt : S) (x : CL) : withM wt x = (x.1, x.2.1, x.2.2.1, x.2.2.2, hdM (x.2.1 &&& x.2.2.1 &&& ~~~(badC wt x))) := rfl
theorem memTo_pos {s : S} (h : s ≠ 0#16) : 0 < (memTo s 16).length := by
  rcases Nat.eq_zero_or_pos (memTo s 16).length with h0 | h0
  · exfalso
    have he : memTo s 16 = [] := List.eq_nil_of_length_eq_zero h0
    apply h
    apply BitVec.eq_of_getLsbD_eq
    intro i hi
    have hm : i ∉ memTo s 16 := by rw [he]; simp
    cases hb : s.getLsbD i
    · simp
    · exfalso
      refine hm ?_
      unfold memTo
      rw [List.mem_filter]
      refine ⟨List.mem_range.2 hi, ?_⟩
      rw [hbT]; exact hb
  · exact h0
theorem il_at0 {l : List Nat} (h : 0 < l.length) : (il l)[0]? = some (.int .i64 ((l.getD 0 0 : Nat) : Int)) := by
  cases l with
  | nil => simp at h
  | cons x xs => rfl
theorem rpro_split (kd : Int) (wt M : S) (R Q : List S) (F : List F2) (e : Int) (he : e = cvS kd M R Q F) (rows : List CL) (hr : rows = rowsR (byz27 kd M F) R Q) (s : Bool) (hs : s = safe27 kd wt M R Q F) :
    rproS kd wt M R Q F = if e ≠ 0 then ([], e) else if 20000 < rows.length then ([], 3) else if s = false then ([], 12) else (rows.map (withM wt), 0) := by
  subst he; subst hr; subst hs; rfl
theorem safe_viol {kd : Int} {wt M : S} {R Q : List S} {F : List F2} (h : safe27 kd wt M R Q F = true) : ∀ x ∈ rowsR (byz27 kd M F) R Q, violC wt x = false := fun x hx => by
  have hf := (safe_cv h).2
  unfold firstR at hf
  have := List.find?_eq_none.1 hf x hx
  simpa using this
set_option maxRecDepth 20000 in
set_option maxHeartbeats 8000000 in
theorem rProve_any {nm : ByteArray} [NmOk nm] (kd : Int) (wt M : S) {ar : Option Addr} {cr : Nat} {R : List S} {aw : Option Addr} {cw : Nat} {Q : List S} {af : Option Addr} {cf : Nat} {F : List F2} (w : World) (h : RdC w ar cr R aw cw Q af cf F) (hn : F.length ≤ 1000000) (hbig : (rowsR (byz27 kd M F) R Q).length ≤ 9000000) :
    Calls Tryz.prog 19 #[.agg #[.string nm, .int .i64 kd, .int .u16 (sv M), .slice ar R.length cr, .slice aw Q.length cw, .slice af F.length cf], .int .u16 (sv wt)] w fun e w' => RetPr w (rproS kd wt M R Q F) e w' := by
  have K0 := (Keeps.refl w).alloc (.cells #[.string nm, .int .i64 kd, .int .u16 (sv M), .slice ar R.length cr, .slice aw Q.length cw, .slice af F.length cf] 31)
  have hb := BoxC.new w 31 nm kd M ar R.length cr aw Q.length cw af F.length cf
  obtain ⟨W1, hW1⟩ : ∃ W0, W0 = w.alloc (.cells #[.string nm, .int .i64 kd, .int .u16 (sv M), .slice ar R.length cr, .slice aw Q.length cw, .slice af F.length cf] 31) := ⟨_, rfl⟩
  rw [← hW1] at hb K0
  have h1 := fun W (k : Keeps w W) => rcValid_any (nm := nm) kd M W (h.keep k)
  have h2 := fun W (k : Keeps w W) => rByz27_any nm kd M (ar := ar) (cr := cr) (R := R) (aw := aw) (cw := cw) (Q := Q) (af := af) (cf := cf) (F := F) af F.length cf F W ((h.keep k).f) hn
  have h3 := fun A C W (k : Keeps w W) hz => rows_any nm kd M A (byz27 kd M F).length C (byz27 kd M F) W (h.keep k) hz hbig
  have h4 := fun W (k : Keeps w W) => rSafe27_any (nm := nm) kd wt M W (h.keep k) hn hbig
  obtain ⟨er, her⟩ : ∃ e, e = cvS kd M R Q F := ⟨_, rfl⟩
  obtain ⟨rw_, hrw⟩ : ∃ e, e = rowsR (byz27 kd M F) R Q := ⟨_, rfl⟩
  obtain ⟨sf, hsf⟩ : ∃ e, e = safe27 kd wt M R Q F := ⟨_, rfl⟩
  have hvi : sf = true → ∀ x ∈ rw_, violC wt x = false := by rw [hsf, hrw]; exact safe_viol
  rw [rpro_split kd wt M R Q F er her rw_ hrw sf hsf]
  simp only [← her] at h1
  simp only [← hrw] at h3 hbig
  simp only [← hsf] at h4
  generalize byz27 kd M F = byz at *
  clear hrw hsf her h
  have H1 := Lib.hid h1; have H2 := Lib.hid h2; have H3 := Lib.hid h3; have H4 := Lib.hid h4; have HVI := Lib.hid hvi
  have HFA := Lib.hid (fun (W : World) (k : Keeps W1 W) => (hb.keep k).conj)
  clear h1 h2 h3 h4 hvi
  generalize R.length = nr at *
  generalize Q.length = nq at *
  generalize F.length = nf at *
  obtain ⟨c0, c1, c2, c3, c4, c5⟩ := hb.conj
  clear hb
  have hcs : er = 0 ∨ er ≠ 0 ∧ (er != 0) = true ∧ (er == 0) = false := by
    by_cases hz : er = 0
    · exact .inl hz
    · exact .inr ⟨hz, by simpa using hz, by simpa using hz⟩
  rcases hcs with rfl | ⟨hne, hb1, hb2⟩
  rotate_left
  · rw [if_pos hne]
    go_enter Tryz.func19, Tryz.ntmps19
    go_wp2_with fail
    rw [← hW1]
    clear hW1 c0 c1 c2 c3 c4 c5 hne
    refine (H1.out _ K0).mono ?_
    rintro e w3 ⟨rfl, K1⟩
    go_wp2_with fail
    go_ret2
    exact ⟨_, rfl, Own.nil _ _ (K0.trans K1)⟩
  rw [if_neg (by simp)]
  obtain ⟨res, hres⟩ : ∃ r, r = if 20000 < rw_.length then (([], 3) : List It × Int) else if sf = false then ([], 12) else (rw_.map (withM wt), 0) := ⟨_, rfl⟩
  rw [← hres]
  have HRES := Lib.hid hres
  clear hres
  go_enter Tryz.func19, Tryz.ntmps19
  go_wp2_with fail
  rw [← hW1]
  clear hW1 c0 c1 c2 c3 c4 c5
  refine (H1.out _ K0).mono ?_
  rintro e w3 ⟨rfl, J3⟩
  obtain ⟨c0, c1, c2, c3, c4, c5⟩ := HFA.out _ J3
  have K1 := K0.trans J3
  have J := Keeps.refl w3
  go_wp2_with fail
  clear c0 c1 c2 c3 c4 c5
  refine wp_region_held_drew (S := (fun w' => w'.cell? ⟨w.heap.size, 0, none⟩ = some (.string nm) ∧ w'.cell? ⟨w.heap.size, 1, none⟩ = some (.int .i64 kd) ∧ w'.cell? ⟨w.heap.size, 2, none⟩ = some (.int .u16 (sv M)) ∧ w'.cell? ⟨w.heap.size, 3, none⟩ = some (.slice ar nr cr) ∧ w'.cell? ⟨w.heap.size, 4, none⟩ = some (.slice aw nq cw) ∧ w'.cell? ⟨w.heap.size, 5, none⟩ = some (.slice af nf cf))) (by kernel_rfl) ?_ (fun hHeld => ?_)
  · exact HFA.out _ (J3.trans J.drew)
  refine wpAnyH_take (i := 0) (oi := ⟨_, _, _, _, _, _⟩) (v := ?_) rfl (by kernel_rfl) (by kernel_rfl) (by kernel_rfl) (fun _ _ _ h => h) (Or.inl ⟨by rfl, ?_⟩) (by assumption) ?_
  rotate_left 1
  · intro w hSw; (try dsimp only at hSw); go_simp <;> with_reducible rfl
  (try simp only [Act.put]); (try simp only [List.setIfInBounds_toArray]); (try simp only [List.set_cons_succ]); (try simp only [List.set_cons_zero])
  refine wpAnyH_take (i := 1) (oi := ⟨_, _, _, _, _, _⟩) (v := ?_) rfl (by kernel_rfl) (by kernel_rfl) (by kernel_rfl) (fun _ _ _ h => h) (Or.inl ⟨by rfl, ?_⟩) (by assumption) ?_
  rotate_left 1
  · intro w hSw; (try dsimp only at hSw); go_simp <;> with_reducible rfl
  (try simp only [Act.put]); (try simp only [List.setIfInBounds_toArray]); (try simp only [List.set_cons_succ]); (try simp only [List.set_cons_zero])
  refine wpAnyH_take (i := 2) (oi := ⟨_, _, _, _, _, _⟩) (v := ?_) rfl (by kernel_rfl) (by kernel_rfl) (by kernel_rfl) (fun _ _ _ h => h) (Or.inl ⟨by rfl, ?_⟩) (by assumption) ?_
  rotate_left 1
  · intro w hSw; (try dsimp only at hSw); go_simp <;> with_reducible rfl
  (try simp only [Act.put]); (try simp only [List.setIfInBounds_toArray]); (try simp only [List.set_cons_succ]); (try simp only [List.set_cons_zero])
  refine wpAnyH_take (i := 3) (oi := ⟨_, _, _, _, _, _⟩) (v := ?_) rfl (by kernel_rfl) (by kernel_rfl) (by kernel_rfl) (fun _ _ _ h => h) (Or.inl ⟨by rfl, ?_⟩) (by assumption) ?_
  rotate_left 1
  · intro w hSw; (try dsimp only at hSw); go_simp <;> with_reducible rfl
  (try simp only [Act.put]); (try simp only [List.setIfInBounds_toArray]); (try simp only [List.set_cons_succ]); (try simp only [List.set_cons_zero])
  refine wpAnyH_ready (rs := [4]) (by kernel_rfl) (by simp) ?_
  refine AllReadyH.cons (o := ⟨_, _, _, _, _, _⟩) rfl (fun K hK => ?_) AllReadyH.nil
  go_simp
  refine (H2.out _ (K1.trans J.drew)).mono ?_; rintro e W5 ⟨v5, rfl, hO5⟩; obtain ⟨a5, d5, rfl, hR5⟩ := hO5.rd; replace J := Keeps.trans J.drew hO5.2
  try go_wp2_with fail
  refine hK.out _ _ ?_ (fun hHeld => ?_)
  · exact HFA.out _ (J3.trans J)
  clear hK K
  (try simp only [Act.put]); (try simp only [List.setIfInBounds_toArray]); (try simp only [List.set_cons_succ]); (try simp only [List.set_cons_zero])
  refine wpAnyH_ready (rs := [5]) (by kernel_rfl) (by simp) ?_
  refine AllReadyH.cons (o := ⟨_, _, _, _, _, _⟩) rfl (fun K hK => ?_) AllReadyH.nil
  go_simp
  refine (H3.out _ _ _ (K1.trans J) hR5).mono ?_; rintro e W6 ⟨v6, rfl, hO6⟩; obtain ⟨a3, d3, rfl, hR3⟩ := hO6.rd; replace J := Keeps.trans J hO6.2
  try go_wp2_with fail
  refine hK.out _ _ ?_ (fun hHeld => ?_)
  · exact HFA.out _ (J3.trans J)
  clear hK K
  (try simp only [Act.put]); (try simp only [List.setIfInBounds_toArray]); (try simp only [List.set_cons_succ]); (try simp only [List.set_cons_zero])
  refine wpAnyH_take (i := 6) (oi := ⟨_, _, _, _, _, _⟩) (v := ?_) rfl (by kernel_rfl) (by kernel_rfl) (by kernel_rfl) (fun _ _ _ h => h) (Or.inl ⟨by rfl, ?_⟩) (by assumption) ?_
  rotate_left 1
  · intro w hSw; (try dsimp only at hSw); go_simp <;> with_reducible rfl
  (try simp only [Act.put]); (try simp only [List.setIfInBounds_toArray]); (try simp only [List.set_cons_succ]); (try simp only [List.set_cons_zero])
  refine wpAnyH_done (by kernel_rfl) ?_ _
  have KK := K1.trans J
  obtain ⟨c0, c1, c2, c3, c4, c5⟩ := HFA.out _ (J3.trans J)
  by_cases hc : 20000 < rw_.length
  · have hr : res = ([], 3) := by rw [HRES.out, if_pos hc]
    have HR := Lib.hid hr
    have hd : decide ((20000 : Int) < (rw_.length : Int)) = true := by simp; omega
    clear hr hc HRES
    go_wp2_with fail
    go_ret2
    rw [HR.out]
    exact ⟨_, rfl, Own.nil _ _ KK⟩
  have hr : res = if sf = false then ([], 12) else (rw_.map (withM wt), 0) := by rw [HRES.out, if_neg hc]
  have HRS := Lib.hid hr
  have hd : decide ((20000 : Int) < (rw_.length : Int)) = false := by simp; omega
  have hcall := H4.out _ KK
  have HC4 := Lib.hid hcall
  have HB := Lib.hid hc
  have HR3 := Lib.hid hR3
  clear hr HRES hc hcall hR3 hO5 hO6 hR5
  cases sf
  · go_wp2_with fail
    clear c0 c1 c2 c3 c4 c5
    refine HC4.out.mono ?_
    rintro e w7 ⟨rfl, K7⟩
    go_wp2_with fail
    go_ret2
    have hr := HRS.out
    rw [hr]; first | rw [if_pos trivial] | rw [if_pos rfl]
    exact ⟨_, rfl, Own.nil _ _ (KK.trans K7)⟩
  have hr : res = (rw_.map (withM wt), 0) := by rw [HRS.out, if_neg (by simp)]
  have HRE := Lib.hid hr
  have HNV := Lib.hid (HVI.out rfl)
  clear hr HRS HVI
  go_wp2_with fail
  clear c0 c1 c2 c3 c4 c5
  refine HC4.out.mono ?_
  rintro e w7 ⟨rfl, K7⟩
  have HR7 := Lib.hid (HR3.out.keep K7)
  have KW := KK.trans K7
  have sR := HR7.out.small
  clear HR3 HC4 K7 KK J H1 H2 H3 H4 HFA
  go_wp2_with fail
  go_loopw [8, 9] (fun u v wr => ∃ i : Nat, i ≤ rw_.length ∧ v = .int .i64 i ∧ Own 49 5 w7 wr u i (itl ((rw_.take i).map (withM wt)))) (fun _ v _ => rw_.length - (RowKit.intOf v).toNat)
  case atStart => exact ⟨0, Nat.zero_le _, rfl, Own.nil _ _ (Keeps.refl _)⟩
  case round =>
    obtain ⟨i, hi, rfl, hO⟩ := hrel
    obtain ⟨a2, c2, rfl, _⟩ := hO.rd
    by_cases hlt : i < rw_.length
    · have hst : (rw_.take (i + 1)).map (withM wt) = (rw_.take i).map (withM wt) ++ [withM wt (ca rw_ i)] := by
        rw [List.take_succ_eq_append_getElem hlt, List.map_append]; simp [ca, List.getD, hlt]
      have hvi := HNV.out (ca rw_ i) (by simp [ca, List.getD, hlt])
      have hs := HR7.out.isSome (by omega)
      have hrw := fun W (k : Keeps w7 W) => And.intro ((HR7.out.keep k).k hlt) ((HR7.out.keep k).k' hlt)
      have KWR := hO.2
      generalize ca rw_ i = x at *
      have HBD := Lib.hid (fun W => bad27_any x wt W)
      have hne : x.2.1 &&& x.2.2.1 &&& ~~~(badC wt x) ≠ 0#16 := by simpa [violC] using hvi
      have hwm := withM_def wt x
      have hpos := memTo_pos hne
      have hil := il_at0 hpos
      have hdd : ((((memTo (x.2.1 &&& x.2.2.1 &&& ~~~(badC wt x)) 16).getD 0 0 : Nat) : Int)) = hdM (x.2.1 &&& x.2.2.1 &&& ~~~(badC wt x)) := rfl
      rw [hdd] at hil
      generalize hdM (x.2.1 &&& x.2.2.1 &&& ~~~(badC wt x)) = hm at *
      generalize badC wt x = bx at *
      have HRW := Lib.hid hrw; have HO := Lib.hid hO; have HST := Lib.hid hst; have HWM := Lib.hid hwm; have HIL := Lib.hid hil; have HPOS := Lib.hid hpos
      clear hrw hO hst hvi hne hwm hpos hil hdd
      have J := Keeps.refl wr
      obtain ⟨⟨g0, g1, g2, g3⟩, g1', g2', g3'⟩ := HRW.out _ (KWR.trans J)
      have hlt' : (i : Int) < (rw_.length : Int) := by omega
      go_wp2_with fail
      clear g0 g1 g2 g3 g1' g2' g3'
      refine wp_region_held_drew (S := (fun w' => (w'.cell? (adr a3 (i * 4)) = some (.int .i64 x.1) ∧ w'.cell? (adr a3 (i * 4 + 1)) = some (.int .u16 (sv x.2.1)) ∧ w'.cell? (adr a3 (i * 4 + 2)) = some (.int .u16 (sv x.2.2.1)) ∧ w'.cell? (adr a3 (i * 4 + 3)) = some (.int .u16 (sv x.2.2.2))) ∧ (w'.cell? ⟨(adr a3 (i * 4)).block, (adr a3 (i * 4)).off + 1, none⟩ = some (.int .u16 (sv x.2.1)) ∧ w'.cell? ⟨(adr a3 (i * 4)).block, (adr a3 (i * 4)).off + 2, none⟩ = some (.int .u16 (sv x.2.2.1)) ∧ w'.cell? ⟨(adr a3 (i * 4)).block, (adr a3 (i * 4)).off + 3, none⟩ = some (.int .u16 (sv x.2.2.2))))) (by kernel_rfl) ?_ (fun hHeld => ?_)
      · exact HRW.out _ (KWR.trans J.drew)
      refine wpAnyH_take (i := 0) (oi := ⟨_, _, _, _, _, _⟩) (v := ?_) rfl (by kernel_rfl) (by kernel_rfl) (by kernel_rfl) (fun _ _ _ h => h) (Or.inl ⟨by rfl, ?_⟩) (by assumption) ?_
      rotate_left 1
      · intro w hSw; (try dsimp only at hSw); go_simp <;> with_reducible rfl
      (try simp only [Act.put]); (try simp only [List.setIfInBounds_toArray]); (try simp only [List.set_cons_succ]); (try simp only [List.set_cons_zero])
      refine wpAnyH_take (i := 1) (oi := ⟨_, _, _, _, _, _⟩) (v := ?_) rfl (by kernel_rfl) (by kernel_rfl) (by kernel_rfl) (fun _ _ _ h => h) (Or.inl ⟨by rfl, ?_⟩) (by assumption) ?_
      rotate_left 1
      · intro w hSw; (try dsimp only at hSw); go_simp <;> with_reducible rfl
      (try simp only [Act.put]); (try simp only [List.setIfInBounds_toArray]); (try simp only [List.set_cons_succ]); (try simp only [List.set_cons_zero])
      refine wpAnyH_take (i := 2) (oi := ⟨_, _, _, _, _, _⟩) (v := ?_) rfl (by kernel_rfl) (by kernel_rfl) (by kernel_rfl) (fun _ _ _ h => h) (Or.inl ⟨by rfl, ?_⟩) (by assumption) ?_
      rotate_left 1
      · intro w hSw; (try dsimp only at hSw); go_simp <;> with_reducible rfl
      (try simp only [Act.put]); (try simp only [List.setIfInBounds_toArray]); (try simp only [List.set_cons_succ]); (try simp only [List.set_cons_zero])
      refine wpAnyH_take (i := 3) (oi := ⟨_, _, _, _, _, _⟩) (v := ?_) rfl (by kernel_rfl) (by kernel_rfl) (by kernel_rfl) (fun _ _ _ h => h) (Or.inl ⟨by rfl, ?_⟩) (by assumption) ?_
      rotate_left 1
      · intro w hSw; (try dsimp only at hSw); go_simp <;> with_reducible rfl
      (try simp only [Act.put]); (try simp only [List.setIfInBounds_toArray]); (try simp only [List.set_cons_succ]); (try simp only [List.set_cons_zero])
      refine wpAnyH_take (i := 4) (oi := ⟨_, _, _, _, _, _⟩) (v := ?_) rfl (by kernel_rfl) (by kernel_rfl) (by kernel_rfl) (fun _ _ _ h => h) (Or.inl ⟨by rfl, ?_⟩) (by assumption) ?_
      rotate_left 1
      · intro w hSw; (try dsimp only at hSw); go_simp <;> with_reducible rfl
      (try simp only [Act.put]); (try simp only [List.setIfInBounds_toArray]); (try simp only [List.set_cons_succ]); (try simp only [List.set_cons_zero])
      refine wpAnyH_take (i := 5) (oi := ⟨_, _, _, _, _, _⟩) (v := ?_) rfl (by kernel_rfl) (by kernel_rfl) (by kernel_rfl) (fun _ _ _ h => h) (Or.inl ⟨by rfl, ?_⟩) (by assumption) ?_
      rotate_left 1
      · intro w hSw; (try dsimp only at hSw); go_simp <;> with_reducible rfl
      (try simp only [Act.put]); (try simp only [List.setIfInBounds_toArray]); (try simp only [List.set_cons_succ]); (try simp only [List.set_cons_zero])
      refine wpAnyH_take (i := 6) (oi := ⟨_, _, _, _, _, _⟩) (v := ?_) rfl (by kernel_rfl) (by kernel_rfl) (by kernel_rfl) (fun _ _ _ h => h) (Or.inl ⟨by rfl, ?_⟩) (by assumption) ?_
      rotate_left 1
      · intro w hSw; (try dsimp only at hSw); go_simp <;> with_reducible rfl
      (try simp only [Act.put]); (try simp only [List.setIfInBounds_toArray]); (try simp only [List.set_cons_succ]); (try simp only [List.set_cons_zero])
      refine wpAnyH_take (i := 7) (oi := ⟨_, _, _, _, _, _⟩) (v := ?_) rfl (by kernel_rfl) (by kernel_rfl) (by kernel_rfl) (fun _ _ _ h => h) (Or.inl ⟨by rfl, ?_⟩) (by assumption) ?_
      rotate_left 1
      · intro w hSw; (try dsimp only at hSw); go_simp <;> with_reducible rfl
      (try simp only [Act.put]); (try simp only [List.setIfInBounds_toArray]); (try simp only [List.set_cons_succ]); (try simp only [List.set_cons_zero])
      refine wpAnyH_take (i := 8) (oi := ⟨_, _, _, _, _, _⟩) (v := ?_) rfl (by kernel_rfl) (by kernel_rfl) (by kernel_rfl) (fun _ _ _ h => h) (Or.inl ⟨by rfl, ?_⟩) (by assumption) ?_
      rotate_left 1
      · intro w hSw; (try dsimp only at hSw); go_simp <;> with_reducible rfl
      (try simp only [Act.put]); (try simp only [List.setIfInBounds_toArray]); (try simp only [List.set_cons_succ]); (try simp only [List.set_cons_zero])
      refine wpAnyH_take (i := 9) (oi := ⟨_, _, _, _, _, _⟩) (v := ?_) rfl (by kernel_rfl) (by kernel_rfl) (by kernel_rfl) (fun _ _ _ h => h) (Or.inl ⟨by rfl, ?_⟩) (by assumption) ?_
      rotate_left 1
      · intro w hSw; (try dsimp only at hSw); go_simp <;> with_reducible rfl
      (try simp only [Act.put]); (try simp only [List.setIfInBounds_toArray]); (try simp only [List.set_cons_succ]); (try simp only [List.set_cons_zero])
      refine wpAnyH_take (i := 10) (oi := ⟨_, _, _, _, _, _⟩) (v := ?_) rfl (by kernel_rfl) (by kernel_rfl) (by kernel_rfl) (fun _ _ _ h => h) (Or.inl ⟨by rfl, ?_⟩) (by assumption) ?_
      rotate_left 1
      · intro w hSw; (try dsimp only at hSw); go_simp <;> with_reducible rfl
      (try simp only [Act.put]); (try simp only [List.setIfInBounds_toArray]); (try simp only [List.set_cons_succ]); (try simp only [List.set_cons_zero])
      refine wpAnyH_take (i := 11) (oi := ⟨_, _, _, _, _, _⟩) (v := ?_) rfl (by kernel_rfl) (by kernel_rfl) (by kernel_rfl) (fun _ _ _ h => h) (Or.inl ⟨by rfl, ?_⟩) (by assumption) ?_
      rotate_left 1
      · intro w hSw; (try dsimp only at hSw); go_simp <;> with_reducible rfl
      (try simp only [Act.put]); (try simp only [List.setIfInBounds_toArray]); (try simp only [List.set_cons_succ]); (try simp only [List.set_cons_zero])
      refine wpAnyH_take (i := 12) (oi := ⟨_, _, _, _, _, _⟩) (v := ?_) rfl (by kernel_rfl) (by kernel_rfl) (by kernel_rfl) (fun _ _ _ h => h) (Or.inl ⟨by rfl, ?_⟩) (by assumption) ?_
      rotate_left 1
      · intro w hSw; (try dsimp only at hSw); go_simp <;> with_reducible rfl
      (try simp only [Act.put]); (try simp only [List.setIfInBounds_toArray]); (try simp only [List.set_cons_succ]); (try simp only [List.set_cons_zero])
      refine wpAnyH_take (i := 13) (oi := ⟨_, _, _, _, _, _⟩) (v := ?_) rfl (by kernel_rfl) (by kernel_rfl) (by kernel_rfl) (fun _ _ _ h => h) (Or.inl ⟨by rfl, ?_⟩) (by assumption) ?_
      rotate_left 1
      · intro w hSw; (try dsimp only at hSw); go_simp <;> with_reducible rfl
      (try simp only [Act.put]); (try simp only [List.setIfInBounds_toArray]); (try simp only [List.set_cons_succ]); (try simp only [List.set_cons_zero])
      refine wpAnyH_take (i := 14) (oi := ⟨_, _, _, _, _, _⟩) (v := ?_) rfl (by kernel_rfl) (by kernel_rfl) (by kernel_rfl) (fun _ _ _ h => h) (Or.inl ⟨by rfl, ?_⟩) (by assumption) ?_
      rotate_left 1
      · intro w hSw; (try dsimp only at hSw); go_simp <;> with_reducible rfl
      (try simp only [Act.put]); (try simp only [List.setIfInBounds_toArray]); (try simp only [List.set_cons_succ]); (try simp only [List.set_cons_zero])
      refine wpAnyH_take (i := 15) (oi := ⟨_, _, _, _, _, _⟩) (v := ?_) rfl (by kernel_rfl) (by kernel_rfl) (by kernel_rfl) (fun _ _ _ h => h) (Or.inl ⟨by rfl, ?_⟩) (by assumption) ?_
      rotate_left 1
      · intro w hSw; (try dsimp only at hSw); go_simp <;> with_reducible rfl
      (try simp only [Act.put]); (try simp only [List.setIfInBounds_toArray]); (try simp only [List.set_cons_succ]); (try simp only [List.set_cons_zero])
      refine wpAnyH_ready (rs := [16]) (by kernel_rfl) (by simp) ?_
      refine AllReadyH.cons (o := ⟨_, _, _, _, _, _⟩) rfl (fun K hK => ?_) AllReadyH.nil
      go_simp
      refine (HBD.out _).mono ?_; rintro e W7 ⟨rfl, K7⟩; replace J := Keeps.trans J.drew K7
      try go_wp2_with fail
      refine hK.out _ _ ?_ (fun hHeld => ?_)
      · exact HRW.out _ (KWR.trans J)
      clear hK K
      (try simp only [Act.put]); (try simp only [List.setIfInBounds_toArray]); (try simp only [List.set_cons_succ]); (try simp only [List.set_cons_zero])
      refine wpAnyH_take (i := 17) (oi := ⟨_, _, _, _, _, _⟩) (v := ?_) rfl (by kernel_rfl) (by kernel_rfl) (by kernel_rfl) (fun _ _ _ h => h) (Or.inl ⟨by rfl, ?_⟩) (by assumption) ?_
      rotate_left 1
      · intro w hSw; (try dsimp only at hSw); go_simp <;> with_reducible rfl
      (try simp only [Act.put]); (try simp only [List.setIfInBounds_toArray]); (try simp only [List.set_cons_succ]); (try simp only [List.set_cons_zero])
      refine wpAnyH_ready (rs := [18]) (by kernel_rfl) (by simp) ?_
      refine AllReadyH.cons (o := ⟨_, _, _, _, _, _⟩) rfl (fun K hK => ?_) AllReadyH.nil
      go_simp
      refine (members7_any _ _).mono ?_; rintro e W8 ⟨v8, rfl, hO8⟩; obtain ⟨a8, d8, rfl, hR8⟩ := hO8.rd; replace J := Keeps.trans J hO8.2
      try go_wp2_with fail
      refine hK.out _ _ ?_ (fun hHeld => ?_)
      · exact HRW.out _ (KWR.trans J)
      clear hK K
      (try simp only [Act.put]); (try simp only [List.setIfInBounds_toArray]); (try simp only [List.set_cons_succ]); (try simp only [List.set_cons_zero])
      refine wpAnyH_take (i := 19) (oi := ⟨_, _, _, _, _, _⟩) (v := ?_) rfl (by kernel_rfl) (by kernel_rfl) (by kernel_rfl) (fun _ _ _ h => h) (Or.inl ⟨by rfl, ?_⟩) (by assumption) ?_
      rotate_left 1
      · intro w hSw; (try dsimp only at hSw); go_simp <;> with_reducible rfl
      (try simp only [Act.put]); (try simp only [List.setIfInBounds_toArray]); (try simp only [List.set_cons_succ]); (try simp only [List.set_cons_zero])
      refine wpAnyH_done (by kernel_rfl) ?_ _
      have hi0 := HIL.out
      have HI0 := Lib.hid (fun (W : World) (k : Keeps W8 W) => (hR8.keep k).cell 0 _ hi0)
      have y8 := hR8.isSome HPOS.out
      have hpN := HPOS.out
      have hp8 : (0 : Int) < ((memTo (x.2.1 &&& x.2.2.1 &&& ~~~bx) 16).length : Int) := by have := HPOS.out; omega
      have HO2 := Lib.hid (HO.out.keep J)
      obtain ⟨⟨g0, g1, g2, g3⟩, g1', g2', g3'⟩ := HRW.out _ (KWR.trans J)
      have HRW2 := Lib.hid (fun (W : World) (k : Keeps W8 W) => And.intro (HI0.out W k) (HRW.out W (KWR.trans (J.trans k))))
      have HO8 := Lib.hid hO8
      clear hR8 hO8 HI0
      have J8 := Keeps.refl W8
      go_wp2_with fail
      clear g0 g1 g2 g3 g1' g2' g3'
      refine wp_region_held_drew (S := (fun w' => w'.cell? (adr a8 0) = some (.int .i64 hm) ∧ ((w'.cell? (adr a3 (i * 4)) = some (.int .i64 x.1) ∧ w'.cell? (adr a3 (i * 4 + 1)) = some (.int .u16 (sv x.2.1)) ∧ w'.cell? (adr a3 (i * 4 + 2)) = some (.int .u16 (sv x.2.2.1)) ∧ w'.cell? (adr a3 (i * 4 + 3)) = some (.int .u16 (sv x.2.2.2))) ∧ (w'.cell? ⟨(adr a3 (i * 4)).block, (adr a3 (i * 4)).off + 1, none⟩ = some (.int .u16 (sv x.2.1)) ∧ w'.cell? ⟨(adr a3 (i * 4)).block, (adr a3 (i * 4)).off + 2, none⟩ = some (.int .u16 (sv x.2.2.1)) ∧ w'.cell? ⟨(adr a3 (i * 4)).block, (adr a3 (i * 4)).off + 3, none⟩ = some (.int .u16 (sv x.2.2.2)))))) (by kernel_rfl) ?_ (fun hHeld => ?_)
      · exact HRW2.out _ J8.drew
      refine wpAnyH_take (i := 0) (oi := ⟨_, _, _, _, _, _⟩) (v := ?_) rfl (by kernel_rfl) (by kernel_rfl) (by kernel_rfl) (fun _ _ _ h => h) (Or.inl ⟨by rfl, ?_⟩) (by assumption) ?_
      rotate_left 1
      · intro w hSw; (try dsimp only at hSw); go_simp <;> with_reducible rfl
      (try simp only [Act.put]); (try simp only [List.setIfInBounds_toArray]); (try simp only [List.set_cons_succ]); (try simp only [List.set_cons_zero])
      refine wpAnyH_take (i := 1) (oi := ⟨_, _, _, _, _, _⟩) (v := ?_) rfl (by kernel_rfl) (by kernel_rfl) (by kernel_rfl) (fun _ _ _ h => h) (Or.inl ⟨by rfl, ?_⟩) (by assumption) ?_
      rotate_left 1
      · intro w hSw; (try dsimp only at hSw); go_simp <;> with_reducible rfl
      (try simp only [Act.put]); (try simp only [List.setIfInBounds_toArray]); (try simp only [List.set_cons_succ]); (try simp only [List.set_cons_zero])
      refine wpAnyH_take (i := 2) (oi := ⟨_, _, _, _, _, _⟩) (v := ?_) rfl (by kernel_rfl) (by kernel_rfl) (by kernel_rfl) (fun _ _ _ h => h) (Or.inl ⟨by rfl, ?_⟩) (by assumption) ?_
      rotate_left 1
      · intro w hSw; (try dsimp only at hSw); go_simp <;> with_reducible rfl
      (try simp only [Act.put]); (try simp only [List.setIfInBounds_toArray]); (try simp only [List.set_cons_succ]); (try simp only [List.set_cons_zero])
      refine wpAnyH_take (i := 3) (oi := ⟨_, _, _, _, _, _⟩) (v := ?_) rfl (by kernel_rfl) (by kernel_rfl) (by kernel_rfl) (fun _ _ _ h => h) (Or.inl ⟨by rfl, ?_⟩) (by assumption) ?_
      rotate_left 1
      · intro w hSw; (try dsimp only at hSw); go_simp <;> with_reducible rfl
      (try simp only [Act.put]); (try simp only [List.setIfInBounds_toArray]); (try simp only [List.set_cons_succ]); (try simp only [List.set_cons_zero])
      refine wpAnyH_take (i := 4) (oi := ⟨_, _, _, _, _, _⟩) (v := ?_) rfl (by kernel_rfl) (by kernel_rfl) (by kernel_rfl) (fun _ _ _ h => h) (Or.inl ⟨by rfl, ?_⟩) (by assumption) ?_
      rotate_left 1
      · intro w hSw; (try dsimp only at hSw); go_simp <;> with_reducible rfl
      (try simp only [Act.put]); (try simp only [List.setIfInBounds_toArray]); (try simp only [List.set_cons_succ]); (try simp only [List.set_cons_zero])
      refine wpAnyH_take (i := 5) (oi := ⟨_, _, _, _, _, _⟩) (v := ?_) rfl (by kernel_rfl) (by kernel_rfl) (by kernel_rfl) (fun _ _ _ h => h) (Or.inl ⟨by rfl, ?_⟩) (by assumption) ?_
      rotate_left 1
      · intro w hSw; (try dsimp only at hSw); go_simp <;> with_reducible rfl
      (try simp only [Act.put]); (try simp only [List.setIfInBounds_toArray]); (try simp only [List.set_cons_succ]); (try simp only [List.set_cons_zero])
      refine wpAnyH_take (i := 6) (oi := ⟨_, _, _, _, _, _⟩) (v := ?_) rfl (by kernel_rfl) (by kernel_rfl) (by kernel_rfl) (fun _ _ _ h => h) (Or.inl ⟨by rfl, ?_⟩) (by assumption) ?_
      rotate_left 1
      · intro w hSw; (try dsimp only at hSw); go_simp <;> with_reducible rfl
      (try simp only [Act.put]); (try simp only [List.setIfInBounds_toArray]); (try simp only [List.set_cons_succ]); (try simp only [List.set_cons_zero])
      refine wpAnyH_take (i := 7) (oi := ⟨_, _, _, _, _, _⟩) (v := ?_) rfl (by kernel_rfl) (by kernel_rfl) (by kernel_rfl) (fun _ _ _ h => h) (Or.inl ⟨by rfl, ?_⟩) (by assumption) ?_
      rotate_left 1
      · intro w hSw; (try dsimp only at hSw); go_simp <;> with_reducible rfl
      (try simp only [Act.put]); (try simp only [List.setIfInBounds_toArray]); (try simp only [List.set_cons_succ]); (try simp only [List.set_cons_zero])
      refine wpAnyH_take (i := 8) (oi := ⟨_, _, _, _, _, _⟩) (v := ?_) rfl (by kernel_rfl) (by kernel_rfl) (by kernel_rfl) (fun _ _ _ h => h) (Or.inl ⟨by rfl, ?_⟩) (by assumption) ?_
      rotate_left 1
      · intro w hSw; (try dsimp only at hSw); go_simp <;> with_reducible rfl
      (try simp only [Act.put]); (try simp only [List.setIfInBounds_toArray]); (try simp only [List.set_cons_succ]); (try simp only [List.set_cons_zero])
      refine wpAnyH_take (i := 9) (oi := ⟨_, _, _, _, _, _⟩) (v := ?_) rfl (by kernel_rfl) (by kernel_rfl) (by kernel_rfl) (fun _ _ _ h => h) (Or.inl ⟨by rfl, ?_⟩) (by assumption) ?_
      rotate_left 1
      · intro w hSw; (try dsimp only at hSw); go_simp <;> with_reducible rfl
      (try simp only [Act.put]); (try simp only [List.setIfInBounds_toArray]); (try simp only [List.set_cons_succ]); (try simp only [List.set_cons_zero])
      refine wpAnyH_take (i := 10) (oi := ⟨_, _, _, _, _, _⟩) (v := ?_) rfl (by kernel_rfl) (by kernel_rfl) (by kernel_rfl) (fun _ _ _ h => h) (Or.inl ⟨by rfl, ?_⟩) (by assumption) ?_
      rotate_left 1
      · intro w hSw; (try dsimp only at hSw); go_simp <;> with_reducible rfl
      (try simp only [Act.put]); (try simp only [List.setIfInBounds_toArray]); (try simp only [List.set_cons_succ]); (try simp only [List.set_cons_zero])
      refine wpAnyH_take (i := 11) (oi := ⟨_, _, _, _, _, _⟩) (v := ?_) rfl (by kernel_rfl) (by kernel_rfl) (by kernel_rfl) (fun _ _ _ h => h) (Or.inl ⟨by rfl, ?_⟩) (by assumption) ?_
      rotate_left 1
      · intro w hSw; (try dsimp only at hSw); go_simp <;> with_reducible rfl
      (try simp only [Act.put]); (try simp only [List.setIfInBounds_toArray]); (try simp only [List.set_cons_succ]); (try simp only [List.set_cons_zero])
      refine wpAnyH_take (i := 12) (oi := ⟨_, _, _, _, _, _⟩) (v := ?_) rfl (by kernel_rfl) (by kernel_rfl) (by kernel_rfl) (fun _ _ _ h => h) (Or.inl ⟨by rfl, ?_⟩) (by assumption) ?_
      rotate_left 1
      · intro w hSw; (try dsimp only at hSw); go_simp <;> with_reducible rfl
      (try simp only [Act.put]); (try simp only [List.setIfInBounds_toArray]); (try simp only [List.set_cons_succ]); (try simp only [List.set_cons_zero])
      refine wpAnyH_take (i := 13) (oi := ⟨_, _, _, _, _, _⟩) (v := ?_) rfl (by kernel_rfl) (by kernel_rfl) (by kernel_rfl) (fun _ _ _ h => h) (Or.inl ⟨by rfl, ?_⟩) (by assumption) ?_
      rotate_left 1
      · intro w hSw; (try dsimp only at hSw); go_simp <;> with_reducible rfl
      (try simp only [Act.put]); (try simp only [List.setIfInBounds_toArray]); (try simp only [List.set_cons_succ]); (try simp only [List.set_cons_zero])
      refine wpAnyH_take (i := 14) (oi := ⟨_, _, _, _, _, _⟩) (v := ?_) rfl (by kernel_rfl) (by kernel_rfl) (by kernel_rfl) (fun _ _ _ h => h) (Or.inl ⟨by rfl, ?_⟩) (by assumption) ?_
      rotate_left 1
      · intro w hSw; (try dsimp only at hSw); go_simp <;> with_reducible rfl
      (try simp only [Act.put]); (try simp only [List.setIfInBounds_toArray]); (try simp only [List.set_cons_succ]); (try simp only [List.set_cons_zero])
      refine wpAnyH_take (i := 15) (oi := ⟨_, _, _, _, _, _⟩) (v := ?_) rfl (by kernel_rfl) (by kernel_rfl) (by kernel_rfl) (fun _ _ _ h => h) (Or.inl ⟨by rfl, ?_⟩) (by assumption) ?_
      rotate_left 1
      · intro w hSw; (try dsimp only at hSw); go_simp <;> with_reducible rfl
      (try simp only [Act.put]); (try simp only [List.setIfInBounds_toArray]); (try simp only [List.set_cons_succ]); (try simp only [List.set_cons_zero])
      refine wpAnyH_take (i := 16) (oi := ⟨_, _, _, _, _, _⟩) (v := ?_) rfl (by kernel_rfl) (by kernel_rfl) (by kernel_rfl) (fun _ _ _ h => h) (Or.inl ⟨by rfl, ?_⟩) (by assumption) ?_
      rotate_left 1
      · intro w hSw; (try dsimp only at hSw); go_simp <;> with_reducible rfl
      (try simp only [Act.put]); (try simp only [List.setIfInBounds_toArray]); (try simp only [List.set_cons_succ]); (try simp only [List.set_cons_zero])
      refine wpAnyH_take (i := 17) (oi := ⟨_, _, _, _, _, _⟩) (v := ?_) rfl (by kernel_rfl) (by kernel_rfl) (by kernel_rfl) (fun _ _ _ h => h) (Or.inl ⟨by rfl, ?_⟩) (by assumption) ?_
      rotate_left 1
      · intro w hSw; (try dsimp only at hSw); go_simp <;> with_reducible rfl
      (try simp only [Act.put]); (try simp only [List.setIfInBounds_toArray]); (try simp only [List.set_cons_succ]); (try simp only [List.set_cons_zero])
      refine wpAnyH_take (i := 18) (oi := ⟨_, _, _, _, _, _⟩) (v := ?_) rfl (by kernel_rfl) (by kernel_rfl) (by kernel_rfl) (fun _ _ _ h => h) (Or.inl ⟨by rfl, ?_⟩) (by assumption) ?_
      rotate_left 1
      · intro w hSw; (try dsimp only at hSw); go_simp <;> with_reducible rfl
      (try simp only [Act.put]); (try simp only [List.setIfInBounds_toArray]); (try simp only [List.set_cons_succ]); (try simp only [List.set_cons_zero])
      refine wpAnyH_take (i := 19) (oi := ⟨_, _, _, _, _, _⟩) (v := ?_) rfl (by kernel_rfl) (by kernel_rfl) (by kernel_rfl) (fun _ _ _ h => h) (Or.inl ⟨by rfl, ?_⟩) (by assumption) ?_
      rotate_left 1
      · intro w hSw; (try dsimp only at hSw); go_simp <;> with_reducible rfl
      (try simp only [Act.put]); (try simp only [List.setIfInBounds_toArray]); (try simp only [List.set_cons_succ]); (try simp only [List.set_cons_zero])
      refine wpAnyH_take (i := 20) (oi := ⟨_, _, _, _, _, _⟩) (v := ?_) rfl (by kernel_rfl) (by kernel_rfl) (by kernel_rfl) (fun _ _ _ h => h) (Or.inl ⟨by rfl, ?_⟩) (by assumption) ?_
      rotate_left 1
      · intro w hSw; (try dsimp only at hSw); go_simp <;> with_reducible rfl
      (try simp only [Act.put]); (try simp only [List.setIfInBounds_toArray]); (try simp only [List.set_cons_succ]); (try simp only [List.set_cons_zero])
      refine wpAnyH_take (i := 21) (oi := ⟨_, _, _, _, _, _⟩) (v := ?_) rfl (by kernel_rfl) (by kernel_rfl) (by kernel_rfl) (fun _ _ _ h => h) (Or.inl ⟨by rfl, ?_⟩) (by assumption) ?_
      rotate_left 1
      · intro w hSw; (try dsimp only at hSw); go_simp <;> with_reducible rfl
      (try simp only [Act.put]); (try simp only [List.setIfInBounds_toArray]); (try simp only [List.set_cons_succ]); (try simp only [List.set_cons_zero])
      refine wpAnyH_take (i := 22) (oi := ⟨_, _, _, _, _, _⟩) (v := ?_) rfl (by kernel_rfl) (by kernel_rfl) (by kernel_rfl) (fun _ _ _ h => h) (Or.inl ⟨by rfl, ?_⟩) (by assumption) ?_
      rotate_left 1
      · intro w hSw; (try dsimp only at hSw); go_simp <;> with_reducible rfl
      (try simp only [Act.put]); (try simp only [List.setIfInBounds_toArray]); (try simp only [List.set_cons_succ]); (try simp only [List.set_cons_zero])
      refine wpAnyH_take (i := 23) (oi := ⟨_, _, _, _, _, _⟩) (v := ?_) rfl (by kernel_rfl) (by kernel_rfl) (by kernel_rfl) (fun _ _ _ h => h) (Or.inl ⟨by rfl, ?_⟩) (by assumption) ?_
      rotate_left 1
      · intro w hSw; (try dsimp only at hSw); go_simp <;> with_reducible rfl
      (try simp only [Act.put]); (try simp only [List.setIfInBounds_toArray]); (try simp only [List.set_cons_succ]); (try simp only [List.set_cons_zero])
      refine wpAnyH_take (i := 24) (oi := ⟨_, _, _, _, _, _⟩) (v := ?_) rfl (by kernel_rfl) (by kernel_rfl) (by kernel_rfl) (fun _ _ _ h => h) (Or.inl ⟨by rfl, ?_⟩) (by assumption) ?_
      rotate_left 1
      · intro w hSw; (try dsimp only at hSw); go_simp <;> with_reducible rfl
      (try simp only [Act.put]); (try simp only [List.setIfInBounds_toArray]); (try simp only [List.set_cons_succ]); (try simp only [List.set_cons_zero])
      refine wpAnyH_ready (rs := [25]) (by kernel_rfl) (by simp) ?_
      refine AllReadyH.cons (o := ⟨_, _, _, _, _, _⟩) rfl (fun K hK => ?_) AllReadyH.nil
      go_simp
      refine hK.out _ _ ?_ (fun hHeld => ?_)
      · first | exact HRW2.out _ (J8.alloc _).drew | exact HRW2.out _ (J8.drew.alloc _)
      clear hK K
      (try simp only [Act.put]); (try simp only [List.setIfInBounds_toArray]); (try simp only [List.set_cons_succ]); (try simp only [List.set_cons_zero])
      refine wpAnyH_ready (rs := [26]) (by kernel_rfl) (by simp) ?_
      refine AllReadyH.cons (o := ⟨_, _, _, _, _, _⟩) rfl (fun K hK => ?_) AllReadyH.nil
      refine step_app tyIt (by rfl) _ _ (by rfl) ((HO2.out.alloc _).keep ((Keeps.refl _).drew)) (by rfl) (by rfl) ((rd_new 49 5 W8 [.int .i64 x.1, .int .u16 (sv x.2.1), .int .u16 (sv x.2.2.1), .int .u16 (sv x.2.2.2), .int .i64 hm] 1 (by decide) rfl).keep ((Keeps.refl _).drew)) (itl_oneCell [(x.1, x.2.1, x.2.2.1, x.2.2.2, hm)]) (by omega) ?_
      intro v' w9 hO3 hgr
      refine hK.out _ _ ?_ (fun hHeld => ?_)
      · refine ⟨?_, HRW.out _ hO3.2⟩
        have hk8 := (((HO8.out.alloc (.cells #[.int .i64 x.1, .int .u16 (sv x.2.1), .int .u16 (sv x.2.2.1), .int .u16 (sv x.2.2.2), .int .i64 hm] 49)).keep ((Keeps.refl _).drew)).1).kept hgr (row_ne (((HO8.out.alloc (.cells #[.int .i64 x.1, .int .u16 (sv x.2.1), .int .u16 (sv x.2.2.1), .int .u16 (sv x.2.2.2), .int .i64 hm] 49)).keep ((Keeps.refl _).drew)).1) (((HO2.out.alloc (.cells #[.int .i64 x.1, .int .u16 (sv x.2.1), .int .u16 (sv x.2.2.1), .int .u16 (sv x.2.2.2), .int .i64 hm] 49)).keep ((Keeps.refl _).drew)).1) (by decide))
        obtain ⟨_, _, hv, hr⟩ := own_rd hk8
        cases hv
        exact hr.cell 0 _ hi0
      clear hK K
      (try simp only [Act.put]); (try simp only [List.setIfInBounds_toArray]); (try simp only [List.set_cons_succ]); (try simp only [List.set_cons_zero])
      refine wpAnyH_take (i := 27) (oi := ⟨_, _, _, _, _, _⟩) (v := ?_) rfl (by kernel_rfl) (by kernel_rfl) (by kernel_rfl) (fun _ _ _ h => h) (Or.inl ⟨by rfl, ?_⟩) (by assumption) ?_
      rotate_left 1
      · intro w hSw; (try dsimp only at hSw); go_simp <;> with_reducible rfl
      (try simp only [Act.put]); (try simp only [List.setIfInBounds_toArray]); (try simp only [List.set_cons_succ]); (try simp only [List.set_cons_zero])
      refine wpAnyH_done (by kernel_rfl) ?_ _
      go_wp2_with fail
      go_roundw
      case rel =>
        refine ⟨i + 1, by omega, by go_num, ?_⟩
        rw [HST.out, itl_append, HWM.out]
        exact hO3
      case measure => simp [RowKit.intOf]; omega
    · obtain rfl : i = rw_.length := by omega
      rw [List.take_length] at hO
      have HO := Lib.hid hO
      clear hO
      go_wp2_with fail
      go_ret2
      have hr := HRE.out
      rw [hr]
      have ho := HO.out.since KW
      exact ⟨_, rfl, by rw [List.length_map]; exact ho⟩
end Go.Proofs.YtcnccoinhohbeaaGreatDoor
