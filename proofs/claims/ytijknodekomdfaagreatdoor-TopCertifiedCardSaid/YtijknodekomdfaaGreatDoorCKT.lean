/- Texts joined into one, what is needed of them (a program of ours). -/
import Derived.Test.YtijknodekomdfaaGreatDoorCKA
import Derived.Test.YtijknodekomdfaaGreatDoorCKF
import Derived.Lib.QuietBelow
import Derived.Deep.RegionHeld3
import Derived.Test.YtijknodekomdfaaGreatDoorCKL
import Derived.Test.YtijknodekomdfaaGreatDoorCKJ
import Derived.Test.YtijknodekomdfaaGreatDoorCKM
namespace Go.Proofs.YtijknodekomdfaaGreatDoor
open Go.RowKit Go.Lib Go.Shelf

def cll (l : List CL) : List Value := l.flatMap fun x => [.int .i64 x.1, .int .u16 (sv x.2.1), .int .u16 (sv x.2.2.1), .int .u16 (sv x.2.2.2)]
def ca (l : List CL) (i : Nat) : CL := l.getD i cl0
theorem length_cll (l : List CL) : (cll l).length = l.length * 4 := by
  induction l with
  | nil => rfl
  | cons x xs ih => unfold cll at *; rw [List.flatMap_cons, List.length_append, ih]; simp; omega
theorem ca_succ (x : CL) (l : List CL) (i : Nat) : ca (x :: l) (i + 1) = ca l i := by simp [ca, List.getD]
theorem cll_at (l : List CL) : ∀ (i : Nat), i < l.length → (cll l)[i * 4]? = some (.int .i64 (ca l i).1) ∧ (cll l)[i * 4 + 1]? = some (.int .u16 (sv (ca l i).2.1)) ∧ (cll l)[i * 4 + 2]? = some (.int .u16 (sv (ca l i).2.2.1)) ∧ (cll l)[i * 4 + 3]? = some (.int .u16 (sv (ca l i).2.2.2)) := by
  induction l with
  | nil => intro i h; simp at h
  | cons x xs ih =>
    intro i h
    cases i with
    | zero => exact ⟨rfl, rfl, rfl, rfl⟩
    | succ i =>
      have := ih i (by simpa using h)
      rw [ca_succ]
      have e : cll (x :: xs) = .int .i64 x.1 :: .int .u16 (sv x.2.1) :: .int .u16 (sv x.2.2.1) :: .int .u16 (sv x.2.2.2) :: cll xs := rfl
      rw [e, show (i + 1) * 4 = i * 4 + 1 + 1 + 1 + 1 by omega]
      simpa using this
theorem Rd.lenC {w : World} {a : Option Addr} {n c : Nat} {l : List CL} (h : Rd w a n c 4 (cll l)) : l.length = n := by have := h.len; rw [length_cll] at this; omega
theorem Rd.k {w : World} {a : Option Addr} {n c : Nat} {l : List CL} (h : Rd w a n c 4 (cll l)) {i : Nat} (hi : i < n) :
    w.cell? (adr a (i * 4)) = some (.int .i64 (ca l i).1) ∧ w.cell? (adr a (i * 4 + 1)) = some (.int .u16 (sv (ca l i).2.1)) ∧ w.cell? (adr a (i * 4 + 2)) = some (.int .u16 (sv (ca l i).2.2.1)) ∧ w.cell? (adr a (i * 4 + 3)) = some (.int .u16 (sv (ca l i).2.2.2)) := by
  obtain ⟨h0, h1, h2, h3⟩ := cll_at l i (by rw [h.lenC]; exact hi)
  exact ⟨h.cell _ _ h0, h.cell _ _ h1, h.cell _ _ h2, h.cell _ _ h3⟩
theorem Rd.k' {w : World} {a : Option Addr} {n c : Nat} {l : List CL} (h : Rd w a n c 4 (cll l)) {i : Nat} (hi : i < n) :
    w.cell? ⟨(adr a (i * 4)).block, (adr a (i * 4)).off + 1, none⟩ = some (.int .u16 (sv (ca l i).2.1)) ∧ w.cell? ⟨(adr a (i * 4)).block, (adr a (i * 4)).off + 2, none⟩ = some (.int .u16 (sv (ca l i).2.2.1)) ∧ w.cell? ⟨(adr a (i * 4)).block, (adr a (i * 4)).off + 3, none⟩ = some (.int .u16 (sv (ca l i).2.2.2)) := by
  obtain ⟨h0, h1, h2, h3⟩ := h.k hi
  rw [adr_plus a _ 1 (by omega), adr_plus a _ 2 (by omega), adr_plus a _ 3 (by omega)]
  exact ⟨h1, h2, h3⟩
end Go.Proofs.YtijknodekomdfaaGreatDoor
namespace Go.Proofs.YtijknodekomdfaaGreatDoor
open Go.RowKit Go.Lib Go.Shelf

def rowA (byz : List S) (r q : S) : List CL := byz.map fun b => (1, r, q, b)
def rowC (byz : List S) (p q : S) : List CL := (byz.filter fun b => b != 0#16).map fun b => (2, p, q, b)
def rows2 (byz : List S) : List S → List CL
  | [] => []
  | p :: ps => (p :: ps).flatMap (rowC byz p) ++ rows2 byz ps
def rows1 (byz Q R : List S) : List CL := R.flatMap fun r => Q.flatMap (rowA byz r)
def rowsR (byz R Q : List S) : List CL := rows1 byz Q R ++ rows2 byz Q
/-- the servers that do not count for a clash -/
def badC (wt : S) (x : CL) : S := if x.1 = 1 then x.2.2.2 ||| wt else x.2.2.2
def violC (wt : S) (x : CL) : Bool := x.2.1 &&& x.2.2.1 &&& ~~~(badC wt x) == 0#16
def firstR (wt : S) (byz R Q : List S) : Option CL := (rowsR byz R Q).find? (violC wt)
end Go.Proofs.YtijknodekomdfaaGreatDoor
namespace Go.Proofs.YtijknodekomdfaaGreatDoor
open Go.RowKit Go.Lib Go.Shelf

def b0F (x : F2) : F2 := (x.1, 0#16)
def b0L (m : List F2) : List F2 := m.map b0F
def fstL (m : List F2) : List S := m.map (·.1)
def byz19 (m : List F2) : List S := fstL (normF (b0L m))
theorem map_b0 (m : List F2) (k : Nat) (h : k < m.length) : fl (b0L (m.take (k + 1))) = fl (b0L (m.take k)) ++ [.int .u16 (sv (fa m k).1), .int .u16 (sv 0#16)] := by
  unfold b0L; rw [take_fa m k h, List.map_append, fl_append]; rfl
theorem map_fst (m : List F2) (k : Nat) (h : k < m.length) : sl (fstL (m.take (k + 1))) = sl (fstL (m.take k)) ++ [.int .u16 (sv (fa m k).1)] := by
  unfold fstL; rw [take_fa m k h, List.map_append, sl_append]; rfl
theorem b0L_len (m : List F2) : (b0L m).length = m.length := List.length_map ..
theorem fstL_len (m : List F2) : (fstL m).length = m.length := List.length_map ..
theorem byz19_le (m : List F2) : (byz19 m).length ≤ m.length := by
  have := normF_le (b0L m)
  rw [b0L_len] at this
  unfold byz19; rw [fstL_len]; exact this
set_option maxRecDepth 20000 in
set_option maxHeartbeats 2000000 in
theorem byz19_any (a : Option Addr) (n c : Nat) (m : List F2) (w : World) (h : Rd w a n c 2 (fl m)) (hn : n ≤ 1000000) :
    Calls Tryz.prog 71 #[.slice a n c] w fun e w' => ∃ v, e = .returned v ∧ Own 31 1 w w' v (byz19 m).length (sl (byz19 m)) := by
  have L := h.lenF
  subst L
  have sm := h.small
  have hno := fun A C (l : List F2) W (hR : Rd W A l.length C 2 (fl l)) (hm : l.length ≤ 1000000) => normal_any A C l W hR hm
  have HNO := Lib.hid hno
  have hres : byz19 m = fstL (normF (b0L m)) := rfl
  have HRES := Lib.hid hres
  have hle := normF_le (b0L m)
  rw [b0L_len] at hle
  clear hno hres
  generalize byz19 m = res at *
  go_enter Tryz.func71, Tryz.ntmps71
  go_wp2_with fail
  go_loopw [3, 4] (fun u v wr => ∃ k : Nat, k ≤ m.length ∧ v = .int .i64 k ∧ Own 34 2 w wr u k (fl (b0L (m.take k)))) (fun _ v _ => m.length - (intOf v).toNat)
  case atStart => exact ⟨0, Nat.zero_le _, rfl, Own.nil _ _ (Keeps.refl _)⟩
  case round =>
    obtain ⟨k, hk, rfl, hO⟩ := hrel
    obtain ⟨a2, c2, rfl, hRa⟩ := hO.rd
    by_cases hlt : k < m.length
    · have hs := h.isSome (by omega)
      have hst := map_b0 m k hlt
      have g0 := (h.keep hO.2).f0 hlt
      have HO := Lib.hid hO; have HST := Lib.hid hst
      clear hO hst hRa
      go_wp2_with (at_builtin; refine wp_app tyF rfl _ _ rfl (HO.out.alloc _) rfl rfl (rd_new 34 2 _ [.int .u16 (sv (fa m k).1), .int .u16 (sv 0#16)] 1 (by decide) rfl) (fl_oneCell [((fa m k).1, 0#16)]) (by omega) ?_)
      intro v3 w3 hO3 hg3
      clear g0 hg3
      go_wp2_with fail
      go_roundw
      case rel => exact ⟨k + 1, by omega, by go_num, by rw [HST.out]; exact hO3⟩
      case measure => simp [intOf]; omega
    · obtain rfl : k = m.length := by omega
      rw [List.take_length] at hO hRa
      have hml := b0L_len m
      generalize b0L m = l at *
      rw [← hml] at hRa
      have hcall := HNO.out a2 c2 l wr hRa (by omega)
      rw [hml] at hcall
      have HC := Lib.hid hcall
      have K1 := hO.2
      have HML := Lib.hid hml
      clear hcall hO hRa hml
      generalize normF l = N at *
      go_wp2_with fail
      refine HC.out.mono ?_
      rintro e w4 ⟨v4, rfl, hO4⟩
      obtain ⟨a4, c4, rfl, hR4⟩ := hO4.rd
      have K2 := K1.trans hO4.2
      have HR4 := Lib.hid hR4
      have s4 := hR4.small
      clear hO4 hR4
      go_wp2_with fail
      go_loopw [5, 6] (fun u v wr => ∃ k : Nat, k ≤ N.length ∧ v = .int .i64 k ∧ Own 31 1 w4 wr u k (sl (fstL (N.take k)))) (fun _ v _ => N.length - (intOf v).toNat)
      case atStart => exact ⟨0, Nat.zero_le _, rfl, Own.nil _ _ (Keeps.refl _)⟩
      case round =>
        obtain ⟨k, hk, rfl, hO⟩ := hrel
        obtain ⟨a5, c5, rfl, hR5⟩ := hO.rd
        by_cases hlt : k < N.length
        · have hs := HR4.out.isSome (by omega)
          have hst := map_fst N k hlt
          have g0 := (HR4.out.keep hO.2).f0 hlt
          have HO := Lib.hid hO; have HST := Lib.hid hst
          clear hO hst hR5
          go_wp2_with (at_builtin; refine wp_app tyS rfl _ _ rfl (HO.out.alloc _) rfl rfl (rd_new 31 1 _ [.int .u16 (sv (fa N k).1)] 1 (by decide) rfl) (sl_oneCell [(fa N k).1]) (by omega) ?_)
          intro v3 w3 hO3 hg3
          clear g0 hg3
          go_wp2_with fail
          go_roundw
          case rel => exact ⟨k + 1, by omega, by go_num, by rw [HST.out]; exact hO3⟩
          case measure => simp [intOf]; omega
        · obtain rfl : k = N.length := by omega
          rw [List.take_length] at hO
          have hnl : res.length = N.length := by rw [HRES.out, fstL_len]
          have HNL := Lib.hid hnl
          have HO := Lib.hid hO
          clear hO hR5 hnl
          go_wp2_with fail
          go_ret
          rw [HNL.out, HRES.out]
          exact ⟨_, rfl, HO.out.since K2⟩
/-- the maximal sets of Byzantine members of a model -/
def maskF (M : S) (m : List F2) : List F2 := m.map fun x => (x.1 &&& M, 0#16)
def restrL (M : S) (m : List F2) : List S := byz19 (maskF M m)
theorem maskF_snoc (M : S) (m : List F2) (k : Nat) (h : k < m.length) : fl (maskF M (m.take (k + 1))) = fl (maskF M (m.take k)) ++ [.int .u16 (sv ((fa m k).1 &&& M)), .int .u16 (sv 0#16)] := by
  unfold maskF; rw [take_fa m k h, List.map_append, fl_append]; rfl
theorem maskF_len (M : S) (m : List F2) : (maskF M m).length = m.length := by simp [maskF]
theorem restrL_le (M : S) (m : List F2) : (restrL M m).length ≤ m.length := by
  have := byz19_le (maskF M m); rw [maskF_len] at this; exact this
set_option maxRecDepth 20000 in
set_option maxHeartbeats 2000000 in
theorem restr_any (nm : ByteArray) (kd : Int) (M : S) {ar : Option Addr} {cr : Nat} {R : List S} {aw : Option Addr} {cw : Nat} {Q : List S} {af : Option Addr} {cf : Nat} {F : List F2} (a : Option Addr) (n c : Nat) (m : List F2) (w : World) (hm : Rd w a n c 2 (fl m)) (hn : n ≤ 1000000) :
    Calls Tryz.prog 23 #[.agg #[.string nm, .int .i64 kd, .int .u16 (sv M), .slice ar R.length cr, .slice aw Q.length cw, .slice af F.length cf], .slice a n c] w fun e w' => ∃ v, e = .returned v ∧ Own 31 1 w w' v (restrL M m).length (sl (restrL M m)) := by
  have L := hm.lenF
  subst L
  have sm := hm.small
  have K0 := (Keeps.refl w).alloc (.cells #[.string nm, .int .i64 kd, .int .u16 (sv M), .slice ar R.length cr, .slice aw Q.length cw, .slice af F.length cf] 36)
  have hb := BoxC.new w 36 nm kd M ar R.length cr aw Q.length cw af F.length cf
  obtain ⟨W1, hW1⟩ : ∃ W0, W0 = w.alloc (.cells #[.string nm, .int .i64 kd, .int .u16 (sv M), .slice ar R.length cr, .slice aw Q.length cw, .slice af F.length cf] 36) := ⟨_, rfl⟩
  rw [← hW1] at hb K0
  have hno := fun A C (l : List F2) W (hR : Rd W A l.length C 2 (fl l)) (hm : l.length ≤ 1000000) => byz19_any A l.length C l W hR hm
  have HNO := Lib.hid hno
  have hres : restrL M m = byz19 (maskF M m) := rfl
  have HRES := Lib.hid hres
  have HM1 := Lib.hid (hm.keep K0)
  have HB2 := Lib.hid (fun (W : World) (K : Keeps W1 W) => (hb.keep K).c2)
  clear hno hres hm hb
  generalize restrL M m = res at *
  go_enter Tryz.func23, Tryz.ntmps23
  go_wp2_with fail
  rw [← hW1]
  clear hW1
  go_loopw [5, 6] (fun u v wr => ∃ k : Nat, k ≤ m.length ∧ v = .int .i64 k ∧ Own 34 2 W1 wr u k (fl (maskF M (m.take k)))) (fun _ v _ => m.length - (intOf v).toNat)
  case atStart => exact ⟨0, Nat.zero_le _, rfl, Own.nil _ _ (Keeps.refl _)⟩
  case round =>
    obtain ⟨k, hk, rfl, hO⟩ := hrel
    obtain ⟨a2, c2, rfl, hRa⟩ := hO.rd
    by_cases hlt : k < m.length
    · have hs := HM1.out.isSome (by omega)
      have hst := maskF_snoc M m k hlt
      have KO := hO.2
      have HCK := Lib.hid (fun (W : World) (K : Keeps W1 W) => And.intro ((HM1.out.keep K).f0 hlt) (HB2.out W K))
      have HO := Lib.hid hO; have HST := Lib.hid hst
      clear hO hst hRa
      go_wp2_with fail
      go_region_held3 (fun w' => w'.cell? (adr a (k * 2)) = some (.int .u16 (sv (fa m k).1)) ∧ w'.cell? ⟨w.heap.size, 2, none⟩ = some (.int .u16 (sv M))) (first | with_reducible exact HCK.out _ KO.drew | with_reducible exact HCK.out _ (KO.alloc _).drew | with_reducible exact hF | go_keep) ((refine step_app tyF (by rfl) _ _ (by rfl) ((HO.out.alloc _).keep ((Keeps.refl _).drew)) (by rfl) (by rfl) ((rd_new 34 2 _ [.int .u16 (sv ((fa m k).1 &&& M)), .int .u16 (sv 0#16)] 1 (by decide) rfl).keep ((Keeps.refl _).drew)) (fl_oneCell [((fa m k).1 &&& M, 0#16)]) (by omega) ?_; intro v' w3 hO3 hgr; have hF := HCK.out _ hO3.2))
      all_goals go_wp2_with fail
      all_goals go_roundw
      case rel => exact ⟨k + 1, by omega, by go_num, by rw [HST.out]; exact hO3⟩
      case measure => simp [intOf]; omega
    · obtain rfl : k = m.length := by omega
      rw [List.take_length] at hO hRa
      have hml := maskF_len M m
      have hrs := HRES.out
      generalize maskF M m = l at *
      rw [← hml] at hRa
      have hcall := HNO.out a2 c2 l wr hRa (by omega)
      rw [← hrs, hml] at hcall
      have HC := Lib.hid hcall
      have K1 := hO.2
      clear hcall hO hRa hml hrs HRES
      go_wp2_with fail
      refine HC.out.mono ?_
      rintro e w4 ⟨v4, rfl, hO4⟩
      go_wp2_with fail
      go_ret
      exact ⟨_, rfl, hO4.since (K0.trans K1)⟩
/-- the Byzantine sets of a configuration for a model -/
def byz27 (kd : Int) (M : S) (m : List F2) : List S := if kd = 1 then [0#16] else restrL M m
theorem byz27_le (kd : Int) (M : S) (m : List F2) : (byz27 kd M m).length ≤ m.length + 1 := by
  have := restrL_le M m
  unfold byz27; split
  · simp
  · omega
theorem cB4 {w : World} {B : Nat} {T : TypeId} {v0 v1 v2 v3 : Value} (h : Blk w B T #[v0, v1, v2, v3]) :
    (w.cell? ⟨B, 0, none⟩ = some v0 ∧ w.cell? ⟨B, 1, none⟩ = some v1 ∧ w.cell? ⟨B, 2, none⟩ = some v2 ∧ w.cell? ⟨B, 3, none⟩ = some v3) :=
  ⟨h.cell 0 rfl, h.cell 1 rfl, h.cell 2 rfl, h.cell 3 rfl⟩
/-- the world after a clash was put into a variable of the call's own -/
structure Aft7 (W3 : World) (B : Nat) (r : Int) (x y z : S) (W : World) : Prop where
  k : Keeps W3 W
  c : W.cell? ⟨B, 0, none⟩ = some (.int .i64 r) ∧ W.cell? ⟨B, 1, none⟩ = some (.int .u16 (sv x)) ∧ W.cell? ⟨B, 2, none⟩ = some (.int .u16 (sv y)) ∧ W.cell? ⟨B, 3, none⟩ = some (.int .u16 (sv z))
theorem Aft7.ofNew {W3 W : World} (k : Keeps W3 W) (r : Int) (x y z : S) : Aft7 W3 W.heap.size r x y z (W.alloc (.cells #[.int .i64 r, .int .u16 (sv x), .int .u16 (sv y), .int .u16 (sv z)] 61)) :=
  ⟨k.alloc _, cB4 (Blk.new W 61 _)⟩
theorem Aft7.ofSet {W3 W : World} {B : Nat} {a0 a1 a2 a3 : Value} (hN : Blk W B 61 #[a0, a1, a2, a3]) (k : Keeps W3 W) (hB : W3.heap.size ≤ B) (r : Int) (x y z : S) :
    Aft7 W3 B r x y z ((((W.setCell ⟨B, 0, none⟩ (.int .i64 r)).setCell ⟨B, 1, none⟩ (.int .u16 (sv x))).setCell ⟨B, 2, none⟩ (.int .u16 (sv y))).setCell ⟨B, 3, none⟩ (.int .u16 (sv z))) :=
  ⟨k.set4 hB _ _ _ _, cB4 ((((hN.set 0 _).set 1 _).set 2 _).set 3 _)⟩
/-- what the reference's Clash of a configuration gives -/
def clash27 (kd : Int) (wt M : S) (R Q : List S) (F : List F2) : CL × Int :=
  if cvS kd M R Q F ≠ 0 then (cl0, cvS kd M R Q F) else match firstR wt (byz27 kd M F) R Q with | some x => (x, 0) | none => (cl0, 13)
def safe27 (kd : Int) (wt M : S) (R Q : List S) (F : List F2) : Bool := (clash27 kd wt M R Q F).2 == 13
end Go.Proofs.YtijknodekomdfaaGreatDoor
