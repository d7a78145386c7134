/- Texts joined into one (wip/bin/pack.py): CL27, R27c, R27d. -/
import Derived.Test.YtnlohknlchgfgaaGreatDoorKF
import Derived.Lib.QuietBelow
import Derived.Deep.RegionHeld3
import Derived.Test.YtnlohknlchgfgaaGreatDoorKL
import Derived.Test.YtnlohknlchgfgaaGreatDoorKJ
import Derived.Test.YtnlohknlchgfgaaGreatDoorKK
import Derived.Test.YtnlohknlchgfgaaGreatDoorKM
/- Slices of clashes. -/
namespace Go.Proofs.YtnlohknlchgfgaaGreatDoor
open Go.RowKit Go.Lib Go.Shelf

def cll (l : List CL) : List Value := l.flatMap fun x => [.int .i64 x.1, .int .u16 (sv x.2.1), .int .u16 (sv x.2.2.1), .int .u16 (sv x.2.2.2)]
def ca (l : List CL) (i : Nat) : CL := l.getD i cl0
theorem length_cll (l : List CL) : (cll l).length = l.length * 4 := by
  induction l with
  | nil => rfl
  | cons x xs ih => unfold cll at *; rw [List.flatMap_cons, List.length_append, ih]; simp; omega
theorem cll_append (l m : List CL) : cll (l ++ m) = cll l ++ cll m := by unfold cll; rw [List.flatMap_append]
theorem ca_succ (x : CL) (l : List CL) (i : Nat) : ca (x :: l) (i + 1) = ca l i := by simp [ca, List.getD]
theorem cll_at (l : List CL) : ∀ (i : Nat), i < l.length → (cll l)[i * 4]? = some (.int .i64 (ca l i).1) ∧ (cll l)[i * 4 + 1]? = some (.int .u16 (sv (ca l i).2.1)) ∧ (cll l)[i * 4 + 2]? = some (.int .u16 (sv (ca l i).2.2.1)) ∧ (cll l)[i * 4 + 3]? = some (.int .u16 (sv (ca l i).2.2.2)) := by
  induction l with
  | nil => intro i h; simp at h
  | cons x xs ih =>
    intro i h
    cases i with
    | zero => exact ⟨rfl, rfl, rfl, rfl⟩
    | succ i =>
      have := ih i (by simpa using h)
      rw [ca_succ]
      have e : cll (x :: xs) = .int .i64 x.1 :: .int .u16 (sv x.2.1) :: .int .u16 (sv x.2.2.1) :: .int .u16 (sv x.2.2.2) :: cll xs := rfl
      rw [e, show (i + 1) * 4 = i * 4 + 1 + 1 + 1 + 1 by omega]
      simpa using this
theorem drop_ca (l : List CL) (i : Nat) (h : i < l.length) : l.drop i = ca l i :: l.drop (i + 1) := by
  rw [List.drop_eq_getElem_cons h]; simp [ca, List.getD, h]
theorem Rd.lenC {w : World} {a : Option Addr} {n c : Nat} {l : List CL} (h : Rd w a n c 4 (cll l)) : l.length = n := by have := h.len; rw [length_cll] at this; omega
theorem Rd.k {w : World} {a : Option Addr} {n c : Nat} {l : List CL} (h : Rd w a n c 4 (cll l)) {i : Nat} (hi : i < n) :
    w.cell? (adr a (i * 4)) = some (.int .i64 (ca l i).1) ∧ w.cell? (adr a (i * 4 + 1)) = some (.int .u16 (sv (ca l i).2.1)) ∧ w.cell? (adr a (i * 4 + 2)) = some (.int .u16 (sv (ca l i).2.2.1)) ∧ w.cell? (adr a (i * 4 + 3)) = some (.int .u16 (sv (ca l i).2.2.2)) := by
  obtain ⟨h0, h1, h2, h3⟩ := cll_at l i (by rw [h.lenC]; exact hi)
  exact ⟨h.cell _ _ h0, h.cell _ _ h1, h.cell _ _ h2, h.cell _ _ h3⟩
theorem adr_plus (a : Option Addr) (i j : Nat) (hj : j ≠ 0) : (⟨(adr a i).block, (adr a i).off + j, none⟩ : Addr) = adr a (i + j) := by
  rw [← adr_add]; unfold Addr.add; rw [if_neg hj]
theorem Rd.k' {w : World} {a : Option Addr} {n c : Nat} {l : List CL} (h : Rd w a n c 4 (cll l)) {i : Nat} (hi : i < n) :
    w.cell? ⟨(adr a (i * 4)).block, (adr a (i * 4)).off + 1, none⟩ = some (.int .u16 (sv (ca l i).2.1)) ∧ w.cell? ⟨(adr a (i * 4)).block, (adr a (i * 4)).off + 2, none⟩ = some (.int .u16 (sv (ca l i).2.2.1)) ∧ w.cell? ⟨(adr a (i * 4)).block, (adr a (i * 4)).off + 3, none⟩ = some (.int .u16 (sv (ca l i).2.2.2)) := by
  obtain ⟨h0, h1, h2, h3⟩ := h.k hi
  rw [adr_plus a _ 1 (by omega), adr_plus a _ 2 (by omega), adr_plus a _ 3 (by omega)]
  exact ⟨h1, h2, h3⟩
theorem infoK : (Tryz.prog.info? 47).map (fun i => (i.zero, i.size, i.bytes)) = some (some (.agg #[.int .i64 0, .int .u16 0, .int .u16 0, .int .u16 0]), 4, 16) := by kernel_rfl
theorem tyK : STy Tryz.prog 112 47 4 16 := STy.of Tryz.underlying112 infoK rfl (by decide) (by decide)
theorem cll_oneCell (l : List CL) : ∀ v ∈ cll l, v.oneCell' = true := fun v hv => by
  unfold cll at hv
  obtain ⟨x, _, hx⟩ := List.mem_flatMap.1 hv
  simp at hx
  rcases hx with rfl | rfl | rfl | rfl <;> rfl
end Go.Proofs.YtnlohknlchgfgaaGreatDoor
/- The reference's rows, bad, Violated, First of layer 27. -/
namespace Go.Proofs.YtnlohknlchgfgaaGreatDoor
open Go.RowKit Go.Lib Go.Shelf

def rowA (byz : List S) (r q : S) : List CL := byz.map fun b => (1, r, q, b)
def rowC (byz : List S) (p q : S) : List CL := (byz.filter fun b => b != 0#16).map fun b => (2, p, q, b)
def rows2 (byz : List S) : List S → List CL
  | [] => []
  | p :: ps => (p :: ps).flatMap (rowC byz p) ++ rows2 byz ps
def rows1 (byz Q R : List S) : List CL := R.flatMap fun r => Q.flatMap (rowA byz r)
def rowsR (byz R Q : List S) : List CL := rows1 byz Q R ++ rows2 byz Q
theorem filter_drop1 (byz : List S) (j : Nat) (h : j < byz.length) (p q : S) : rowC (byz.drop j) p q = (if (at_ byz j != 0#16) = true then [((2, p, q, at_ byz j) : CL)] else []) ++ rowC (byz.drop (j + 1)) p q := by
  unfold rowC
  rw [drop_at byz j h]
  cases g : (at_ byz j != 0#16) <;> simp [g]
set_option maxRecDepth 20000 in
set_option maxHeartbeats 4000000 in
theorem rows_any (nm : ByteArray) (kd : Int) (M : S) {ar : Option Addr} {cr : Nat} {R : List S} {aw : Option Addr} {cw : Nat} {Q : List S} {af : Option Addr} {cf : Nat} {F : List F2} (a : Option Addr) (n c : Nat) (byz : List S) (w : World) (h : RdC w ar cr R aw cw Q af cf F) (hm : Rd w a n c 1 (sl byz)) (hbig : (rowsR byz R Q).length ≤ 9000000) :
    Calls Tryz.prog 86 #[.agg #[.string nm, .int .i64 kd, .int .u16 (sv M), .slice ar R.length cr, .slice aw Q.length cw, .slice af F.length cf], .slice a n c] w fun e w' => ∃ v, e = .returned v ∧ Own 47 4 w w' v (rowsR byz R Q).length (cll (rowsR byz R Q)) := by
  have K0 := (Keeps.refl w).alloc (.cells #[.string nm, .int .i64 kd, .int .u16 (sv M), .slice ar R.length cr, .slice aw Q.length cw, .slice af F.length cf] 32)
  have hb := BoxC.new w 32 nm kd M ar R.length cr aw Q.length cw af F.length cf
  obtain ⟨W1, hW1⟩ : ∃ W0, W0 = w.alloc (.cells #[.string nm, .int .i64 kd, .int .u16 (sv M), .slice ar R.length cr, .slice aw Q.length cw, .slice af F.length cf] 32) := ⟨_, rfl⟩
  rw [← hW1] at hb K0
  have hr := h.r.keep K0
  have hq := h.q.keep K0
  have hz := hm.keep K0
  have sr := hr.small; have sq := hq.small; have sz := hz.small
  have L := hz.lenS
  subst L
  clear h hm
  have e0 : rowsR byz R Q = (R.flatMap fun r => Q.flatMap (rowA byz r)) ++ rows2 byz Q := rfl
  have E0 := Lib.hid e0
  clear e0
  generalize rowsR byz R Q = res at *
  have HB := Lib.hid (fun (W : World) (K : Keeps W1 W) => And.intro (hb.keep K).c3 (hb.keep K).c4)
  have HR := Lib.hid (fun (W : World) (K : Keeps W1 W) (i : Nat) (hi : i < R.length) => (hr.keep K).at hi)
  have HQ := Lib.hid (fun (W : World) (K : Keeps W1 W) (i : Nat) (hi : i < Q.length) => (hq.keep K).at hi)
  have HZ := Lib.hid (fun (W : World) (K : Keeps W1 W) (i : Nat) (hi : i < byz.length) => (hz.keep K).at hi)
  have SR : 0 < R.length → ar.isSome = true := hr.isSome
  have SQ : 0 < Q.length → aw.isSome = true := hq.isSome
  have SZ : 0 < byz.length → a.isSome = true := hz.isSome
  have HS1 := Lib.hid SR; have HS2 := Lib.hid SQ; have HS3 := Lib.hid SZ
  clear SR SQ SZ hr hq hz hb
  go_enter Tryz.func86, Tryz.ntmps86
  go_wp2_with fail
  rw [← hW1]
  clear hW1
  go_loopw [5, 6] (fun u v wr => ∃ (i : Nat) (acc : List CL), i ≤ R.length ∧ v = .int .i64 i ∧ Own 47 4 W1 wr u acc.length (cll acc) ∧ Hid (res = acc ++ (((R.drop i).flatMap fun r => Q.flatMap (rowA byz r)) ++ rows2 byz Q))) (fun _ v _ => R.length - (intOf v).toNat)
  case atStart => exact ⟨0, [], Nat.zero_le _, rfl, Own.nil _ _ (Keeps.refl _), by show _ = _; rw [E0.out, List.drop_zero]; rfl⟩
  case round =>
    obtain ⟨i, acc, hi, rfl, hO, HI⟩ := hrel
    obtain ⟨b3, b4⟩ := HB.out _ hO.2
    obtain ⟨a2, c2, rfl, hR2⟩ := hO.rd
    clear hR2
    by_cases hlt : i < R.length
    · have hst := HI.out
      rw [drop_at R i hlt] at hst
      rw [List.flatMap_cons, List.append_assoc] at hst
      obtain ⟨r, hr⟩ : ∃ r, r = at_ R i := ⟨_, rfl⟩
      rw [← hr] at hst
      have HEr := Lib.hid hr
      have HST := Lib.hid hst
      have HO := Lib.hid hO
      clear hst HI hr hO
      go_wp2_with fail
      clear b3 b4
      go_loopw [5, 7] (fun u v wr => ∃ (k : Nat) (acc : List CL), k ≤ Q.length ∧ v = .int .i64 k ∧ Own 47 4 W1 wr u acc.length (cll acc) ∧ Hid (res = acc ++ (((Q.drop k).flatMap (rowA byz r)) ++ (((R.drop (i + 1)).flatMap fun r => Q.flatMap (rowA byz r)) ++ rows2 byz Q)))) (fun _ v _ => Q.length - (intOf v).toNat)
      case atStart => exact ⟨0, acc, Nat.zero_le _, rfl, HO.out, by show _ = _; rw [HST.out, List.drop_zero]⟩
      case round =>
        clear HO HST
        obtain ⟨k, acc, hk, rfl, hO, HK⟩ := hrel
        obtain ⟨b3, b4⟩ := HB.out _ hO.2
        obtain ⟨a2, c2, rfl, hR2⟩ := hO.rd
        clear hR2
        by_cases hltk : k < Q.length
        · have hst := HK.out
          rw [drop_at Q k hltk, List.flatMap_cons, List.append_assoc] at hst
          obtain ⟨q, hq⟩ : ∃ q, q = at_ Q k := ⟨_, rfl⟩
          rw [← hq] at hst
          obtain ⟨rk, hrk⟩ : ∃ rk, rk = ((Q.drop (k + 1)).flatMap (rowA byz r)) ++ (((R.drop (i + 1)).flatMap fun r => Q.flatMap (rowA byz r)) ++ rows2 byz Q) := ⟨_, rfl⟩
          rw [← hrk] at hst
          have HRK := Lib.hid hrk
          have HEq := Lib.hid hq
          have HSK := Lib.hid hst
          have HO := Lib.hid hO
          clear hst HK hq hrk hO
          go_wp2_with fail
          clear b3 b4
          go_loopw [5, 8] (fun u v wr => ∃ (j : Nat) (acc : List CL), j ≤ byz.length ∧ v = .int .i64 j ∧ Own 47 4 W1 wr u acc.length (cll acc) ∧ Hid (res = acc ++ (rowA (byz.drop j) r q ++ rk))) (fun _ v _ => byz.length - (intOf v).toNat)
          case atStart => exact ⟨0, acc, Nat.zero_le _, rfl, HO.out, by show _ = _; rw [HSK.out, List.drop_zero]⟩
          case round =>
            clear HO HSK
            obtain ⟨j, acc, hj, rfl, hO, HJ⟩ := hrel
            obtain ⟨a2, c2, rfl, hR2⟩ := hO.rd
            clear hR2
            by_cases hltj : j < byz.length
            · obtain ⟨b3, b4⟩ := HB.out _ hO.2
              have hst := HJ.out
              have KO := hO.2
              have hck := fun (W : World) (K : Keeps W1 W) => And.intro (HB.out W K).1 (And.intro (HB.out W K).2 (And.intro (HR.out W K i hlt) (And.intro (HQ.out W K k hltk) (HZ.out W K j hltj))))
              rw [← HEr.out, ← HEq.out] at hck
              have x3 := HZ.out _ hO.2 j hltj
              have y1 := HS1.out (Nat.lt_of_le_of_lt (Nat.zero_le _) hlt)
              have y2 := HS2.out (Nat.lt_of_le_of_lt (Nat.zero_le _) hltk)
              have y3 := HS3.out (Nat.lt_of_le_of_lt (Nat.zero_le _) hltj)
              rw [show rowA (byz.drop j) r q = (1, r, q, at_ byz j) :: rowA (byz.drop (j + 1)) r q by unfold rowA; rw [drop_at byz j hltj, List.map_cons]] at hst
              generalize at_ byz j = b at *
              have HCK := Lib.hid hck
              clear hck x3
              have hln := congrArg List.length hst
              rw [List.length_append, List.length_append, List.length_cons] at hln
              have HS : Hid (res = (acc ++ [(1, r, q, b)]) ++ (rowA (byz.drop (j + 1)) r q ++ rk)) := by show _ = _; rw [hst]; simp
              have HO := Lib.hid hO
              have HBG : acc.length + 1 ≤ 10000000 := by omega
              clear hst HJ hO hln
              go_wp2_with fail
              go_region_held3 (fun w' => w'.cell? ⟨w.heap.size, 3, none⟩ = some (.slice ar R.length cr) ∧ w'.cell? ⟨w.heap.size, 4, none⟩ = some (.slice aw Q.length cw) ∧ w'.cell? (adr ar i) = some (.int .u16 (sv r)) ∧ w'.cell? (adr aw k) = some (.int .u16 (sv q)) ∧ w'.cell? (adr a j) = some (.int .u16 (sv b))) (first | with_reducible exact HCK.out _ KO.drew | with_reducible exact HCK.out _ (KO.alloc _).drew | with_reducible exact hF | go_keep) ((refine step_app tyK (by rfl) _ _ (by rfl) ((HO.out.alloc _).keep ((Keeps.refl _).drew)) (by rfl) (by rfl) ((rd_new 47 4 _ [.int .i64 1, .int .u16 (sv r), .int .u16 (sv q), .int .u16 (sv b)] 1 (by decide) rfl).keep ((Keeps.refl _).drew)) (cll_oneCell [(1, r, q, b)]) (by omega) ?_; intro v' w3 hO3 hgr; have hF := HCK.out _ hO3.2))
              all_goals
                have hO4 : Own 47 4 W1 w3 v' (acc ++ [(1, r, q, b)]).length (cll (acc ++ [(1, r, q, b)])) := by rw [List.length_append, cll_append]; exact hO3
                have HO4 := Lib.hid hO4
                clear hO3 hO4 hgr b3 b4
                go_wp2_with fail
                refine ⟨⟨j + 1, acc ++ [(1, r, q, b)], by omega, by go_num, HO4.out, HS⟩, ?_⟩
                simp [intOf]; omega
            · have hst := HJ.out
              rw [drop_all byz j (by omega), show rowA [] r q = [] from rfl, List.nil_append, HRK.out] at hst
              have HS := Lib.hid hst
              have HO := Lib.hid hO
              clear hst HJ hO
              go_wp2_with fail
              go_roundw
              case rel => exact ⟨k + 1, acc, by omega, by go_num, HO.out, HS⟩
              case measure => simp [intOf]; omega
        · have hst := HK.out
          rw [drop_all Q k (by omega), List.flatMap_nil, List.nil_append] at hst
          have HS := Lib.hid hst
          have HO := Lib.hid hO
          clear hst HK hO
          go_wp2_with fail
          go_roundw
          case rel => exact ⟨i + 1, acc, by omega, by go_num, HO.out, HS⟩
          case measure => simp [intOf]; omega
    · have hst := HI.out
      rw [drop_all R i (by omega), List.flatMap_nil, List.nil_append] at hst
      have HI2 : Hid (res = acc ++ rows2 byz (Q.drop 0)) := by show _ = _; rw [hst, List.drop_zero]
      have HO := Lib.hid hO
      clear hst HI hO
      go_wp2_with fail
      clear b3 b4
      go_loopw [5, 9] (fun u v wr => ∃ (i : Nat) (acc : List CL), i ≤ Q.length ∧ v = .int .i64 i ∧ Own 47 4 W1 wr u acc.length (cll acc) ∧ Hid (res = acc ++ (rows2 byz (Q.drop i)))) (fun _ v _ => Q.length - (intOf v).toNat)
      case atStart => exact ⟨0, acc, Nat.zero_le _, rfl, HO.out, HI2⟩
      case round =>
        obtain ⟨i, acc, hi, rfl, hO, HI⟩ := hrel
        obtain ⟨b3, b4⟩ := HB.out _ hO.2
        obtain ⟨a2, c2, rfl, hR2⟩ := hO.rd
        clear hR2
        by_cases hlt : i < Q.length
        · have hst := HI.out
          rw [drop_at Q i hlt] at hst
          rw [rows2, ← drop_at Q i hlt] at hst
          obtain ⟨r, hr⟩ : ∃ r, r = at_ Q i := ⟨_, rfl⟩
          rw [← hr] at hst
          have HEr := Lib.hid hr
          have HST := Lib.hid hst
          have HO := Lib.hid hO
          clear hst HI hr hO
          go_wp2_with fail
          clear b3 b4
          go_loopw [5, 10] (fun u v wr => ∃ (k : Nat) (acc : List CL), k ≤ Q.length ∧ v = .int .i64 k ∧ Own 47 4 W1 wr u acc.length (cll acc) ∧ Hid (res = acc ++ (((Q.drop k).flatMap (rowC byz r)) ++ rows2 byz (Q.drop (i + 1))))) (fun _ v _ => Q.length - (intOf v).toNat)
          case atStart => exact ⟨i, acc, hi, rfl, HO.out, by show _ = _; rw [HST.out]⟩
          case round =>
            clear HO HST
            obtain ⟨k, acc, hk, rfl, hO, HK⟩ := hrel
            obtain ⟨b3, b4⟩ := HB.out _ hO.2
            obtain ⟨a2, c2, rfl, hR2⟩ := hO.rd
            clear hR2
            by_cases hltk : k < Q.length
            · have hst := HK.out
              rw [drop_at Q k hltk, List.flatMap_cons, List.append_assoc] at hst
              obtain ⟨q, hq⟩ : ∃ q, q = at_ Q k := ⟨_, rfl⟩
              rw [← hq] at hst
              obtain ⟨rk, hrk⟩ : ∃ rk, rk = ((Q.drop (k + 1)).flatMap (rowC byz r)) ++ rows2 byz (Q.drop (i + 1)) := ⟨_, rfl⟩
              rw [← hrk] at hst
              have HRK := Lib.hid hrk
              have HEq := Lib.hid hq
              have HSK := Lib.hid hst
              have HO := Lib.hid hO
              clear hst HK hq hrk hO
              go_wp2_with fail
              clear b3 b4
              go_loopw [5, 11] (fun u v wr => ∃ (j : Nat) (acc : List CL), j ≤ byz.length ∧ v = .int .i64 j ∧ Own 47 4 W1 wr u acc.length (cll acc) ∧ Hid (res = acc ++ (rowC (byz.drop j) r q ++ rk))) (fun _ v _ => byz.length - (intOf v).toNat)
              case atStart => exact ⟨0, acc, Nat.zero_le _, rfl, HO.out, by show _ = _; rw [HSK.out, List.drop_zero]⟩
              case round =>
                clear HO HSK
                obtain ⟨j, acc, hj, rfl, hO, HJ⟩ := hrel
                obtain ⟨a2, c2, rfl, hR2⟩ := hO.rd
                clear hR2
                by_cases hltj : j < byz.length
                · obtain ⟨b3, b4⟩ := HB.out _ hO.2
                  have hst := HJ.out
                  have KO := hO.2
                  have hck := fun (W : World) (K : Keeps W1 W) => And.intro (HB.out W K).1 (And.intro (HB.out W K).2 (And.intro (HQ.out W K i hlt) (And.intro (HQ.out W K k hltk) (HZ.out W K j hltj))))
                  rw [← HEr.out, ← HEq.out] at hck
                  have x3 := HZ.out _ hO.2 j hltj
                  have y1 := HS2.out (Nat.lt_of_le_of_lt (Nat.zero_le _) hlt)
                  have y2 := HS2.out (Nat.lt_of_le_of_lt (Nat.zero_le _) hltk)
                  have y3 := HS3.out (Nat.lt_of_le_of_lt (Nat.zero_le _) hltj)
                  rw [filter_drop1 byz j hltj] at hst
                  generalize at_ byz j = b at *
                  have HCK := Lib.hid hck
                  clear hck
                  have HO := Lib.hid hO
                  cases hb0 : (b != 0#16)
                  · rw [hb0, if_neg (by simp), List.nil_append] at hst
                    have HS := Lib.hid hst
                    clear hst HJ hO
                    go_wp2_with fail
                    go_roundw
                    case rel => exact ⟨j + 1, acc, by omega, by go_num, HO.out, HS⟩
                    case measure => simp [intOf]; omega
                  · rw [hb0, if_pos rfl] at hst
                    have hln := congrArg List.length hst
                    rw [List.length_append, List.length_append, List.length_append, List.length_singleton] at hln
                    have HS : Hid (res = (acc ++ [(2, r, q, b)]) ++ (rowC (byz.drop (j + 1)) r q ++ rk)) := by show _ = _; rw [hst]; simp
                    have HBG : acc.length + 1 ≤ 10000000 := by omega
                    clear hst HJ hO hln
                    go_wp2_with fail
                    go_region_held3 (fun w' => w'.cell? ⟨w.heap.size, 3, none⟩ = some (.slice ar R.length cr) ∧ w'.cell? ⟨w.heap.size, 4, none⟩ = some (.slice aw Q.length cw) ∧ w'.cell? (adr aw i) = some (.int .u16 (sv r)) ∧ w'.cell? (adr aw k) = some (.int .u16 (sv q)) ∧ w'.cell? (adr a j) = some (.int .u16 (sv b))) (first | with_reducible exact HCK.out _ KO.drew | with_reducible exact HCK.out _ (KO.alloc _).drew | with_reducible exact hF | go_keep) ((refine step_app tyK (by rfl) _ _ (by rfl) ((HO.out.alloc _).keep ((Keeps.refl _).drew)) (by rfl) (by rfl) ((rd_new 47 4 _ [.int .i64 2, .int .u16 (sv r), .int .u16 (sv q), .int .u16 (sv b)] 1 (by decide) rfl).keep ((Keeps.refl _).drew)) (cll_oneCell [(2, r, q, b)]) (by omega) ?_; intro v' w3 hO3 hgr; have hF := HCK.out _ hO3.2))
                    all_goals
                      have hO4 : Own 47 4 W1 w3 v' (acc ++ [(2, r, q, b)]).length (cll (acc ++ [(2, r, q, b)])) := by rw [List.length_append, cll_append]; exact hO3
                      have HO4 := Lib.hid hO4
                      clear hO3 hO4 hgr b3 b4
                      go_wp2_with fail
                      refine ⟨⟨j + 1, acc ++ [(2, r, q, b)], by omega, by go_num, HO4.out, HS⟩, ?_⟩
                      simp [intOf]; omega
                · have hst := HJ.out
                  rw [drop_all byz j (by omega), show rowC [] r q = [] from rfl, List.nil_append, HRK.out] at hst
                  have HS := Lib.hid hst
                  have HO := Lib.hid hO
                  clear hst HJ hO
                  go_wp2_with fail
                  go_roundw
                  case rel => exact ⟨k + 1, acc, by omega, by go_num, HO.out, HS⟩
                  case measure => simp [intOf]; omega
            · have hst := HK.out
              rw [drop_all Q k (by omega), List.flatMap_nil, List.nil_append] at hst
              have HS := Lib.hid hst
              have HO := Lib.hid hO
              clear hst HK hO
              go_wp2_with fail
              go_roundw
              case rel => exact ⟨i + 1, acc, by omega, by go_num, HO.out, HS⟩
              case measure => simp [intOf]; omega
        · have hst := HI.out
          rw [drop_all Q i (by omega), rows2, List.append_nil] at hst
          have HF := Lib.hid hst
          have HO := Lib.hid hO
          clear hst HI hO
          go_wp2_with fail
          go_ret
          rw [HF.out]
          exact ⟨_, rfl, HO.out.since K0⟩
/-- the servers that do not count for a clash -/
def badC (wt : S) (x : CL) : S := if x.1 = 1 then x.2.2.2 ||| wt else x.2.2.2
def violC (wt : S) (x : CL) : Bool := x.2.1 &&& x.2.2.1 &&& ~~~(badC wt x) == 0#16
theorem bad27_any (x : CL) (wt : S) (w : World) : Calls Tryz.prog 88 #[.agg #[.int .i64 x.1, .int .u16 (sv x.2.1), .int .u16 (sv x.2.2.1), .int .u16 (sv x.2.2.2)], .int .u16 (sv wt)] w fun e w' => e = .returned (.int .u16 (sv (badC wt x))) ∧ Keeps w w' := by
  obtain ⟨x0, x1, x2, x3⟩ := x
  unfold badC
  simp only
  have K0 := (Keeps.refl w).alloc (.cells #[.int .i64 x0, .int .u16 (sv x1), .int .u16 (sv x2), .int .u16 (sv x3)] 47)
  cases h : (x0 == 1)
  · rw [if_neg (by simpa using h)]
    go_enter Tryz.func88, Tryz.ntmps88
    go_wp2_with fail
    go_ret
    exact ⟨rfl, K0⟩
  · rw [if_pos (by simpa using h)]
    go_enter Tryz.func88, Tryz.ntmps88
    go_wp2_with fail
    go_ret
    exact ⟨rfl, K0⟩
theorem viol27_any (x y z : S) (w : World) : Calls Tryz.prog 87 #[.int .u16 (sv x), .int .u16 (sv y), .int .u16 (sv z)] w fun e w' => e = .returned (.bool (x &&& y &&& ~~~z == 0#16)) ∧ Keeps w w' := by
  go_enter Tryz.func87, Tryz.ntmps87
  go_wp2_with fail
  go_ret
  exact ⟨rfl, Keeps.refl _⟩
def firstR (wt : S) (byz R Q : List S) : Option CL := (rowsR byz R Q).find? (violC wt)
theorem findC_step (f : CL → Bool) (l : List CL) (i : Nat) (h : i < l.length) : (l.drop i).find? f = match f (ca l i) with | true => some (ca l i) | false => (l.drop (i + 1)).find? f := by
  rw [drop_ca l i h, List.find?_cons]; cases f (ca l i) <;> rfl
set_option maxRecDepth 20000 in
set_option maxHeartbeats 3000000 in
theorem first27_any (nm : ByteArray) (kd : Int) (M wt : S) {ar : Option Addr} {cr : Nat} {R : List S} {aw : Option Addr} {cw : Nat} {Q : List S} {af : Option Addr} {cf : Nat} {F : List F2} (a : Option Addr) (n c : Nat) (byz : List S) (w : World) (h : RdC w ar cr R aw cw Q af cf F) (hm : Rd w a n c 1 (sl byz)) (hbig : (rowsR byz R Q).length ≤ 9000000) :
    Calls Tryz.prog 55 #[.agg #[.string nm, .int .i64 kd, .int .u16 (sv M), .slice ar R.length cr, .slice aw Q.length cw, .slice af F.length cf], .int .u16 (sv wt), .slice a n c] w fun e w' => RetCB (firstR wt byz R Q) e ∧ Keeps w w' := by
  have K0 := (Keeps.refl w).alloc (.cells #[.string nm, .int .i64 kd, .int .u16 (sv M), .slice ar R.length cr, .slice aw Q.length cw, .slice af F.length cf] 32)
  have hb := BoxC.new w 32 nm kd M ar R.length cr aw Q.length cw af F.length cf
  obtain ⟨W1, hW1⟩ : ∃ W0, W0 = w.alloc (.cells #[.string nm, .int .i64 kd, .int .u16 (sv M), .slice ar R.length cr, .slice aw Q.length cw, .slice af F.length cf] 32) := ⟨_, rfl⟩
  have hsz : W1.heap.size = w.heap.size + 1 := by rw [hW1, World.size_alloc]
  rw [← hW1] at hb K0
  have k2 := (Keeps.refl W1).alloc (.cells #[.int .i64 0, .int .u16 0, .int .u16 0, .int .u16 0] 47)
  have hx : ClBox (W1.alloc (.cells #[.int .i64 0, .int .u16 0, .int .u16 0, .int .u16 0] 47)) (w.heap.size + 1) cl0 := by rw [← hsz]; exact World.alloc_heap_new W1 _
  obtain ⟨W2, hW2⟩ : ∃ W2, W2 = W1.alloc (.cells #[.int .i64 0, .int .u16 0, .int .u16 0, .int .u16 0] 47) := ⟨_, rfl⟩
  rw [← hW2] at hx k2
  replace hb := hb.keep k2
  replace K0 := K0.trans k2
  have h1 := fun W (k : Keeps w W) => rows_any nm kd M a n c byz W (h.keep k) (hm.keep k) hbig
  have e0 : firstR wt byz R Q = (rowsR byz R Q).find? (violC wt) := rfl
  have E0 := Lib.hid e0
  clear e0
  generalize firstR wt byz R Q = res at *
  generalize rowsR byz R Q = rw_ at *
  have H1 := Lib.hid h1
  clear h1 h hm
  generalize R.length = nr at *
  generalize Q.length = nq at *
  generalize F.length = nf at *
  obtain ⟨c0, c1, c2, c3, c4, c5⟩ := hb.conj
  clear hb
  go_enter Tryz.func55, Tryz.ntmps55
  go_wp2_with fail
  rw [← hW1, ← hW2]
  clear hW1 hW2 hsz k2 c0 c1 c2 c3 c4 c5
  refine (H1.out _ K0).mono ?_
  rintro e w3 ⟨v3, rfl, hO⟩
  obtain ⟨a3, d3, rfl, hR⟩ := hO.rd
  have x3 := hx.keep hO.2
  have K1 := K0.trans hO.2
  have sR := hR.small
  have HX := Lib.hid (fun (W : World) (K : Keeps w3 W) => x3.keep K)
  have HR := Lib.hid hR
  clear hO hR hx x3 H1 K0
  go_wp2_with fail
  go_loopw [9] (fun v wr => ∃ i : Nat, i ≤ rw_.length ∧ v = .int .i64 i ∧ Keeps w3 wr ∧ Hid (res = (rw_.drop i).find? (violC wt))) (fun v _ => rw_.length - (intOf v).toNat)
  case atStart => exact ⟨0, Nat.zero_le _, rfl, Keeps.refl _, E0.out⟩
  case round =>
    obtain ⟨i, hi, rfl, K3, HI⟩ := hrel
    by_cases hlt : i < rw_.length
    · have hRi := HR.out.keep K3
      obtain ⟨g0, g1, g2, g3⟩ := hRi.k hlt
      obtain ⟨g1', g2', g3'⟩ := hRi.k' hlt
      have r0 := cell_regrown g0; have r1 := cell_regrown g1; have r2 := cell_regrown g2; have r3 := cell_regrown g3; have r4 := cell_regrown g1'; have r5 := cell_regrown g2'; have r6 := cell_regrown g3'
      have hs := HR.out.isSome (by omega)
      have hst := HI.out
      rw [findC_step _ rw_ i hlt] at hst
      generalize ca rw_ i = x at *
      have hc1 := fun d os => Calls.regrown_of (bad27_any x wt (Sort.grow (redrawn wr d) os))
      have hc2 := fun d os => Calls.regrown_of (viol27_any x.2.1 x.2.2.1 (badC wt x) (Sort.grow (redrawn wr d) os))
      have H1 := Lib.hid hc1
      clear hc1 hRi
      cases hq : (x.2.1 &&& x.2.2.1 &&& ~~~(badC wt x) == 0#16)
      · rw [hq] at hc2
        rw [show violC wt x = false from hq] at hst
        have H2 := Lib.hid hc2; have HS := Lib.hid hst
        clear hc2 hst HI hq g0 g1 g2 g3 g1' g2' g3'
        go_wp2_with fail
        refine wp_region_quiet_below (by kernel_rfl) (by kernel_rfl) ?_
        repeat (first | go_big_quiet_step (first | with_reducible exact H1.out _ _ | with_reducible exact H2.out _ _) | quiet_step (first | with_reducible exact H1.out _ _ | with_reducible exact H2.out _ _))
        refine wpQuiet_nil ?_
        intro _ hw'
        obtain ⟨⟨dq, osq⟩, hw''⟩ := hw'
        subst hw''
        have KF := K3.trans (grow_keeps dq osq)
        clear r0 r1 r2 r3 r4 r5 r6
        generalize Sort.grow (redrawn wr dq) osq = wz at *
        go_wp2_with fail
        go_roundw
        case rel => exact ⟨i + 1, by omega, by go_num, KF, HS⟩
        case measure => simp [intOf]; omega
      · rw [hq] at hc2
        rw [show violC wt x = true from hq] at hst
        have H2 := Lib.hid hc2; have HS := Lib.hid hst
        have HG := Lib.hid (fun (W : World) (k : Keeps wr W) => And.intro (k.cell g0) (And.intro (k.cell g1') (And.intro (k.cell g2') (k.cell g3'))))
        clear hc2 hst HI hq g0 g1 g2 g3 g1' g2' g3'
        go_wp2_with fail
        refine wp_region_quiet_below (by kernel_rfl) (by kernel_rfl) ?_
        repeat (first | go_big_quiet_step (first | with_reducible exact H1.out _ _ | with_reducible exact H2.out _ _) | quiet_step (first | with_reducible exact H1.out _ _ | with_reducible exact H2.out _ _))
        refine wpQuiet_nil ?_
        intro _ hw'
        obtain ⟨⟨dq, osq⟩, hw''⟩ := hw'
        subst hw''
        have kz := grow_keeps (w := wr) dq osq
        clear r0 r1 r2 r3 r4 r5 r6
        generalize Sort.grow (redrawn wr dq) osq = wz at *
        obtain ⟨g0, g1, g2, g3⟩ := HG.out wz kz
        have KF := K3.trans kz
        have x6 := HX.out _ KF
        obtain ⟨f0, f1', f2', f3⟩ := x6.frozen
        obtain ⟨p0, p1', p2', p3⟩ := x6.cells
        clear x6
        go_wp2_with fail
        refine bodyPost_ret (resBox rfl ((HX.out _ KF).store x) rfl rfl) rfl ⟨by rw [HS.out]; rfl, ?_⟩
        exact (K1.trans KF).set4 (Nat.le_succ _) _ _ _ _
    · have hst := HI.out
      rw [List.drop_eq_nil_of_le (by omega), List.find?_nil] at hst
      have HS := Lib.hid hst
      have x6 := HX.out _ K3
      obtain ⟨f0, f1', f2', f3⟩ := x6.frozen
      obtain ⟨p0, p1', p2', p3⟩ := x6.cells
      clear hst HI x6
      go_wp2_with fail
      refine bodyPost_ret (resBox rfl ((HX.out _ K3).store cl0) rfl rfl) rfl ⟨by rw [HS.out]; rfl, ?_⟩
      exact (K1.trans K3).set4 (Nat.le_succ _) _ _ _ _
end Go.Proofs.YtnlohknlchgfgaaGreatDoor
/- The reference's Byzantine sets, Clash and Safe of layer 27. -/
namespace Go.Proofs.YtnlohknlchgfgaaGreatDoor
open Go.RowKit Go.Lib Go.Shelf

def b0F (x : F2) : F2 := (x.1, 0#16)
def b0L (m : List F2) : List F2 := m.map b0F
def fstL (m : List F2) : List S := m.map (·.1)
def byz19 (m : List F2) : List S := fstL (normF (b0L m))
theorem map_b0 (m : List F2) (k : Nat) (h : k < m.length) : fl (b0L (m.take (k + 1))) = fl (b0L (m.take k)) ++ [.int .u16 (sv (fa m k).1), .int .u16 (sv 0#16)] := by
  unfold b0L; rw [take_fa m k h, List.map_append, fl_append]; rfl
theorem map_fst (m : List F2) (k : Nat) (h : k < m.length) : sl (fstL (m.take (k + 1))) = sl (fstL (m.take k)) ++ [.int .u16 (sv (fa m k).1)] := by
  unfold fstL; rw [take_fa m k h, List.map_append, sl_append]; rfl
theorem b0L_len (m : List F2) : (b0L m).length = m.length := List.length_map ..
theorem fstL_len (m : List F2) : (fstL m).length = m.length := List.length_map ..
theorem byz19_le (m : List F2) : (byz19 m).length ≤ m.length := by
  have := normF_le (b0L m)
  rw [b0L_len] at this
  unfold byz19; rw [fstL_len]; exact this
set_option maxRecDepth 20000 in
set_option maxHeartbeats 2000000 in
theorem byz19_any (a : Option Addr) (n c : Nat) (m : List F2) (w : World) (h : Rd w a n c 2 (fl m)) (hn : n ≤ 1000000) :
    Calls Tryz.prog 121 #[.slice a n c] w fun e w' => ∃ v, e = .returned v ∧ Own 29 1 w w' v (byz19 m).length (sl (byz19 m)) := by
  have L := h.lenF
  subst L
  have sm := h.small
  have hno := fun A C (l : List F2) W (hR : Rd W A l.length C 2 (fl l)) (hm : l.length ≤ 1000000) => normal_any A C l W hR hm
  have HNO := Lib.hid hno
  have hres : byz19 m = fstL (normF (b0L m)) := rfl
  have HRES := Lib.hid hres
  have hle := normF_le (b0L m)
  rw [b0L_len] at hle
  clear hno hres
  generalize byz19 m = res at *
  go_enter Tryz.func121, Tryz.ntmps121
  go_wp2_with fail
  go_loopw [3, 4] (fun u v wr => ∃ k : Nat, k ≤ m.length ∧ v = .int .i64 k ∧ Own 62 2 w wr u k (fl (b0L (m.take k)))) (fun _ v _ => m.length - (intOf v).toNat)
  case atStart => exact ⟨0, Nat.zero_le _, rfl, Own.nil _ _ (Keeps.refl _)⟩
  case round =>
    obtain ⟨k, hk, rfl, hO⟩ := hrel
    obtain ⟨a2, c2, rfl, hRa⟩ := hO.rd
    by_cases hlt : k < m.length
    · have hs := h.isSome (by omega)
      have hst := map_b0 m k hlt
      have g0 := (h.keep hO.2).f0 hlt
      have HO := Lib.hid hO; have HST := Lib.hid hst
      clear hO hst hRa
      go_wp2_with (at_builtin; refine wp_app tyF rfl _ _ rfl (HO.out.alloc _) rfl rfl (rd_new 62 2 _ [.int .u16 (sv (fa m k).1), .int .u16 (sv 0#16)] 1 (by decide) rfl) (fl_oneCell [((fa m k).1, 0#16)]) (by omega) ?_)
      intro v3 w3 hO3 hg3
      clear g0 hg3
      go_wp2_with fail
      go_roundw
      case rel => exact ⟨k + 1, by omega, by go_num, by rw [HST.out]; exact hO3⟩
      case measure => simp [intOf]; omega
    · obtain rfl : k = m.length := by omega
      rw [List.take_length] at hO hRa
      have hml := b0L_len m
      generalize b0L m = l at *
      rw [← hml] at hRa
      have hcall := HNO.out a2 c2 l wr hRa (by omega)
      rw [hml] at hcall
      have HC := Lib.hid hcall
      have K1 := hO.2
      have HML := Lib.hid hml
      clear hcall hO hRa hml
      generalize normF l = N at *
      go_wp2_with fail
      refine HC.out.mono ?_
      rintro e w4 ⟨v4, rfl, hO4⟩
      obtain ⟨a4, c4, rfl, hR4⟩ := hO4.rd
      have K2 := K1.trans hO4.2
      have HR4 := Lib.hid hR4
      have s4 := hR4.small
      clear hO4 hR4
      go_wp2_with fail
      go_loopw [5, 6] (fun u v wr => ∃ k : Nat, k ≤ N.length ∧ v = .int .i64 k ∧ Own 29 1 w4 wr u k (sl (fstL (N.take k)))) (fun _ v _ => N.length - (intOf v).toNat)
      case atStart => exact ⟨0, Nat.zero_le _, rfl, Own.nil _ _ (Keeps.refl _)⟩
      case round =>
        obtain ⟨k, hk, rfl, hO⟩ := hrel
        obtain ⟨a5, c5, rfl, hR5⟩ := hO.rd
        by_cases hlt : k < N.length
        · have hs := HR4.out.isSome (by omega)
          have hst := map_fst N k hlt
          have g0 := (HR4.out.keep hO.2).f0 hlt
          have HO := Lib.hid hO; have HST := Lib.hid hst
          clear hO hst hR5
          go_wp2_with (at_builtin; refine wp_app tyS rfl _ _ rfl (HO.out.alloc _) rfl rfl (rd_new 29 1 _ [.int .u16 (sv (fa N k).1)] 1 (by decide) rfl) (sl_oneCell [(fa N k).1]) (by omega) ?_)
          intro v3 w3 hO3 hg3
          clear g0 hg3
          go_wp2_with fail
          go_roundw
          case rel => exact ⟨k + 1, by omega, by go_num, by rw [HST.out]; exact hO3⟩
          case measure => simp [intOf]; omega
        · obtain rfl : k = N.length := by omega
          rw [List.take_length] at hO
          have hnl : res.length = N.length := by rw [HRES.out, fstL_len]
          have HNL := Lib.hid hnl
          have HO := Lib.hid hO
          clear hO hR5 hnl
          go_wp2_with fail
          go_ret
          rw [HNL.out, HRES.out]
          exact ⟨_, rfl, HO.out.since K2⟩
/-- the maximal sets of Byzantine members of a model -/
def maskF (M : S) (m : List F2) : List F2 := m.map fun x => (x.1 &&& M, 0#16)
def restrL (M : S) (m : List F2) : List S := byz19 (maskF M m)
theorem maskF_snoc (M : S) (m : List F2) (k : Nat) (h : k < m.length) : fl (maskF M (m.take (k + 1))) = fl (maskF M (m.take k)) ++ [.int .u16 (sv ((fa m k).1 &&& M)), .int .u16 (sv 0#16)] := by
  unfold maskF; rw [take_fa m k h, List.map_append, fl_append]; rfl
theorem maskF_len (M : S) (m : List F2) : (maskF M m).length = m.length := by simp [maskF]
theorem restrL_le (M : S) (m : List F2) : (restrL M m).length ≤ m.length := by
  have := byz19_le (maskF M m); rw [maskF_len] at this; exact this
set_option maxRecDepth 20000 in
set_option maxHeartbeats 2000000 in
theorem restr_any (nm : ByteArray) (kd : Int) (M : S) {ar : Option Addr} {cr : Nat} {R : List S} {aw : Option Addr} {cw : Nat} {Q : List S} {af : Option Addr} {cf : Nat} {F : List F2} (a : Option Addr) (n c : Nat) (m : List F2) (w : World) (hm : Rd w a n c 2 (fl m)) (hn : n ≤ 1000000) :
    Calls Tryz.prog 89 #[.agg #[.string nm, .int .i64 kd, .int .u16 (sv M), .slice ar R.length cr, .slice aw Q.length cw, .slice af F.length cf], .slice a n c] w fun e w' => ∃ v, e = .returned v ∧ Own 29 1 w w' v (restrL M m).length (sl (restrL M m)) := by
  have L := hm.lenF
  subst L
  have sm := hm.small
  have K0 := (Keeps.refl w).alloc (.cells #[.string nm, .int .i64 kd, .int .u16 (sv M), .slice ar R.length cr, .slice aw Q.length cw, .slice af F.length cf] 32)
  have hb := BoxC.new w 32 nm kd M ar R.length cr aw Q.length cw af F.length cf
  obtain ⟨W1, hW1⟩ : ∃ W0, W0 = w.alloc (.cells #[.string nm, .int .i64 kd, .int .u16 (sv M), .slice ar R.length cr, .slice aw Q.length cw, .slice af F.length cf] 32) := ⟨_, rfl⟩
  rw [← hW1] at hb K0
  have hno := fun A C (l : List F2) W (hR : Rd W A l.length C 2 (fl l)) (hm : l.length ≤ 1000000) => byz19_any A l.length C l W hR hm
  have HNO := Lib.hid hno
  have hres : restrL M m = byz19 (maskF M m) := rfl
  have HRES := Lib.hid hres
  have HM1 := Lib.hid (hm.keep K0)
  have HB2 := Lib.hid (fun (W : World) (K : Keeps W1 W) => (hb.keep K).c2)
  clear hno hres hm hb
  generalize restrL M m = res at *
  go_enter Tryz.func89, Tryz.ntmps89
  go_wp2_with fail
  rw [← hW1]
  clear hW1
  go_loopw [5, 6] (fun u v wr => ∃ k : Nat, k ≤ m.length ∧ v = .int .i64 k ∧ Own 62 2 W1 wr u k (fl (maskF M (m.take k)))) (fun _ v _ => m.length - (intOf v).toNat)
  case atStart => exact ⟨0, Nat.zero_le _, rfl, Own.nil _ _ (Keeps.refl _)⟩
  case round =>
    obtain ⟨k, hk, rfl, hO⟩ := hrel
    obtain ⟨a2, c2, rfl, hRa⟩ := hO.rd
    by_cases hlt : k < m.length
    · have hs := HM1.out.isSome (by omega)
      have hst := maskF_snoc M m k hlt
      have KO := hO.2
      have HCK := Lib.hid (fun (W : World) (K : Keeps W1 W) => And.intro ((HM1.out.keep K).f0 hlt) (HB2.out W K))
      have HO := Lib.hid hO; have HST := Lib.hid hst
      clear hO hst hRa
      go_wp2_with fail
      go_region_held3 (fun w' => w'.cell? (adr a (k * 2)) = some (.int .u16 (sv (fa m k).1)) ∧ w'.cell? ⟨w.heap.size, 2, none⟩ = some (.int .u16 (sv M))) (first | with_reducible exact HCK.out _ KO.drew | with_reducible exact HCK.out _ (KO.alloc _).drew | with_reducible exact hF | go_keep) ((refine step_app tyF (by rfl) _ _ (by rfl) ((HO.out.alloc _).keep ((Keeps.refl _).drew)) (by rfl) (by rfl) ((rd_new 62 2 _ [.int .u16 (sv ((fa m k).1 &&& M)), .int .u16 (sv 0#16)] 1 (by decide) rfl).keep ((Keeps.refl _).drew)) (fl_oneCell [((fa m k).1 &&& M, 0#16)]) (by omega) ?_; intro v' w3 hO3 hgr; have hF := HCK.out _ hO3.2))
      all_goals go_wp2_with fail
      all_goals go_roundw
      case rel => exact ⟨k + 1, by omega, by go_num, by rw [HST.out]; exact hO3⟩
      case measure => simp [intOf]; omega
    · obtain rfl : k = m.length := by omega
      rw [List.take_length] at hO hRa
      have hml := maskF_len M m
      have hrs := HRES.out
      generalize maskF M m = l at *
      rw [← hml] at hRa
      have hcall := HNO.out a2 c2 l wr hRa (by omega)
      rw [← hrs, hml] at hcall
      have HC := Lib.hid hcall
      have K1 := hO.2
      clear hcall hO hRa hml hrs HRES
      go_wp2_with fail
      refine HC.out.mono ?_
      rintro e w4 ⟨v4, rfl, hO4⟩
      go_wp2_with fail
      go_ret
      exact ⟨_, rfl, hO4.since (K0.trans K1)⟩
/-- the Byzantine sets of a configuration for a model -/
def byz27 (kd : Int) (M : S) (m : List F2) : List S := if kd = 1 then [0#16] else restrL M m
theorem byz27_le (kd : Int) (M : S) (m : List F2) : (byz27 kd M m).length ≤ m.length + 1 := by
  have := restrL_le M m
  unfold byz27; split
  · simp
  · omega
set_option maxRecDepth 20000 in
theorem rByz27_any (nm : ByteArray) (kd : Int) (M : S) {ar : Option Addr} {cr : Nat} {R : List S} {aw : Option Addr} {cw : Nat} {Q : List S} {af : Option Addr} {cf : Nat} {F : List F2} (a : Option Addr) (n c : Nat) (m : List F2) (w : World) (hm : Rd w a n c 2 (fl m)) (hn : n ≤ 1000000) :
    Calls Tryz.prog 56 #[.agg #[.string nm, .int .i64 kd, .int .u16 (sv M), .slice ar R.length cr, .slice aw Q.length cw, .slice af F.length cf], .slice a n c] w fun e w' => ∃ v, e = .returned v ∧ Own 29 1 w w' v (byz27 kd M m).length (sl (byz27 kd M m)) := by
  have K0 := (Keeps.refl w).alloc (.cells #[.string nm, .int .i64 kd, .int .u16 (sv M), .slice ar R.length cr, .slice aw Q.length cw, .slice af F.length cf] 32)
  have hb := BoxC.new w 32 nm kd M ar R.length cr aw Q.length cw af F.length cf
  obtain ⟨W1, hW1⟩ : ∃ W0, W0 = w.alloc (.cells #[.string nm, .int .i64 kd, .int .u16 (sv M), .slice ar R.length cr, .slice aw Q.length cw, .slice af F.length cf] 32) := ⟨_, rfl⟩
  rw [← hW1] at hb K0
  have h1 := fun W (k : Keeps w W) => restr_any nm kd M (ar := ar) (cr := cr) (R := R) (aw := aw) (cw := cw) (Q := Q) (af := af) (cf := cf) (F := F) a n c m W (hm.keep k) hn
  have H1 := Lib.hid h1
  obtain ⟨c0, c1, c2, c3, c4, c5⟩ := hb.conj
  clear h1 hb hm
  unfold byz27
  by_cases hk : kd = 1
  · rw [if_pos hk]
    have hkb : (kd == 1) = true := by simpa using hk
    have hO := Own.made (e := 29) (sz := 1) (Keeps.refl W1) [.int .u16 0] 1 (by decide) rfl
    rw [show W1.heap.size = w.heap.size + 1 by rw [hW1, World.size_alloc]] at hO
    have HO := Lib.hid hO
    clear hO hk
    go_enter Tryz.func56, Tryz.ntmps56
    go_wp2_with fail
    rw [← hW1]
    go_ret
    exact ⟨_, rfl, HO.out.since K0⟩
  · rw [if_neg hk]
    have hkb : (kd == 1) = false := by simpa using hk
    clear hk
    generalize restrL M m = res at *
    generalize R.length = nr at *
    generalize Q.length = nq at *
    generalize F.length = nf at *
    go_enter Tryz.func56, Tryz.ntmps56
    go_wp2_with fail
    rw [← hW1]
    refine (H1.out _ K0).mono ?_
    rintro e w4 ⟨v4, rfl, hO4⟩
    go_wp2_with fail
    go_ret
    exact ⟨_, rfl, hO4.since K0⟩
theorem cB4 {w : World} {B : Nat} {T : TypeId} {v0 v1 v2 v3 : Value} (h : Blk w B T #[v0, v1, v2, v3]) :
    (w.cell? ⟨B, 0, none⟩ = some v0 ∧ w.cell? ⟨B, 1, none⟩ = some v1 ∧ w.cell? ⟨B, 2, none⟩ = some v2 ∧ w.cell? ⟨B, 3, none⟩ = some v3) :=
  ⟨h.cell 0 rfl, h.cell 1 rfl, h.cell 2 rfl, h.cell 3 rfl⟩
theorem fB4 {w : World} {B : Nat} {T : TypeId} {cs : Array Value} (h : Blk w B T cs) :
    (w.frozen? ⟨B, 0, none⟩ = false ∧ w.frozen? ⟨B, 1, none⟩ = false ∧ w.frozen? ⟨B, 2, none⟩ = false ∧ w.frozen? ⟨B, 3, none⟩ = false) :=
  ⟨h.frozen 0, h.frozen 1, h.frozen 2, h.frozen 3⟩
/-- the world after a clash was put into a variable of the call's own -/
structure Aft7 (W3 : World) (B : Nat) (r : Int) (x y z : S) (W : World) : Prop where
  k : Keeps W3 W
  c : W.cell? ⟨B, 0, none⟩ = some (.int .i64 r) ∧ W.cell? ⟨B, 1, none⟩ = some (.int .u16 (sv x)) ∧ W.cell? ⟨B, 2, none⟩ = some (.int .u16 (sv y)) ∧ W.cell? ⟨B, 3, none⟩ = some (.int .u16 (sv z))
theorem Aft7.ofNew {W3 W : World} (k : Keeps W3 W) (r : Int) (x y z : S) : Aft7 W3 W.heap.size r x y z (W.alloc (.cells #[.int .i64 r, .int .u16 (sv x), .int .u16 (sv y), .int .u16 (sv z)] 47)) :=
  ⟨k.alloc _, cB4 (Blk.new W 47 _)⟩
theorem Aft7.ofSet {W3 W : World} {B : Nat} {a0 a1 a2 a3 : Value} (hN : Blk W B 47 #[a0, a1, a2, a3]) (k : Keeps W3 W) (hB : W3.heap.size ≤ B) (r : Int) (x y z : S) :
    Aft7 W3 B r x y z ((((W.setCell ⟨B, 0, none⟩ (.int .i64 r)).setCell ⟨B, 1, none⟩ (.int .u16 (sv x))).setCell ⟨B, 2, none⟩ (.int .u16 (sv y))).setCell ⟨B, 3, none⟩ (.int .u16 (sv z))) :=
  ⟨k.set4 hB _ _ _ _, cB4 ((((hN.set 0 _).set 1 _).set 2 _).set 3 _)⟩
/-- what the reference's Clash of a configuration gives -/
def clash27 (kd : Int) (wt M : S) (R Q : List S) (F : List F2) : CL × Int :=
  if cvS kd M R Q F ≠ 0 then (cl0, cvS kd M R Q F) else match firstR wt (byz27 kd M F) R Q with | some x => (x, 0) | none => (cl0, 13)
set_option maxRecDepth 20000 in
set_option maxHeartbeats 3000000 in
theorem rClash27_any {nm : ByteArray} [NmOk nm] (kd : Int) (wt M : S) {ar : Option Addr} {cr : Nat} {R : List S} {aw : Option Addr} {cw : Nat} {Q : List S} {af : Option Addr} {cf : Nat} {F : List F2} (w : World) (h : RdC w ar cr R aw cw Q af cf F) (hn : F.length ≤ 1000000) (hbig : (rowsR (byz27 kd M F) R Q).length ≤ 9000000) :
    Calls Tryz.prog 31 #[.agg #[.string nm, .int .i64 kd, .int .u16 (sv M), .slice ar R.length cr, .slice aw Q.length cw, .slice af F.length cf], .int .u16 (sv wt)] w fun e w' => RetCE (clash27 kd wt M R Q F) e ∧ Keeps w w' := by
  have K0 := (Keeps.refl w).alloc (.cells #[.string nm, .int .i64 kd, .int .u16 (sv M), .slice ar R.length cr, .slice aw Q.length cw, .slice af F.length cf] 32)
  have hb := BoxC.new w 32 nm kd M ar R.length cr aw Q.length cw af F.length cf
  obtain ⟨W1, hW1⟩ : ∃ W0, W0 = w.alloc (.cells #[.string nm, .int .i64 kd, .int .u16 (sv M), .slice ar R.length cr, .slice aw Q.length cw, .slice af F.length cf] 32) := ⟨_, rfl⟩
  rw [← hW1] at hb K0
  have hsz : W1.heap.size = w.heap.size + 1 := by rw [hW1, World.size_alloc]
  have k2 := (Keeps.refl W1).alloc (.cells #[.int .i64 0, .int .u16 0, .int .u16 0, .int .u16 0] 47)
  have hx : ClBox (W1.alloc (.cells #[.int .i64 0, .int .u16 0, .int .u16 0, .int .u16 0] 47)) (w.heap.size + 1) cl0 := by rw [← hsz]; exact World.alloc_heap_new W1 _
  obtain ⟨W2, hW2⟩ : ∃ W2, W2 = W1.alloc (.cells #[.int .i64 0, .int .u16 0, .int .u16 0, .int .u16 0] 47) := ⟨_, rfl⟩
  rw [← hW2] at hx k2
  replace hb := hb.keep k2
  replace K0 := K0.trans k2
  have h1 := fun W (k : Keeps w W) => rcValid_any (nm := nm) kd M W (h.keep k)
  have h2 := fun W (k : Keeps w W) => rByz27_any nm kd M (ar := ar) (cr := cr) (R := R) (aw := aw) (cw := cw) (Q := Q) (af := af) (cf := cf) (F := F) af F.length cf F W (h.keep k).f hn
  have h3 := fun W (k : Keeps w W) A N C hz => first27_any nm kd M wt A N C (byz27 kd M F) W (h.keep k) hz hbig
  have e0 : clash27 kd wt M R Q F = if cvS kd M R Q F ≠ 0 then (cl0, cvS kd M R Q F) else clRes (firstR wt (byz27 kd M F) R Q) := by unfold clash27 clRes; cases firstR wt (byz27 kd M F) R Q <;> rfl
  have H1 := Lib.hid h1; have H2 := Lib.hid h2; have H3 := Lib.hid h3; have E0 := Lib.hid e0
  clear h1 h2 h3 e0 hbig
  generalize clash27 kd wt M R Q F = res at *
  generalize firstR wt (byz27 kd M F) R Q = ru at *
  generalize cvS kd M R Q F = er at *
  generalize byz27 kd M F = byz at *
  clear h
  generalize R.length = nr at *
  generalize Q.length = nq at *
  generalize F.length = nf at *
  obtain ⟨c0, c1, c2, c3, c4, c5⟩ := hb.conj
  have HBX := Lib.hid hb
  clear hb
  go_enter Tryz.func31, Tryz.ntmps31
  go_wp2_with fail
  rw [← hW1, ← hW2]
  clear hW1 hW2 hsz k2 c0 c1 c2 c3 c4 c5
  refine (H1.out _ K0).mono ?_
  rintro e w3 ⟨rfl, K1⟩
  have b3 := HBX.out.keep K1
  have x3 := hx.keep K1
  replace K1 := K0.trans K1
  clear hx K0 H1 HBX
  by_cases her : er = 0
  rotate_left
  · have hres : res = (cl0, er) := by rw [E0.out, if_pos her]
    have hb : (er != 0) = true := by simpa using her
    obtain ⟨f0, f1, f2, f3⟩ := x3.frozen
    obtain ⟨g0, g1, g2, g3⟩ := x3.cells
    have X3 := Lib.hid x3; have HRS := Lib.hid hres
    clear x3 hres her b3
    go_wp2_with fail
    exact bodyPost_ret (resBox rfl (X3.out.store cl0) rfl rfl) rfl ⟨by rw [HRS.out]; rfl, K1.set4 (Nat.le_succ _) _ _ _ _⟩
  subst her
  have hE := E0.out
  rw [if_neg (by simp)] at hE
  have HE := Lib.hid hE
  have HB3 := Lib.hid b3; have HX3 := Lib.hid x3
  clear hE E0 b3 x3
  obtain ⟨p0, p1, p2, p3, p4, p5⟩ := HB3.out.conj
  go_wp2_with fail
  clear p0 p1 p2 p3 p4 p5
  have J0 := Keeps.refl w3
  rcases ru with _ | x
  · go_region_held3 (fun w' => w'.cell? ⟨w.heap.size, 0, none⟩ = some (.string nm) ∧ w'.cell? ⟨w.heap.size, 1, none⟩ = some (.int .i64 kd) ∧ w'.cell? ⟨w.heap.size, 2, none⟩ = some (.int .u16 (sv M)) ∧ w'.cell? ⟨w.heap.size, 3, none⟩ = some (.slice ar nr cr) ∧ w'.cell? ⟨w.heap.size, 4, none⟩ = some (.slice aw nq cw) ∧ w'.cell? ⟨w.heap.size, 5, none⟩ = some (.slice af nf cf)) (first | with_reducible exact (HB3.out.keep J0.drew).conj | with_reducible exact (HB3.out.keep (J0.alloc _).drew).conj | with_reducible exact (HB3.out.keep J).conj | with_reducible exact (HB3.out.keep (J.alloc _)).conj | with_reducible exact (HB3.out.keep (J.set4 hNB _ _ _ _)).conj | go_keep) ((first | (go_at_call 56; refine (H2.out _ (K1.trans (by first | with_reducible exact J0.drew | with_reducible exact (J0.alloc _).drew))).mono ?_; rintro e W8 ⟨v8, rfl, hO8⟩; obtain ⟨a8, c8, rfl, hR8⟩ := hO8.rd; have J := Keeps.trans (by first | with_reducible exact J0.drew | with_reducible exact (J0.alloc _).drew) hO8.2; (first | (have hN := Blk.ofd hO8.2; have hNB := Nat.le_refl w3.heap.size) | skip)) | (go_at_call 55; refine (H3.out _ (K1.trans (by first | with_reducible exact J | with_reducible exact J.alloc _)) _ _ _ (by first | with_reducible exact hR8 | with_reducible exact hR8.keep ((Keeps.refl _).alloc _))).mono ?_; rintro e W9 ⟨he, k9⟩; dsimp only [RetCB, vcl, cl0, Option.getD, Option.isSome] at he; subst he; (first | (have hN := Blk.of k9; have hNB := J.size) | (replace hN := Blk.keep hN k9) | skip); replace J := Keeps.trans (by first | with_reducible exact J | with_reducible exact J.alloc _) k9; (first | (have hN2 := hN; obtain ⟨n0, n1, n2, n3⟩ := cB4 hN2; obtain ⟨q0, q1, q2, q3⟩ := fB4 hN2; clear hN2) | skip))))
    all_goals
      first
      | obtain ⟨Wf, hWf, hA⟩ := pack (Aft7.ofSet hN J hNB 0 0#16 0#16 0#16)
        rw [hWf]
        clear hWf
      | obtain ⟨Wf, hWf, hA⟩ := pack (Aft7.ofNew J 0 0#16 0#16 0#16)
        rw [hWf]
        clear hWf
    all_goals
      have hres : res = (cl0, 13) := by rw [HE.out]; rfl
      have HRS := Lib.hid hres
      have x6 := HX3.out.keep hA.k
      have KJ := K1.trans hA.k
      obtain ⟨f0, f1, f2, f3⟩ := x6.frozen
      obtain ⟨g0, g1, g2, g3⟩ := x6.cells
      obtain ⟨d0, d1, d2, d3⟩ := hA.c
      have X6 := Lib.hid x6
      clear x6 hres HE HB3 HX3 hA
      go_wp2_with fail
      exact bodyPost_ret (resBox rfl (X6.out.store cl0) rfl rfl) rfl ⟨by rw [HRS.out]; rfl, KJ.set4 (Nat.le_succ _) _ _ _ _⟩
  · go_region_held3 (fun w' => w'.cell? ⟨w.heap.size, 0, none⟩ = some (.string nm) ∧ w'.cell? ⟨w.heap.size, 1, none⟩ = some (.int .i64 kd) ∧ w'.cell? ⟨w.heap.size, 2, none⟩ = some (.int .u16 (sv M)) ∧ w'.cell? ⟨w.heap.size, 3, none⟩ = some (.slice ar nr cr) ∧ w'.cell? ⟨w.heap.size, 4, none⟩ = some (.slice aw nq cw) ∧ w'.cell? ⟨w.heap.size, 5, none⟩ = some (.slice af nf cf)) (first | with_reducible exact (HB3.out.keep J0.drew).conj | with_reducible exact (HB3.out.keep (J0.alloc _).drew).conj | with_reducible exact (HB3.out.keep J).conj | with_reducible exact (HB3.out.keep (J.alloc _)).conj | with_reducible exact (HB3.out.keep (J.set4 hNB _ _ _ _)).conj | go_keep) ((first | (go_at_call 56; refine (H2.out _ (K1.trans (by first | with_reducible exact J0.drew | with_reducible exact (J0.alloc _).drew))).mono ?_; rintro e W8 ⟨v8, rfl, hO8⟩; obtain ⟨a8, c8, rfl, hR8⟩ := hO8.rd; have J := Keeps.trans (by first | with_reducible exact J0.drew | with_reducible exact (J0.alloc _).drew) hO8.2; (first | (have hN := Blk.ofd hO8.2; have hNB := Nat.le_refl w3.heap.size) | skip)) | (go_at_call 55; refine (H3.out _ (K1.trans (by first | with_reducible exact J | with_reducible exact J.alloc _)) _ _ _ (by first | with_reducible exact hR8 | with_reducible exact hR8.keep ((Keeps.refl _).alloc _))).mono ?_; rintro e W9 ⟨he, k9⟩; dsimp only [RetCB, vcl, cl0, Option.getD, Option.isSome] at he; subst he; (first | (have hN := Blk.of k9; have hNB := J.size) | (replace hN := Blk.keep hN k9) | skip); replace J := Keeps.trans (by first | with_reducible exact J | with_reducible exact J.alloc _) k9; (first | (have hN2 := hN; obtain ⟨n0, n1, n2, n3⟩ := cB4 hN2; obtain ⟨q0, q1, q2, q3⟩ := fB4 hN2; clear hN2) | skip))))
    all_goals
      first
      | obtain ⟨Wf, hWf, hA⟩ := pack (Aft7.ofSet hN J hNB x.1 x.2.1 x.2.2.1 x.2.2.2)
        rw [hWf]
        clear hWf
      | obtain ⟨Wf, hWf, hA⟩ := pack (Aft7.ofNew J x.1 x.2.1 x.2.2.1 x.2.2.2)
        rw [hWf]
        clear hWf
    all_goals
      have hres : res = (x, 0) := by rw [HE.out]; rfl
      have HRS := Lib.hid hres
      have x6 := HX3.out.keep hA.k
      have KJ := K1.trans hA.k
      obtain ⟨f0, f1, f2, f3⟩ := x6.frozen
      obtain ⟨g0, g1, g2, g3⟩ := x6.cells
      obtain ⟨d0, d1, d2, d3⟩ := hA.c
      have X6 := Lib.hid x6
      clear x6 hres HE HB3 HX3 hA
      go_wp2_with fail
      exact bodyPost_ret (resBox rfl (X6.out.store x) rfl rfl) rfl ⟨by rw [HRS.out]; rfl, KJ.set4 (Nat.le_succ _) _ _ _ _⟩
def safe27 (kd : Int) (wt M : S) (R Q : List S) (F : List F2) : Bool := (clash27 kd wt M R Q F).2 == 13
set_option maxRecDepth 20000 in
theorem rSafe27_any {nm : ByteArray} [NmOk nm] (kd : Int) (wt M : S) {ar : Option Addr} {cr : Nat} {R : List S} {aw : Option Addr} {cw : Nat} {Q : List S} {af : Option Addr} {cf : Nat} {F : List F2} (w : World) (h : RdC w ar cr R aw cw Q af cf F) (hn : F.length ≤ 1000000) (hbig : (rowsR (byz27 kd M F) R Q).length ≤ 9000000) :
    Calls Tryz.prog 8 #[.agg #[.string nm, .int .i64 kd, .int .u16 (sv M), .slice ar R.length cr, .slice aw Q.length cw, .slice af F.length cf], .int .u16 (sv wt)] w fun e w' => e = .returned (.bool (safe27 kd wt M R Q F)) ∧ Keeps w w' := by
  have K0 := (Keeps.refl w).alloc (.cells #[.string nm, .int .i64 kd, .int .u16 (sv M), .slice ar R.length cr, .slice aw Q.length cw, .slice af F.length cf] 32)
  have h1 := fun W (k : Keeps w W) => rClash27_any (nm := nm) kd wt M W (h.keep k) hn hbig
  unfold safe27
  unfold RetCE at h1
  generalize clash27 kd wt M R Q F = r at *
  obtain ⟨x, z⟩ := r
  simp only [vcl] at h1
  have H1 := Lib.hid h1
  clear h1 h hbig
  generalize R.length = nr at *
  generalize Q.length = nq at *
  generalize F.length = nf at *
  go_enter Tryz.func8, Tryz.ntmps8
  go_wp2_with fail
  refine (H1.out _ K0).mono ?_
  rintro e w2 ⟨rfl, K1⟩
  go_wp2_with fail
  go_ret
  exact ⟨rfl, (K0.trans K1).alloc _⟩
end Go.Proofs.YtnlohknlchgfgaaGreatDoor
