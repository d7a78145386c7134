/- Texts joined into one (wip/bin/pack.py): ChG, ChP, AllG. -/
import Derived.Test.YtnlohknlchgfgaaGreatKSa
import Derived.Deep.DeepCutAuto
import Derived.Test.YtnlohknlchgfgaaGreatKLaw29a
import Derived.Test.YtnlohknlchgfgaaGreatKZj
import Derived.Test.YtnlohknlchgfgaaGreatKZf
/- joint.copied. -/
namespace Go.Proofs.YtnlohknlchgfgaaGreat
open Go.RowKit Go.Lib Go.Shelf

theorem cv_lens {c : Cf} (h : cvf c = 0) : c.R.length ≤ 1000000 ∧ c.Q.length ≤ 1000000 ∧ c.F.length ≤ 1000000 := by
  obtain ⟨_, _, h1, h2, h3⟩ := cv_parts (cvf_cv h).2
  exact ⟨by have := ((valid_iff _).1 (cf_parts h1).1).len; omega, by have := ((valid_iff _).1 (cf_parts h2).1).len; omega, cvf_len h⟩
theorem clone_row {a : Option Addr} {c : Nat} {l : List S} {w : World} (h : Rd w a l.length c 1 (sl l)) (hb : l.length ≤ 1000000) (W : World) (k : Keeps w W) :
    Calls Tryz.prog 122 #[.slice a l.length c] W fun e w' => ∃ a' c', e = .returned (.slice a' l.length c') ∧ Row0 29 1 w' (.slice a' l.length c') l.length (sl l) ∧ Keeps W w' :=
  (cloneS_any a l.length c (sl l) W (h.keep k) (sl_oneCell l) hb).mono fun e w' ⟨v, he, ho, hk⟩ => by
    obtain ⟨a', c', rfl, _⟩ := own_rd ho
    exact ⟨a', c', he, Own.row0 (w0 := W) ⟨ho, hk⟩, hk⟩
theorem clone_rowF {a : Option Addr} {c : Nat} {l : List F2} {w : World} (h : Rd w a l.length c 2 (fl l)) (hb : l.length ≤ 1000000) (W : World) (k : Keeps w W) :
    Calls Tryz.prog 26 #[.slice a l.length c] W fun e w' => ∃ a' c', e = .returned (.slice a' l.length c') ∧ Row0 59 2 w' (.slice a' l.length c') l.length (fl l) ∧ Keeps W w' :=
  (cloneF_any a c l W (h.keep k) hb).mono fun e w' ⟨v, he, ho⟩ => by
    obtain ⟨a', c', rfl, _⟩ := ho.rd
    exact ⟨a', c', he, ho.row0, ho.2⟩
end Go.Proofs.YtnlohknlchgfgaaGreat
/- joint.Chain. -/
namespace Go.Proofs.YtnlohknlchgfgaaGreat
open Go.RowKit Go.Lib Go.Shelf
def RetCh (w : World) (L : List Cf) (e : Ending) (w' : World) : Prop := ∃ v ys, e = .returned (.tuple #[v, .int .i64 (chainE L)]) ∧ Own 32 6 w w' v ys.length (gl ys) ∧ ys.map (·.c) = chainL L ∧ RoL w' ys
theorem gA_drop (l : List CA) (i : Nat) : gA (l.drop 1) i = gA l (i + 1) := by unfold gA; simp [List.getD]
theorem rol_app {w : World} {l m : List CA} (h : RoL w l) (k : RoL w m) : RoL w (l ++ m) := fun x hx => (List.mem_append.1 hx).elim (h x) (k x)
theorem rog_grown {w w' w0 : World} {z : CA} (h : RoG w z) {v : Value} {n : Nat} {xs : List Value} (hO : Own 32 6 w0 w v n xs) (hg : w.grownBy w' v.ownBlock) : RoG w' z :=
  ⟨row_kept h.r hO.1 (by decide) hg, row_kept h.q hO.1 (by decide) hg, row_kept h.f hO.1 (by decide) hg⟩
theorem rol_grown {w w' w0 : World} {l : List CA} (h : RoL w l) {v : Value} {n : Nat} {xs : List Value} (hO : Own 32 6 w0 w v n xs) (hg : w.grownBy w' v.ownBlock) : RoL w' l := fun x hx => rog_grown (h x hx) hO hg
theorem keeps_grown {w w' w0 : World} {e : TypeId} {sz : Nat} {v : Value} {n : Nat} {xs : List Value} (hO : Own e sz w0 w v n xs) (hg : w.grownBy w' v.ownBlock) : Keeps w0 w' := Below.grown hO.2.below hg hO.2.size (fun k hk => (hO.1.lt k hk).1)
end Go.Proofs.YtnlohknlchgfgaaGreat
/- The reference's All and Same. -/
namespace Go.Proofs.YtnlohknlchgfgaaGreat
open Go.RowKit Go.Lib Go.Shelf
def eD (x : D29) : List Value := (cD x).toList
def dl (l : List D29) : List Value := fle eD l
theorem eD_len (x : D29) : (eD x).length = 7 := rfl
def d00 : D29 := ⟨0, 0, 0, 0, [], [], [], none, 0, none, 0, none, 0⟩
def dA (l : List D29) (i : Nat) : D29 := l.getD i d00
def nmI (i : Nat) : ByteArray := ⟨#[UInt8.ofNat (97 + i)]⟩
def allF : List D29 → Nat → List Cf
  | [], _ => []
  | d :: t, i => if i < 4 then mdC (nmI i) d :: allF t (i + 1) else []
theorem allF_end (l : List D29) {i : Nat} (h : ¬ i < 4) : allF l i = [] := by
  cases l with
  | nil => rfl
  | cons d t => rw [allF, if_neg h]
theorem allF_step {l : List D29} {k : Nat} (h : k < l.length) (h4 : k < 4) : allF (l.drop k) k = mdC (nmI k) (dA l k) :: allF (l.drop (k + 1)) (k + 1) := by
  rw [show l.drop k = dA l k :: l.drop (k + 1) from getD_dropE l k d00 h, allF, if_pos h4]
theorem nmI_ok : ∀ i : Fin 4, nmB (nmI i.val) = true := by decide +kernel
theorem allF_in : ∀ (l : List D29) (i : Nat), ∀ x ∈ allF l i, ∃ j d, j < 4 ∧ x = mdC (nmI j) d
  | [], _, x, hx => by simp [allF] at hx
  | d :: t, i, x, hx => by
    rw [allF] at hx
    by_cases h : i < 4
    · rw [if_pos h] at hx
      rcases List.mem_cons.1 hx with rfl | hx
      · exact ⟨i, d, h, rfl⟩
      · exact allF_in t (i + 1) x hx
    · rw [if_neg h] at hx; simp at hx
theorem allF_len : ∀ (l : List D29) (i : Nat), i ≤ 4 → (allF l i).length ≤ 4 - i
  | [], _, _ => by simp [allF]
  | d :: t, i, h => by
    rw [allF]
    by_cases h4 : i < 4
    · rw [if_pos h4, List.length_cons]
      have := allF_len t (i + 1) (by omega)
      omega
    · rw [if_neg h4]; simp
theorem allF_facts {l : List D29} {x : Cf} (hx : x ∈ allF l 0) : cvf x = 0 ∧ Few9 x ∧ (x.R.length ≤ 10 ∧ x.Q.length ≤ 10) := by
  obtain ⟨j, d, hj, rfl⟩ := allF_in l 0 x hx
  have hn := nmI_ok ⟨j, hj⟩
  exact ⟨mdC_valid hn d, md_few hn d, md_ten _ d⟩
theorem dl_rdlen {w : World} {a : Option Addr} {n c : Nat} {l : List D29} (h : Rd w a n c 7 (dl l)) : l.length = n := rd_lenE eD 7 eD_len (by decide) h
theorem dA_mem {l : List D29} {i : Nat} (h : i < l.length) : dA l i ∈ l := getD_memE d00 h
theorem dl_at {w : World} {a : Option Addr} {n c : Nat} {l : List D29} (h : Rd w a n c 7 (dl l)) {i : Nat} (hi : i < n) : w.cell? (adr a (i * 7)) = some (.int .u8 (dA l i).kd) ∧ w.cell? ⟨(adr a (i * 7)).block, (adr a (i * 7)).off + 1, none⟩ = some (.int .u8 (dA l i).N) ∧ w.cell? ⟨(adr a (i * 7)).block, (adr a (i * 7)).off + 2, none⟩ = some (.int .u8 (dA l i).md) ∧ w.cell? ⟨(adr a (i * 7)).block, (adr a (i * 7)).off + 3, none⟩ = some (.slice (dA l i).ar (dA l i).lr.length (dA l i).cr) ∧ w.cell? ⟨(adr a (i * 7)).block, (adr a (i * 7)).off + 4, none⟩ = some (.slice (dA l i).aw (dA l i).lw.length (dA l i).cw) ∧ w.cell? ⟨(adr a (i * 7)).block, (adr a (i * 7)).off + 5, none⟩ = some (.slice (dA l i).af (dA l i).lf.length (dA l i).cf) ∧ w.cell? ⟨(adr a (i * 7)).block, (adr a (i * 7)).off + 6, none⟩ = some (.int .u8 (dA l i).mv) :=
  ⟨rd_atE eD 7 eD_len (by decide) h hi d00 0 (by decide) rfl, adr_off (rd_atE eD 7 eD_len (by decide) h hi d00 1 (by decide) rfl) (by decide), adr_off (rd_atE eD 7 eD_len (by decide) h hi d00 2 (by decide) rfl) (by decide), adr_off (rd_atE eD 7 eD_len (by decide) h hi d00 3 (by decide) rfl) (by decide), adr_off (rd_atE eD 7 eD_len (by decide) h hi d00 4 (by decide) rfl) (by decide), adr_off (rd_atE eD 7 eD_len (by decide) h hi d00 5 (by decide) rfl) (by decide), adr_off (rd_atE eD 7 eD_len (by decide) h hi d00 6 (by decide) rfl) (by decide)⟩
theorem utf0 : Utf8.encode (({ data := #[97, 98, 99, 100] } : ByteArray)[0].toNat : Int) = nmI 0 := by decide +kernel
theorem utf1 : Utf8.encode (({ data := #[97, 98, 99, 100] } : ByteArray)[1].toNat : Int) = nmI 1 := by decide +kernel
theorem utf2 : Utf8.encode (({ data := #[97, 98, 99, 100] } : ByteArray)[2].toNat : Int) = nmI 2 := by decide +kernel
theorem utf3 : Utf8.encode (({ data := #[97, 98, 99, 100] } : ByteArray)[3].toNat : Int) = nmI 3 := by decide +kernel
def RetAll (w : World) (L : List Cf) (e : Ending) (w' : World) : Prop := ∃ v ys, e = .returned v ∧ Own 32 6 w w' v ys.length (gl ys) ∧ ys.map (·.c) = L ∧ RoL w' ys
set_option maxRecDepth 20000 in
set_option maxHeartbeats 8000000 in
theorem rall_any (a : Option Addr) (n c : Nat) (l : List D29) (w : World) (h : Rd w a n c 7 (dl l)) (hl : ∀ x ∈ l, OkD w x) :
    Calls Tryz.prog 20 #[.slice a n c] w fun e w' => RetAll w (allF l 0) e w' := by
  have s1 := h.small
  have L1 := Lib.hid (dl_rdlen h)
  have HR := Lib.hid h; have HL := Lib.hid hl
  clear h hl
  go_enter Tryz.func20, Tryz.ntmps20
  go_wp2_with fail
  go_loopw [3, 4] (fun v3 v4 wr => ∃ (k : Nat) (ys : List CA), k ≤ n ∧ k ≤ 4 ∧ v4 = .int .i64 k ∧ Hid (Own 32 6 w wr v3 ys.length (gl ys)) ∧ Hid (RoL wr ys) ∧ Hid (ys.length = k) ∧ Hid (allF l 0 = ys.map (·.c) ++ allF (l.drop k) k)) (fun _ v _ => n - (RowKit.intOf v).toNat)
  case atStart => exact ⟨0, [], Nat.zero_le _, Nat.zero_le _, rfl, Lib.hid (Own.nil _ _ (Keeps.refl _)), Lib.hid (fun x hx => by simp at hx), Lib.hid rfl, Lib.hid rfl⟩
  case round =>
    obtain ⟨k, ys, hk, hk4, rfl, HO, HY, HN, HS⟩ := hrel
    by_cases hlt : k < n
    · by_cases h4 : k < 4
      · have HRr := Lib.hid (HR.out.keep HO.out.2)
        have hp : ∀ W', Keeps wr W' → W'.cell? (adr a (k * 7)) = some (.int .u8 (dA l k).kd) ∧ W'.cell? ⟨(adr a (k * 7)).block, (adr a (k * 7)).off + 1, none⟩ = some (.int .u8 (dA l k).N) ∧ W'.cell? ⟨(adr a (k * 7)).block, (adr a (k * 7)).off + 2, none⟩ = some (.int .u8 (dA l k).md) ∧ W'.cell? ⟨(adr a (k * 7)).block, (adr a (k * 7)).off + 3, none⟩ = some (.slice (dA l k).ar (dA l k).lr.length (dA l k).cr) ∧ W'.cell? ⟨(adr a (k * 7)).block, (adr a (k * 7)).off + 4, none⟩ = some (.slice (dA l k).aw (dA l k).lw.length (dA l k).cw) ∧ W'.cell? ⟨(adr a (k * 7)).block, (adr a (k * 7)).off + 5, none⟩ = some (.slice (dA l k).af (dA l k).lf.length (dA l k).cf) ∧ W'.cell? ⟨(adr a (k * 7)).block, (adr a (k * 7)).off + 6, none⟩ = some (.int .u8 (dA l k).mv) := fun W' J => dl_at (HRr.out.keep J) hlt
        have hmem := dA_mem (l := l) (i := k) (by have := L1.out; omega)
        have hok := (HL.out _ hmem)
        have hmd := fun W (J : Keeps w W) => made_any (nmI k) (dA l k) W (hok.keep J)
        have hst := allF_step (l := l) (k := k) (by have := L1.out; omega) h4
        obtain ⟨cf, hcf⟩ : ∃ cf, cf = mdC (nmI k) (dA l k) := ⟨_, rfl⟩
        rw [← hcf] at hmd hst
        unfold vD at hmd
        have ha := HR.out.isSome (by omega)
        have HP := Lib.hid hp; have HMD := Lib.hid hmd; have HST := Lib.hid hst
        clear hp hmem hok hmd hst hcf
        obtain ⟨d, hd⟩ : ∃ d, d = dA l k := ⟨_, rfl⟩
        rw [← hd] at HP HMD
        have HDE := Lib.hid hd.symm; clear hd
        have hk5 : k = 0 ∨ k = 1 ∨ k = 2 ∨ k = 3 := by omega
        have h4i : (k : Int) < 4 := by omega
        rcases hk5 with rfl | rfl | rfl | rfl
        · go_wp2_with fail
          have J : Keeps wr wr.drew := (Keeps.refl wr).drew
          refine wp_region_held_drew (S := (fun w' => w'.cell? (adr a (0 * 7)) = some (.int .u8 d.kd) ∧ w'.cell? ⟨(adr a (0 * 7)).block, (adr a (0 * 7)).off + 1, none⟩ = some (.int .u8 d.N) ∧ w'.cell? ⟨(adr a (0 * 7)).block, (adr a (0 * 7)).off + 2, none⟩ = some (.int .u8 d.md) ∧ w'.cell? ⟨(adr a (0 * 7)).block, (adr a (0 * 7)).off + 3, none⟩ = some (.slice d.ar d.lr.length d.cr) ∧ w'.cell? ⟨(adr a (0 * 7)).block, (adr a (0 * 7)).off + 4, none⟩ = some (.slice d.aw d.lw.length d.cw) ∧ w'.cell? ⟨(adr a (0 * 7)).block, (adr a (0 * 7)).off + 5, none⟩ = some (.slice d.af d.lf.length d.cf) ∧ w'.cell? ⟨(adr a (0 * 7)).block, (adr a (0 * 7)).off + 6, none⟩ = some (.int .u8 d.mv))) (by kernel_rfl) ?_ (fun hHeld => ?_)
          · exact HP.out _ J
          generalize wr.drew = V0 at *
          refine wpAnyH_take (i := 0) (oi := ⟨_, _, _, _, _, _⟩) (v := ?_) rfl (by kernel_rfl) (by kernel_rfl) (by kernel_rfl) (fun _ _ _ h => h) (Or.inl ⟨by rfl, ?_⟩) (by assumption) ?_
          rotate_left 1
          · intro w hSw; (try dsimp only at hSw); go_simp <;> with_reducible rfl
          (try simp only [Act.put]); (try simp only [List.setIfInBounds_toArray]); (try simp only [List.set_cons_succ]); (try simp only [List.set_cons_zero])
          refine wpAnyH_take (i := 1) (oi := ⟨_, _, _, _, _, _⟩) (v := ?_) rfl (by kernel_rfl) (by kernel_rfl) (by kernel_rfl) (fun _ _ _ h => h) (Or.inl ⟨by rfl, ?_⟩) (by assumption) ?_
          rotate_left 1
          · intro w hSw; (try dsimp only at hSw); go_simp <;> with_reducible rfl
          (try simp only [Act.put]); (try simp only [List.setIfInBounds_toArray]); (try simp only [List.set_cons_succ]); (try simp only [List.set_cons_zero])
          refine wpAnyH_take (i := 2) (oi := ⟨_, _, _, _, _, _⟩) (v := ?_) rfl (by kernel_rfl) (by kernel_rfl) (by kernel_rfl) (fun _ _ _ h => h) (Or.inl ⟨by rfl, ?_⟩) (by assumption) ?_
          rotate_left 1
          · intro w hSw; (try dsimp only at hSw); go_simp <;> with_reducible rfl
          (try simp only [Act.put]); (try simp only [List.setIfInBounds_toArray]); (try simp only [List.set_cons_succ]); (try simp only [List.set_cons_zero])
          refine wpAnyH_take (i := 3) (oi := ⟨_, _, _, _, _, _⟩) (v := ?_) rfl (by kernel_rfl) (by kernel_rfl) (by kernel_rfl) (fun _ _ _ h => h) (Or.inl ⟨by rfl, ?_⟩) (by assumption) ?_
          rotate_left 1
          · intro w hSw; (try dsimp only at hSw); go_simp <;> with_reducible rfl
          (try simp only [Act.put]); (try simp only [List.setIfInBounds_toArray]); (try simp only [List.set_cons_succ]); (try simp only [List.set_cons_zero])
          refine wpAnyH_take (i := 4) (oi := ⟨_, _, _, _, _, _⟩) (v := ?_) rfl (by kernel_rfl) (by kernel_rfl) (by kernel_rfl) (fun _ _ _ h => h) (Or.inl ⟨by rfl, ?_⟩) (by assumption) ?_
          rotate_left 1
          · intro w hSw; (try dsimp only at hSw); go_simp <;> with_reducible rfl
          (try simp only [Act.put]); (try simp only [List.setIfInBounds_toArray]); (try simp only [List.set_cons_succ]); (try simp only [List.set_cons_zero])
          refine wpAnyH_take (i := 5) (oi := ⟨_, _, _, _, _, _⟩) (v := ?_) rfl (by kernel_rfl) (by kernel_rfl) (by kernel_rfl) (fun _ _ _ h => h) (Or.inl ⟨by rfl, ?_⟩) (by assumption) ?_
          rotate_left 1
          · intro w hSw; (try dsimp only at hSw); go_simp <;> with_reducible rfl
          (try simp only [Act.put]); (try simp only [List.setIfInBounds_toArray]); (try simp only [List.set_cons_succ]); (try simp only [List.set_cons_zero])
          refine wpAnyH_take (i := 6) (oi := ⟨_, _, _, _, _, _⟩) (v := ?_) rfl (by kernel_rfl) (by kernel_rfl) (by kernel_rfl) (fun _ _ _ h => h) (Or.inl ⟨by rfl, ?_⟩) (by assumption) ?_
          rotate_left 1
          · intro w hSw; (try dsimp only at hSw); go_simp <;> with_reducible rfl
          (try simp only [Act.put]); (try simp only [List.setIfInBounds_toArray]); (try simp only [List.set_cons_succ]); (try simp only [List.set_cons_zero])
          refine wpAnyH_take (i := 7) (oi := ⟨_, _, _, _, _, _⟩) (v := ?_) rfl (by kernel_rfl) (by kernel_rfl) (by kernel_rfl) (fun _ _ _ h => h) (Or.inl ⟨by rfl, ?_⟩) (by assumption) ?_
          rotate_left 1
          · intro w hSw; (try dsimp only at hSw); go_simp <;> with_reducible rfl
          (try simp only [Act.put]); (try simp only [List.setIfInBounds_toArray]); (try simp only [List.set_cons_succ]); (try simp only [List.set_cons_zero])
          refine wpAnyH_ready (rs := [8]) (by kernel_rfl) (by simp) ?_
          refine AllReadyH.cons (o := ⟨_, _, _, _, _, _⟩) rfl (fun K hK => ?_) AllReadyH.nil
          go_simp
          rw [utf0]
          have hcl := HMD.out V0 (HO.out.2.trans J)
          refine hcl.mono ?_
          clear hcl
          rintro e V1 ⟨z, rfl, hz, hR, K9⟩
          have HZ := Lib.hid hz
          clear hz
          unfold vg
          dsimp only
          replace J := J.trans K9
          clear K9
          refine hK.out _ _ ?_ (fun hHeld => ?_)
          · exact HP.out _ J
          clear hK K
          (try simp only [Act.put]); (try simp only [List.setIfInBounds_toArray]); (try simp only [List.set_cons_succ]); (try simp only [List.set_cons_zero])
          refine wpAnyH_ready (rs := [9]) (by kernel_rfl) (by simp) ?_
          refine AllReadyH.cons (o := ⟨_, _, _, _, _, _⟩) rfl (fun K hK => ?_) AllReadyH.nil
          go_simp
          have r1 : Rd (V1.alloc (.cells #[.string z.c.nm, .int .i64 z.c.kd, .int .u16 (sv z.c.M), .slice z.ar z.c.R.length z.cr, .slice z.aw z.c.Q.length z.cw, .slice z.af z.c.F.length z.cf] 32)) (some ⟨V1.heap.size, 0, none⟩) 1 1 6 (gl [z]) := rd_new 32 6 V1 (gl [z]) 1 (by decide) rfl
          have KA := (Keeps.refl V1).alloc (.cells #[.string z.c.nm, .int .i64 z.c.kd, .int .u16 (sv z.c.M), .slice z.ar z.c.R.length z.cr, .slice z.aw z.c.Q.length z.cw, .slice z.af z.c.F.length z.cf] 32)
          replace hR := hR.keep KA
          replace J := J.trans KA
          clear KA
          generalize V1.alloc (.cells #[.string z.c.nm, .int .i64 z.c.kd, .int .u16 (sv z.c.M), .slice z.ar z.c.R.length z.cr, .slice z.aw z.c.Q.length z.cw, .slice z.af z.c.F.length z.cf] 32) = V2 at *
          generalize V1.heap.size = BS at *
          refine hK.out _ _ ?_ (fun hHeld => ?_)
          · exact HP.out _ J
          clear hK K
          (try simp only [Act.put]); (try simp only [List.setIfInBounds_toArray]); (try simp only [List.set_cons_succ]); (try simp only [List.set_cons_zero])
          refine wpAnyH_ready (rs := [10]) (by kernel_rfl) (by simp) ?_
          refine AllReadyH.cons (o := ⟨_, _, _, _, _, _⟩) rfl (fun K hK => ?_) AllReadyH.nil
          have hOO := HO.out.keep J
          have hYY := HY.out.keep J
          refine step_app ty_gl rfl _ _ rfl hOO rfl rfl r1 (gl_cells [z]) (by have := HN.out; omega) ?_
          intro v' V3 hO' hgr
          dsimp only
          have hY' := rol_grown hYY hOO hgr
          have hz' := rog_grown hR hOO hgr
          rw [← gl_append] at hO'
          have HO' := Lib.hid hO'; have HY' := Lib.hid (rol_app hY' (m := [z]) (fun u hu => by rw [List.mem_singleton.1 hu]; exact hz'))
          have hpa := dl_at (HR.out.keep hO'.2) hlt
          rw [HDE.out] at hpa
          clear hO' hY' hz' hOO hYY hgr r1 hR
          refine hK.out _ _ ?_ (fun hHeld => ?_)
          · exact hpa
          clear hK K hpa
          (try simp only [Act.put]); (try simp only [List.setIfInBounds_toArray]); (try simp only [List.set_cons_succ]); (try simp only [List.set_cons_zero])
          refine wpAnyH_take (i := 11) (oi := ⟨_, _, _, _, _, _⟩) (v := ?_) rfl (by kernel_rfl) (by kernel_rfl) (by kernel_rfl) (fun _ _ _ h => h) (Or.inl ⟨by rfl, ?_⟩) (by assumption) ?_
          rotate_left 1
          · intro w hSw; (try dsimp only at hSw); go_simp <;> with_reducible rfl
          (try simp only [Act.put]); (try simp only [List.setIfInBounds_toArray]); (try simp only [List.set_cons_succ]); (try simp only [List.set_cons_zero])
          refine wpAnyH_done (by kernel_rfl) ?_ _
          go_wp2_with fail
          go_roundw
          case rel => exact ⟨0 + 1, ys ++ [z], by omega, by omega, by go_num, Lib.hid (by rw [List.length_append]; exact HO'.out), HY', Lib.hid (by rw [List.length_append, HN.out]; rfl), Lib.hid (by rw [HS.out, HST.out, List.map_append, List.map_cons, List.map_nil, HZ.out]; simp)⟩
          case measure => simp [RowKit.intOf]; omega
        · go_wp2_with fail
          have J : Keeps wr wr.drew := (Keeps.refl wr).drew
          refine wp_region_held_drew (S := (fun w' => w'.cell? (adr a (1 * 7)) = some (.int .u8 d.kd) ∧ w'.cell? ⟨(adr a (1 * 7)).block, (adr a (1 * 7)).off + 1, none⟩ = some (.int .u8 d.N) ∧ w'.cell? ⟨(adr a (1 * 7)).block, (adr a (1 * 7)).off + 2, none⟩ = some (.int .u8 d.md) ∧ w'.cell? ⟨(adr a (1 * 7)).block, (adr a (1 * 7)).off + 3, none⟩ = some (.slice d.ar d.lr.length d.cr) ∧ w'.cell? ⟨(adr a (1 * 7)).block, (adr a (1 * 7)).off + 4, none⟩ = some (.slice d.aw d.lw.length d.cw) ∧ w'.cell? ⟨(adr a (1 * 7)).block, (adr a (1 * 7)).off + 5, none⟩ = some (.slice d.af d.lf.length d.cf) ∧ w'.cell? ⟨(adr a (1 * 7)).block, (adr a (1 * 7)).off + 6, none⟩ = some (.int .u8 d.mv))) (by kernel_rfl) ?_ (fun hHeld => ?_)
          · exact HP.out _ J
          generalize wr.drew = V0 at *
          refine wpAnyH_take (i := 0) (oi := ⟨_, _, _, _, _, _⟩) (v := ?_) rfl (by kernel_rfl) (by kernel_rfl) (by kernel_rfl) (fun _ _ _ h => h) (Or.inl ⟨by rfl, ?_⟩) (by assumption) ?_
          rotate_left 1
          · intro w hSw; (try dsimp only at hSw); go_simp <;> with_reducible rfl
          (try simp only [Act.put]); (try simp only [List.setIfInBounds_toArray]); (try simp only [List.set_cons_succ]); (try simp only [List.set_cons_zero])
          refine wpAnyH_take (i := 1) (oi := ⟨_, _, _, _, _, _⟩) (v := ?_) rfl (by kernel_rfl) (by kernel_rfl) (by kernel_rfl) (fun _ _ _ h => h) (Or.inl ⟨by rfl, ?_⟩) (by assumption) ?_
          rotate_left 1
          · intro w hSw; (try dsimp only at hSw); go_simp <;> with_reducible rfl
          (try simp only [Act.put]); (try simp only [List.setIfInBounds_toArray]); (try simp only [List.set_cons_succ]); (try simp only [List.set_cons_zero])
          refine wpAnyH_take (i := 2) (oi := ⟨_, _, _, _, _, _⟩) (v := ?_) rfl (by kernel_rfl) (by kernel_rfl) (by kernel_rfl) (fun _ _ _ h => h) (Or.inl ⟨by rfl, ?_⟩) (by assumption) ?_
          rotate_left 1
          · intro w hSw; (try dsimp only at hSw); go_simp <;> with_reducible rfl
          (try simp only [Act.put]); (try simp only [List.setIfInBounds_toArray]); (try simp only [List.set_cons_succ]); (try simp only [List.set_cons_zero])
          refine wpAnyH_take (i := 3) (oi := ⟨_, _, _, _, _, _⟩) (v := ?_) rfl (by kernel_rfl) (by kernel_rfl) (by kernel_rfl) (fun _ _ _ h => h) (Or.inl ⟨by rfl, ?_⟩) (by assumption) ?_
          rotate_left 1
          · intro w hSw; (try dsimp only at hSw); go_simp <;> with_reducible rfl
          (try simp only [Act.put]); (try simp only [List.setIfInBounds_toArray]); (try simp only [List.set_cons_succ]); (try simp only [List.set_cons_zero])
          refine wpAnyH_take (i := 4) (oi := ⟨_, _, _, _, _, _⟩) (v := ?_) rfl (by kernel_rfl) (by kernel_rfl) (by kernel_rfl) (fun _ _ _ h => h) (Or.inl ⟨by rfl, ?_⟩) (by assumption) ?_
          rotate_left 1
          · intro w hSw; (try dsimp only at hSw); go_simp <;> with_reducible rfl
          (try simp only [Act.put]); (try simp only [List.setIfInBounds_toArray]); (try simp only [List.set_cons_succ]); (try simp only [List.set_cons_zero])
          refine wpAnyH_take (i := 5) (oi := ⟨_, _, _, _, _, _⟩) (v := ?_) rfl (by kernel_rfl) (by kernel_rfl) (by kernel_rfl) (fun _ _ _ h => h) (Or.inl ⟨by rfl, ?_⟩) (by assumption) ?_
          rotate_left 1
          · intro w hSw; (try dsimp only at hSw); go_simp <;> with_reducible rfl
          (try simp only [Act.put]); (try simp only [List.setIfInBounds_toArray]); (try simp only [List.set_cons_succ]); (try simp only [List.set_cons_zero])
          refine wpAnyH_take (i := 6) (oi := ⟨_, _, _, _, _, _⟩) (v := ?_) rfl (by kernel_rfl) (by kernel_rfl) (by kernel_rfl) (fun _ _ _ h => h) (Or.inl ⟨by rfl, ?_⟩) (by assumption) ?_
          rotate_left 1
          · intro w hSw; (try dsimp only at hSw); go_simp <;> with_reducible rfl
          (try simp only [Act.put]); (try simp only [List.setIfInBounds_toArray]); (try simp only [List.set_cons_succ]); (try simp only [List.set_cons_zero])
          refine wpAnyH_take (i := 7) (oi := ⟨_, _, _, _, _, _⟩) (v := ?_) rfl (by kernel_rfl) (by kernel_rfl) (by kernel_rfl) (fun _ _ _ h => h) (Or.inl ⟨by rfl, ?_⟩) (by assumption) ?_
          rotate_left 1
          · intro w hSw; (try dsimp only at hSw); go_simp <;> with_reducible rfl
          (try simp only [Act.put]); (try simp only [List.setIfInBounds_toArray]); (try simp only [List.set_cons_succ]); (try simp only [List.set_cons_zero])
          refine wpAnyH_ready (rs := [8]) (by kernel_rfl) (by simp) ?_
          refine AllReadyH.cons (o := ⟨_, _, _, _, _, _⟩) rfl (fun K hK => ?_) AllReadyH.nil
          go_simp
          rw [utf1]
          have hcl := HMD.out V0 (HO.out.2.trans J)
          refine hcl.mono ?_
          clear hcl
          rintro e V1 ⟨z, rfl, hz, hR, K9⟩
          have HZ := Lib.hid hz
          clear hz
          unfold vg
          dsimp only
          replace J := J.trans K9
          clear K9
          refine hK.out _ _ ?_ (fun hHeld => ?_)
          · exact HP.out _ J
          clear hK K
          (try simp only [Act.put]); (try simp only [List.setIfInBounds_toArray]); (try simp only [List.set_cons_succ]); (try simp only [List.set_cons_zero])
          refine wpAnyH_ready (rs := [9]) (by kernel_rfl) (by simp) ?_
          refine AllReadyH.cons (o := ⟨_, _, _, _, _, _⟩) rfl (fun K hK => ?_) AllReadyH.nil
          go_simp
          have r1 : Rd (V1.alloc (.cells #[.string z.c.nm, .int .i64 z.c.kd, .int .u16 (sv z.c.M), .slice z.ar z.c.R.length z.cr, .slice z.aw z.c.Q.length z.cw, .slice z.af z.c.F.length z.cf] 32)) (some ⟨V1.heap.size, 0, none⟩) 1 1 6 (gl [z]) := rd_new 32 6 V1 (gl [z]) 1 (by decide) rfl
          have KA := (Keeps.refl V1).alloc (.cells #[.string z.c.nm, .int .i64 z.c.kd, .int .u16 (sv z.c.M), .slice z.ar z.c.R.length z.cr, .slice z.aw z.c.Q.length z.cw, .slice z.af z.c.F.length z.cf] 32)
          replace hR := hR.keep KA
          replace J := J.trans KA
          clear KA
          generalize V1.alloc (.cells #[.string z.c.nm, .int .i64 z.c.kd, .int .u16 (sv z.c.M), .slice z.ar z.c.R.length z.cr, .slice z.aw z.c.Q.length z.cw, .slice z.af z.c.F.length z.cf] 32) = V2 at *
          generalize V1.heap.size = BS at *
          refine hK.out _ _ ?_ (fun hHeld => ?_)
          · exact HP.out _ J
          clear hK K
          (try simp only [Act.put]); (try simp only [List.setIfInBounds_toArray]); (try simp only [List.set_cons_succ]); (try simp only [List.set_cons_zero])
          refine wpAnyH_ready (rs := [10]) (by kernel_rfl) (by simp) ?_
          refine AllReadyH.cons (o := ⟨_, _, _, _, _, _⟩) rfl (fun K hK => ?_) AllReadyH.nil
          have hOO := HO.out.keep J
          have hYY := HY.out.keep J
          refine step_app ty_gl rfl _ _ rfl hOO rfl rfl r1 (gl_cells [z]) (by have := HN.out; omega) ?_
          intro v' V3 hO' hgr
          dsimp only
          have hY' := rol_grown hYY hOO hgr
          have hz' := rog_grown hR hOO hgr
          rw [← gl_append] at hO'
          have HO' := Lib.hid hO'; have HY' := Lib.hid (rol_app hY' (m := [z]) (fun u hu => by rw [List.mem_singleton.1 hu]; exact hz'))
          have hpa := dl_at (HR.out.keep hO'.2) hlt
          rw [HDE.out] at hpa
          clear hO' hY' hz' hOO hYY hgr r1 hR
          refine hK.out _ _ ?_ (fun hHeld => ?_)
          · exact hpa
          clear hK K hpa
          (try simp only [Act.put]); (try simp only [List.setIfInBounds_toArray]); (try simp only [List.set_cons_succ]); (try simp only [List.set_cons_zero])
          refine wpAnyH_take (i := 11) (oi := ⟨_, _, _, _, _, _⟩) (v := ?_) rfl (by kernel_rfl) (by kernel_rfl) (by kernel_rfl) (fun _ _ _ h => h) (Or.inl ⟨by rfl, ?_⟩) (by assumption) ?_
          rotate_left 1
          · intro w hSw; (try dsimp only at hSw); go_simp <;> with_reducible rfl
          (try simp only [Act.put]); (try simp only [List.setIfInBounds_toArray]); (try simp only [List.set_cons_succ]); (try simp only [List.set_cons_zero])
          refine wpAnyH_done (by kernel_rfl) ?_ _
          go_wp2_with fail
          go_roundw
          case rel => exact ⟨1 + 1, ys ++ [z], by omega, by omega, by go_num, Lib.hid (by rw [List.length_append]; exact HO'.out), HY', Lib.hid (by rw [List.length_append, HN.out]; rfl), Lib.hid (by rw [HS.out, HST.out, List.map_append, List.map_cons, List.map_nil, HZ.out]; simp)⟩
          case measure => simp [RowKit.intOf]; omega
        · go_wp2_with fail
          have J : Keeps wr wr.drew := (Keeps.refl wr).drew
          refine wp_region_held_drew (S := (fun w' => w'.cell? (adr a (2 * 7)) = some (.int .u8 d.kd) ∧ w'.cell? ⟨(adr a (2 * 7)).block, (adr a (2 * 7)).off + 1, none⟩ = some (.int .u8 d.N) ∧ w'.cell? ⟨(adr a (2 * 7)).block, (adr a (2 * 7)).off + 2, none⟩ = some (.int .u8 d.md) ∧ w'.cell? ⟨(adr a (2 * 7)).block, (adr a (2 * 7)).off + 3, none⟩ = some (.slice d.ar d.lr.length d.cr) ∧ w'.cell? ⟨(adr a (2 * 7)).block, (adr a (2 * 7)).off + 4, none⟩ = some (.slice d.aw d.lw.length d.cw) ∧ w'.cell? ⟨(adr a (2 * 7)).block, (adr a (2 * 7)).off + 5, none⟩ = some (.slice d.af d.lf.length d.cf) ∧ w'.cell? ⟨(adr a (2 * 7)).block, (adr a (2 * 7)).off + 6, none⟩ = some (.int .u8 d.mv))) (by kernel_rfl) ?_ (fun hHeld => ?_)
          · exact HP.out _ J
          generalize wr.drew = V0 at *
          refine wpAnyH_take (i := 0) (oi := ⟨_, _, _, _, _, _⟩) (v := ?_) rfl (by kernel_rfl) (by kernel_rfl) (by kernel_rfl) (fun _ _ _ h => h) (Or.inl ⟨by rfl, ?_⟩) (by assumption) ?_
          rotate_left 1
          · intro w hSw; (try dsimp only at hSw); go_simp <;> with_reducible rfl
          (try simp only [Act.put]); (try simp only [List.setIfInBounds_toArray]); (try simp only [List.set_cons_succ]); (try simp only [List.set_cons_zero])
          refine wpAnyH_take (i := 1) (oi := ⟨_, _, _, _, _, _⟩) (v := ?_) rfl (by kernel_rfl) (by kernel_rfl) (by kernel_rfl) (fun _ _ _ h => h) (Or.inl ⟨by rfl, ?_⟩) (by assumption) ?_
          rotate_left 1
          · intro w hSw; (try dsimp only at hSw); go_simp <;> with_reducible rfl
          (try simp only [Act.put]); (try simp only [List.setIfInBounds_toArray]); (try simp only [List.set_cons_succ]); (try simp only [List.set_cons_zero])
          refine wpAnyH_take (i := 2) (oi := ⟨_, _, _, _, _, _⟩) (v := ?_) rfl (by kernel_rfl) (by kernel_rfl) (by kernel_rfl) (fun _ _ _ h => h) (Or.inl ⟨by rfl, ?_⟩) (by assumption) ?_
          rotate_left 1
          · intro w hSw; (try dsimp only at hSw); go_simp <;> with_reducible rfl
          (try simp only [Act.put]); (try simp only [List.setIfInBounds_toArray]); (try simp only [List.set_cons_succ]); (try simp only [List.set_cons_zero])
          refine wpAnyH_take (i := 3) (oi := ⟨_, _, _, _, _, _⟩) (v := ?_) rfl (by kernel_rfl) (by kernel_rfl) (by kernel_rfl) (fun _ _ _ h => h) (Or.inl ⟨by rfl, ?_⟩) (by assumption) ?_
          rotate_left 1
          · intro w hSw; (try dsimp only at hSw); go_simp <;> with_reducible rfl
          (try simp only [Act.put]); (try simp only [List.setIfInBounds_toArray]); (try simp only [List.set_cons_succ]); (try simp only [List.set_cons_zero])
          refine wpAnyH_take (i := 4) (oi := ⟨_, _, _, _, _, _⟩) (v := ?_) rfl (by kernel_rfl) (by kernel_rfl) (by kernel_rfl) (fun _ _ _ h => h) (Or.inl ⟨by rfl, ?_⟩) (by assumption) ?_
          rotate_left 1
          · intro w hSw; (try dsimp only at hSw); go_simp <;> with_reducible rfl
          (try simp only [Act.put]); (try simp only [List.setIfInBounds_toArray]); (try simp only [List.set_cons_succ]); (try simp only [List.set_cons_zero])
          refine wpAnyH_take (i := 5) (oi := ⟨_, _, _, _, _, _⟩) (v := ?_) rfl (by kernel_rfl) (by kernel_rfl) (by kernel_rfl) (fun _ _ _ h => h) (Or.inl ⟨by rfl, ?_⟩) (by assumption) ?_
          rotate_left 1
          · intro w hSw; (try dsimp only at hSw); go_simp <;> with_reducible rfl
          (try simp only [Act.put]); (try simp only [List.setIfInBounds_toArray]); (try simp only [List.set_cons_succ]); (try simp only [List.set_cons_zero])
          refine wpAnyH_take (i := 6) (oi := ⟨_, _, _, _, _, _⟩) (v := ?_) rfl (by kernel_rfl) (by kernel_rfl) (by kernel_rfl) (fun _ _ _ h => h) (Or.inl ⟨by rfl, ?_⟩) (by assumption) ?_
          rotate_left 1
          · intro w hSw; (try dsimp only at hSw); go_simp <;> with_reducible rfl
          (try simp only [Act.put]); (try simp only [List.setIfInBounds_toArray]); (try simp only [List.set_cons_succ]); (try simp only [List.set_cons_zero])
          refine wpAnyH_take (i := 7) (oi := ⟨_, _, _, _, _, _⟩) (v := ?_) rfl (by kernel_rfl) (by kernel_rfl) (by kernel_rfl) (fun _ _ _ h => h) (Or.inl ⟨by rfl, ?_⟩) (by assumption) ?_
          rotate_left 1
          · intro w hSw; (try dsimp only at hSw); go_simp <;> with_reducible rfl
          (try simp only [Act.put]); (try simp only [List.setIfInBounds_toArray]); (try simp only [List.set_cons_succ]); (try simp only [List.set_cons_zero])
          refine wpAnyH_ready (rs := [8]) (by kernel_rfl) (by simp) ?_
          refine AllReadyH.cons (o := ⟨_, _, _, _, _, _⟩) rfl (fun K hK => ?_) AllReadyH.nil
          go_simp
          rw [utf2]
          have hcl := HMD.out V0 (HO.out.2.trans J)
          refine hcl.mono ?_
          clear hcl
          rintro e V1 ⟨z, rfl, hz, hR, K9⟩
          have HZ := Lib.hid hz
          clear hz
          unfold vg
          dsimp only
          replace J := J.trans K9
          clear K9
          refine hK.out _ _ ?_ (fun hHeld => ?_)
          · exact HP.out _ J
          clear hK K
          (try simp only [Act.put]); (try simp only [List.setIfInBounds_toArray]); (try simp only [List.set_cons_succ]); (try simp only [List.set_cons_zero])
          refine wpAnyH_ready (rs := [9]) (by kernel_rfl) (by simp) ?_
          refine AllReadyH.cons (o := ⟨_, _, _, _, _, _⟩) rfl (fun K hK => ?_) AllReadyH.nil
          go_simp
          have r1 : Rd (V1.alloc (.cells #[.string z.c.nm, .int .i64 z.c.kd, .int .u16 (sv z.c.M), .slice z.ar z.c.R.length z.cr, .slice z.aw z.c.Q.length z.cw, .slice z.af z.c.F.length z.cf] 32)) (some ⟨V1.heap.size, 0, none⟩) 1 1 6 (gl [z]) := rd_new 32 6 V1 (gl [z]) 1 (by decide) rfl
          have KA := (Keeps.refl V1).alloc (.cells #[.string z.c.nm, .int .i64 z.c.kd, .int .u16 (sv z.c.M), .slice z.ar z.c.R.length z.cr, .slice z.aw z.c.Q.length z.cw, .slice z.af z.c.F.length z.cf] 32)
          replace hR := hR.keep KA
          replace J := J.trans KA
          clear KA
          generalize V1.alloc (.cells #[.string z.c.nm, .int .i64 z.c.kd, .int .u16 (sv z.c.M), .slice z.ar z.c.R.length z.cr, .slice z.aw z.c.Q.length z.cw, .slice z.af z.c.F.length z.cf] 32) = V2 at *
          generalize V1.heap.size = BS at *
          refine hK.out _ _ ?_ (fun hHeld => ?_)
          · exact HP.out _ J
          clear hK K
          (try simp only [Act.put]); (try simp only [List.setIfInBounds_toArray]); (try simp only [List.set_cons_succ]); (try simp only [List.set_cons_zero])
          refine wpAnyH_ready (rs := [10]) (by kernel_rfl) (by simp) ?_
          refine AllReadyH.cons (o := ⟨_, _, _, _, _, _⟩) rfl (fun K hK => ?_) AllReadyH.nil
          have hOO := HO.out.keep J
          have hYY := HY.out.keep J
          refine step_app ty_gl rfl _ _ rfl hOO rfl rfl r1 (gl_cells [z]) (by have := HN.out; omega) ?_
          intro v' V3 hO' hgr
          dsimp only
          have hY' := rol_grown hYY hOO hgr
          have hz' := rog_grown hR hOO hgr
          rw [← gl_append] at hO'
          have HO' := Lib.hid hO'; have HY' := Lib.hid (rol_app hY' (m := [z]) (fun u hu => by rw [List.mem_singleton.1 hu]; exact hz'))
          have hpa := dl_at (HR.out.keep hO'.2) hlt
          rw [HDE.out] at hpa
          clear hO' hY' hz' hOO hYY hgr r1 hR
          refine hK.out _ _ ?_ (fun hHeld => ?_)
          · exact hpa
          clear hK K hpa
          (try simp only [Act.put]); (try simp only [List.setIfInBounds_toArray]); (try simp only [List.set_cons_succ]); (try simp only [List.set_cons_zero])
          refine wpAnyH_take (i := 11) (oi := ⟨_, _, _, _, _, _⟩) (v := ?_) rfl (by kernel_rfl) (by kernel_rfl) (by kernel_rfl) (fun _ _ _ h => h) (Or.inl ⟨by rfl, ?_⟩) (by assumption) ?_
          rotate_left 1
          · intro w hSw; (try dsimp only at hSw); go_simp <;> with_reducible rfl
          (try simp only [Act.put]); (try simp only [List.setIfInBounds_toArray]); (try simp only [List.set_cons_succ]); (try simp only [List.set_cons_zero])
          refine wpAnyH_done (by kernel_rfl) ?_ _
          go_wp2_with fail
          go_roundw
          case rel => exact ⟨2 + 1, ys ++ [z], by omega, by omega, by go_num, Lib.hid (by rw [List.length_append]; exact HO'.out), HY', Lib.hid (by rw [List.length_append, HN.out]; rfl), Lib.hid (by rw [HS.out, HST.out, List.map_append, List.map_cons, List.map_nil, HZ.out]; simp)⟩
          case measure => simp [RowKit.intOf]; omega
        · go_wp2_with fail
          have J : Keeps wr wr.drew := (Keeps.refl wr).drew
          refine wp_region_held_drew (S := (fun w' => w'.cell? (adr a (3 * 7)) = some (.int .u8 d.kd) ∧ w'.cell? ⟨(adr a (3 * 7)).block, (adr a (3 * 7)).off + 1, none⟩ = some (.int .u8 d.N) ∧ w'.cell? ⟨(adr a (3 * 7)).block, (adr a (3 * 7)).off + 2, none⟩ = some (.int .u8 d.md) ∧ w'.cell? ⟨(adr a (3 * 7)).block, (adr a (3 * 7)).off + 3, none⟩ = some (.slice d.ar d.lr.length d.cr) ∧ w'.cell? ⟨(adr a (3 * 7)).block, (adr a (3 * 7)).off + 4, none⟩ = some (.slice d.aw d.lw.length d.cw) ∧ w'.cell? ⟨(adr a (3 * 7)).block, (adr a (3 * 7)).off + 5, none⟩ = some (.slice d.af d.lf.length d.cf) ∧ w'.cell? ⟨(adr a (3 * 7)).block, (adr a (3 * 7)).off + 6, none⟩ = some (.int .u8 d.mv))) (by kernel_rfl) ?_ (fun hHeld => ?_)
          · exact HP.out _ J
          generalize wr.drew = V0 at *
          refine wpAnyH_take (i := 0) (oi := ⟨_, _, _, _, _, _⟩) (v := ?_) rfl (by kernel_rfl) (by kernel_rfl) (by kernel_rfl) (fun _ _ _ h => h) (Or.inl ⟨by rfl, ?_⟩) (by assumption) ?_
          rotate_left 1
          · intro w hSw; (try dsimp only at hSw); go_simp <;> with_reducible rfl
          (try simp only [Act.put]); (try simp only [List.setIfInBounds_toArray]); (try simp only [List.set_cons_succ]); (try simp only [List.set_cons_zero])
          refine wpAnyH_take (i := 1) (oi := ⟨_, _, _, _, _, _⟩) (v := ?_) rfl (by kernel_rfl) (by kernel_rfl) (by kernel_rfl) (fun _ _ _ h => h) (Or.inl ⟨by rfl, ?_⟩) (by assumption) ?_
          rotate_left 1
          · intro w hSw; (try dsimp only at hSw); go_simp <;> with_reducible rfl
          (try simp only [Act.put]); (try simp only [List.setIfInBounds_toArray]); (try simp only [List.set_cons_succ]); (try simp only [List.set_cons_zero])
          refine wpAnyH_take (i := 2) (oi := ⟨_, _, _, _, _, _⟩) (v := ?_) rfl (by kernel_rfl) (by kernel_rfl) (by kernel_rfl) (fun _ _ _ h => h) (Or.inl ⟨by rfl, ?_⟩) (by assumption) ?_
          rotate_left 1
          · intro w hSw; (try dsimp only at hSw); go_simp <;> with_reducible rfl
          (try simp only [Act.put]); (try simp only [List.setIfInBounds_toArray]); (try simp only [List.set_cons_succ]); (try simp only [List.set_cons_zero])
          refine wpAnyH_take (i := 3) (oi := ⟨_, _, _, _, _, _⟩) (v := ?_) rfl (by kernel_rfl) (by kernel_rfl) (by kernel_rfl) (fun _ _ _ h => h) (Or.inl ⟨by rfl, ?_⟩) (by assumption) ?_
          rotate_left 1
          · intro w hSw; (try dsimp only at hSw); go_simp <;> with_reducible rfl
          (try simp only [Act.put]); (try simp only [List.setIfInBounds_toArray]); (try simp only [List.set_cons_succ]); (try simp only [List.set_cons_zero])
          refine wpAnyH_take (i := 4) (oi := ⟨_, _, _, _, _, _⟩) (v := ?_) rfl (by kernel_rfl) (by kernel_rfl) (by kernel_rfl) (fun _ _ _ h => h) (Or.inl ⟨by rfl, ?_⟩) (by assumption) ?_
          rotate_left 1
          · intro w hSw; (try dsimp only at hSw); go_simp <;> with_reducible rfl
          (try simp only [Act.put]); (try simp only [List.setIfInBounds_toArray]); (try simp only [List.set_cons_succ]); (try simp only [List.set_cons_zero])
          refine wpAnyH_take (i := 5) (oi := ⟨_, _, _, _, _, _⟩) (v := ?_) rfl (by kernel_rfl) (by kernel_rfl) (by kernel_rfl) (fun _ _ _ h => h) (Or.inl ⟨by rfl, ?_⟩) (by assumption) ?_
          rotate_left 1
          · intro w hSw; (try dsimp only at hSw); go_simp <;> with_reducible rfl
          (try simp only [Act.put]); (try simp only [List.setIfInBounds_toArray]); (try simp only [List.set_cons_succ]); (try simp only [List.set_cons_zero])
          refine wpAnyH_take (i := 6) (oi := ⟨_, _, _, _, _, _⟩) (v := ?_) rfl (by kernel_rfl) (by kernel_rfl) (by kernel_rfl) (fun _ _ _ h => h) (Or.inl ⟨by rfl, ?_⟩) (by assumption) ?_
          rotate_left 1
          · intro w hSw; (try dsimp only at hSw); go_simp <;> with_reducible rfl
          (try simp only [Act.put]); (try simp only [List.setIfInBounds_toArray]); (try simp only [List.set_cons_succ]); (try simp only [List.set_cons_zero])
          refine wpAnyH_take (i := 7) (oi := ⟨_, _, _, _, _, _⟩) (v := ?_) rfl (by kernel_rfl) (by kernel_rfl) (by kernel_rfl) (fun _ _ _ h => h) (Or.inl ⟨by rfl, ?_⟩) (by assumption) ?_
          rotate_left 1
          · intro w hSw; (try dsimp only at hSw); go_simp <;> with_reducible rfl
          (try simp only [Act.put]); (try simp only [List.setIfInBounds_toArray]); (try simp only [List.set_cons_succ]); (try simp only [List.set_cons_zero])
          refine wpAnyH_ready (rs := [8]) (by kernel_rfl) (by simp) ?_
          refine AllReadyH.cons (o := ⟨_, _, _, _, _, _⟩) rfl (fun K hK => ?_) AllReadyH.nil
          go_simp
          rw [utf3]
          have hcl := HMD.out V0 (HO.out.2.trans J)
          refine hcl.mono ?_
          clear hcl
          rintro e V1 ⟨z, rfl, hz, hR, K9⟩
          have HZ := Lib.hid hz
          clear hz
          unfold vg
          dsimp only
          replace J := J.trans K9
          clear K9
          refine hK.out _ _ ?_ (fun hHeld => ?_)
          · exact HP.out _ J
          clear hK K
          (try simp only [Act.put]); (try simp only [List.setIfInBounds_toArray]); (try simp only [List.set_cons_succ]); (try simp only [List.set_cons_zero])
          refine wpAnyH_ready (rs := [9]) (by kernel_rfl) (by simp) ?_
          refine AllReadyH.cons (o := ⟨_, _, _, _, _, _⟩) rfl (fun K hK => ?_) AllReadyH.nil
          go_simp
          have r1 : Rd (V1.alloc (.cells #[.string z.c.nm, .int .i64 z.c.kd, .int .u16 (sv z.c.M), .slice z.ar z.c.R.length z.cr, .slice z.aw z.c.Q.length z.cw, .slice z.af z.c.F.length z.cf] 32)) (some ⟨V1.heap.size, 0, none⟩) 1 1 6 (gl [z]) := rd_new 32 6 V1 (gl [z]) 1 (by decide) rfl
          have KA := (Keeps.refl V1).alloc (.cells #[.string z.c.nm, .int .i64 z.c.kd, .int .u16 (sv z.c.M), .slice z.ar z.c.R.length z.cr, .slice z.aw z.c.Q.length z.cw, .slice z.af z.c.F.length z.cf] 32)
          replace hR := hR.keep KA
          replace J := J.trans KA
          clear KA
          generalize V1.alloc (.cells #[.string z.c.nm, .int .i64 z.c.kd, .int .u16 (sv z.c.M), .slice z.ar z.c.R.length z.cr, .slice z.aw z.c.Q.length z.cw, .slice z.af z.c.F.length z.cf] 32) = V2 at *
          generalize V1.heap.size = BS at *
          refine hK.out _ _ ?_ (fun hHeld => ?_)
          · exact HP.out _ J
          clear hK K
          (try simp only [Act.put]); (try simp only [List.setIfInBounds_toArray]); (try simp only [List.set_cons_succ]); (try simp only [List.set_cons_zero])
          refine wpAnyH_ready (rs := [10]) (by kernel_rfl) (by simp) ?_
          refine AllReadyH.cons (o := ⟨_, _, _, _, _, _⟩) rfl (fun K hK => ?_) AllReadyH.nil
          have hOO := HO.out.keep J
          have hYY := HY.out.keep J
          refine step_app ty_gl rfl _ _ rfl hOO rfl rfl r1 (gl_cells [z]) (by have := HN.out; omega) ?_
          intro v' V3 hO' hgr
          dsimp only
          have hY' := rol_grown hYY hOO hgr
          have hz' := rog_grown hR hOO hgr
          rw [← gl_append] at hO'
          have HO' := Lib.hid hO'; have HY' := Lib.hid (rol_app hY' (m := [z]) (fun u hu => by rw [List.mem_singleton.1 hu]; exact hz'))
          have hpa := dl_at (HR.out.keep hO'.2) hlt
          rw [HDE.out] at hpa
          clear hO' hY' hz' hOO hYY hgr r1 hR
          refine hK.out _ _ ?_ (fun hHeld => ?_)
          · exact hpa
          clear hK K hpa
          (try simp only [Act.put]); (try simp only [List.setIfInBounds_toArray]); (try simp only [List.set_cons_succ]); (try simp only [List.set_cons_zero])
          refine wpAnyH_take (i := 11) (oi := ⟨_, _, _, _, _, _⟩) (v := ?_) rfl (by kernel_rfl) (by kernel_rfl) (by kernel_rfl) (fun _ _ _ h => h) (Or.inl ⟨by rfl, ?_⟩) (by assumption) ?_
          rotate_left 1
          · intro w hSw; (try dsimp only at hSw); go_simp <;> with_reducible rfl
          (try simp only [Act.put]); (try simp only [List.setIfInBounds_toArray]); (try simp only [List.set_cons_succ]); (try simp only [List.set_cons_zero])
          refine wpAnyH_done (by kernel_rfl) ?_ _
          go_wp2_with fail
          go_roundw
          case rel => exact ⟨3 + 1, ys ++ [z], by omega, by omega, by go_num, Lib.hid (by rw [List.length_append]; exact HO'.out), HY', Lib.hid (by rw [List.length_append, HN.out]; rfl), Lib.hid (by rw [HS.out, HST.out, List.map_append, List.map_cons, List.map_nil, HZ.out]; simp)⟩
          case measure => simp [RowKit.intOf]; omega
      · have h4i : ¬ (k : Int) < 4 := by omega
        go_wp2_with fail
        go_ret
        exact ⟨_, ys, rfl, HO.out, by rw [HS.out, allF_end _ h4, List.append_nil], HY.out⟩
    · go_wp2_with fail
      go_ret
      exact ⟨_, ys, rfl, HO.out, by rw [HS.out, List.drop_eq_nil_iff.2 (by have := L1.out; omega)]; simp [allF], HY.out⟩
end Go.Proofs.YtnlohknlchgfgaaGreat
