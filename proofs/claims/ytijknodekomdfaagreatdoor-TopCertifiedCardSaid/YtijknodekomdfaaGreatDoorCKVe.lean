/- Texts joined into one, what is needed of them (a program of ours). -/
import Derived.Test.YtijknodekomdfaaGreatDoorCKVd
import Derived.Test.YtijknodekomdfaaGreatDoorCKVc
import Derived.Deep.RegionHeld3
import Derived.Test.YtijknodekomdfaaGreatDoorCKVb
namespace Go.Proofs.YtijknodekomdfaaGreatDoor
open Go.RowKit Go.Lib Go.Shelf

/-- the prover's box and the row of the nodes made so far -/
def StP (w0 : World) (P : Nat) (u0 u1 u2 u3 : Value) (w : World) (ns : List CH) : Prop :=
  ∃ v, Blk w P 198 #[u0, u1, u2, u3, v] ∧ Own 206 3 w0 w v ns.length (chl ns)
theorem StP.keep {w0 w w' : World} {P : Nat} {u0 u1 u2 u3 : Value} {ns : List CH} (h : StP w0 P u0 u1 u2 u3 w ns) (k : Keeps w w') : StP w0 P u0 u1 u2 u3 w' ns := by
  obtain ⟨v, h1, h2⟩ := h
  exact ⟨v, h1.keep k, h2.keep k⟩
set_option maxHeartbeats 2000000 in
theorem add20_any (w0 : World) (P : Nat) (u0 u1 u2 u3 : Value) (ns : List CH) (sr : Int) (x y : Nat) (w : World) (h : StP w0 P u0 u1 u2 u3 w ns) (hPB : w0.heap.size ≤ P) (hn : ns.length ≤ 100000) :
    Calls Tryz.prog 190 #[.pointer (some ⟨P, 0, none⟩), .agg #[.int .i64 sr, .int .i64 x, .int .i64 y]] w fun e w' => e = .returned (.int .i64 ns.length) ∧ StP w0 P u0 u1 u2 u3 w' (ns ++ [⟨sr, x, y⟩]) := by
  obtain ⟨v, hP, hO⟩ := h
  have HNE := Lib.hid (own_fresh hO)
  have HCP : Hid (P ≠ w.heap.size) := Lib.hid (by have := hP.lt; omega)
  have hK := (Keeps.refl w).alloc (.cells #[.int .i64 sr, .int .i64 x, .int .i64 y] 206)
  have hC := Blk.new w 206 #[.int .i64 sr, .int .i64 x, .int .i64 y]
  replace hP := hP.keep hK
  replace hO := hO.keep hK
  clear hK
  go_enter Tryz.func190, Tryz.ntmps190
  go_wp2_with fail
  generalize w.alloc (.cells #[.int .i64 sr, .int .i64 x, .int .i64 y] 206) = W1 at *
  generalize w.heap.size = C at *
  have J : Keeps W1 W1.drew := (Keeps.refl W1).drew
  replace hP := hP.keep J
  replace hC := hC.keep J
  replace hO := hO.keep J
  clear J
  refine wp_region_held_drew (S := (fun w' => w'.cell? ⟨C, 0, none⟩ = some (.int .i64 sr) ∧ w'.cell? ⟨C, 1, none⟩ = some (.int .i64 x) ∧ w'.cell? ⟨C, 2, none⟩ = some (.int .i64 y))) (by kernel_rfl) ?_ (fun hHeld => ?_)
  · exact ⟨hC.cell 0 rfl, hC.cell 1 rfl, hC.cell 2 rfl⟩
  generalize W1.drew = V0 at *
  refine wpAnyH_take (i := 0) (oi := ⟨_, _, _, _, _, _⟩) (v := ?_) rfl (by kernel_rfl) (by kernel_rfl) (by kernel_rfl) (fun _ _ _ h => h) (Or.inl ⟨by rfl, ?_⟩) (by assumption) ?_
  rotate_left 1
  · intro w hSw; (try dsimp only at hSw); go_simp <;> with_reducible rfl
  (try simp only [Act.put]); (try simp only [List.setIfInBounds_toArray]); (try simp only [List.set_cons_succ]); (try simp only [List.set_cons_zero])
  refine wpAnyH_take (i := 1) (oi := ⟨_, _, _, _, _, _⟩) (v := ?_) rfl (by kernel_rfl) (by kernel_rfl) (by kernel_rfl) (fun _ _ _ h => h) (Or.inl ⟨by rfl, ?_⟩) (by assumption) ?_
  rotate_left 1
  · intro w hSw; (try dsimp only at hSw); go_simp <;> with_reducible rfl
  (try simp only [Act.put]); (try simp only [List.setIfInBounds_toArray]); (try simp only [List.set_cons_succ]); (try simp only [List.set_cons_zero])
  refine wpAnyH_take (i := 2) (oi := ⟨_, _, _, _, _, _⟩) (v := ?_) rfl (by kernel_rfl) (by kernel_rfl) (by kernel_rfl) (fun _ _ _ h => h) (Or.inl ⟨by rfl, ?_⟩) (by assumption) ?_
  rotate_left 1
  · intro w hSw; (try dsimp only at hSw); go_simp <;> with_reducible rfl
  (try simp only [Act.put]); (try simp only [List.setIfInBounds_toArray]); (try simp only [List.set_cons_succ]); (try simp only [List.set_cons_zero])
  refine wpAnyH_take (i := 3) (oi := ⟨_, _, _, _, _, _⟩) (v := ?_) rfl (by kernel_rfl) (by kernel_rfl) (by kernel_rfl) (fun _ _ _ h => h) (Or.inl ⟨by rfl, ?_⟩) (by assumption) ?_
  rotate_left 1
  · intro w hSw; (try dsimp only at hSw); go_simp <;> with_reducible rfl
  (try simp only [Act.put]); (try simp only [List.setIfInBounds_toArray]); (try simp only [List.set_cons_succ]); (try simp only [List.set_cons_zero])
  refine wpAnyH_take (i := 5) (oi := ⟨_, _, _, _, _, _⟩) (v := ?_) rfl (by kernel_rfl) (by kernel_rfl) (by kernel_rfl) (fun _ _ _ h => h) (Or.inl ⟨by rfl, ?_⟩) (by assumption) ?_
  rotate_left 1
  · intro w hSw; (try dsimp only at hSw); go_simp <;> with_reducible rfl
  (try simp only [Act.put]); (try simp only [List.setIfInBounds_toArray]); (try simp only [List.set_cons_succ]); (try simp only [List.set_cons_zero])
  refine wpAnyH_ready (rs := [4, 6]) (by kernel_rfl) (by simp) ?_
  refine AllReadyH.cons (o := ⟨_, _, _, _, _, _⟩) rfl (fun K hK => ?_) (AllReadyH.cons (o := ⟨_, _, _, _, _, _⟩) rfl (fun K hK => ?_) AllReadyH.nil)
  · have c4 := hP.cell 4 (v := v) rfl
    go_simp
    clear c4
    refine hK.out _ _ ?_ (fun hHeld => ?_)
    · exact ⟨hC.cell 0 rfl, hC.cell 1 rfl, hC.cell 2 rfl⟩
    clear hK K
    (try simp only [Act.put]); (try simp only [List.setIfInBounds_toArray]); (try simp only [List.set_cons_succ]); (try simp only [List.set_cons_zero])
    refine wpAnyH_ready (rs := [6]) (by kernel_rfl) (by simp) ?_
    refine AllReadyH.cons (o := ⟨_, _, _, _, _, _⟩) rfl (fun K hK => ?_) AllReadyH.nil
    go_simp
    have r1 : Rd (V0.alloc (.cells #[.int .i64 sr, .int .i64 x, .int .i64 y] 206)) (some ⟨V0.heap.size, 0, none⟩) 1 1 3 (chl [(⟨sr, x, y⟩ : CH)]) := rd_new 206 3 V0 _ 1 (by decide) rfl
    have kA := (Keeps.refl V0).alloc (.cells #[.int .i64 sr, .int .i64 x, .int .i64 y] 206)
    replace hP := hP.keep kA
    replace hC := hC.keep kA
    replace hO := hO.keep kA
    clear kA
    generalize V0.alloc (.cells #[.int .i64 sr, .int .i64 x, .int .i64 y] 206) = V1 at *
    generalize V0.heap.size = BS at *
    refine hK.out _ _ ?_ (fun hHeld => ?_)
    · exact ⟨hC.cell 0 rfl, hC.cell 1 rfl, hC.cell 2 rfl⟩
    clear hK K
    (try simp only [Act.put]); (try simp only [List.setIfInBounds_toArray]); (try simp only [List.set_cons_succ]); (try simp only [List.set_cons_zero])
    refine wpAnyH_ready (rs := [7]) (by kernel_rfl) (by simp) ?_
    refine AllReadyH.cons (o := ⟨_, _, _, _, _, _⟩) rfl (fun K hK => ?_) AllReadyH.nil
    refine step_app ty_chl rfl _ _ rfl hO rfl rfl r1 (chl_cells _) (by omega) ?_
    intro v' V2 hO' hgr
    dsimp only
    obtain ⟨a9, c9, rfl, _⟩ := hO'.rd
    rw [← chl_append] at hO'
    have ne1 := blk_ne hP hO.1 (by decide)
    replace hP := blk_grown hP hgr ne1
    replace hC := blk_grown hC hgr HNE.out
    clear ne1 hgr r1 hO
    refine hK.out _ _ ?_ (fun hHeld => ?_)
    · exact ⟨hC.cell 0 rfl, hC.cell 1 rfl, hC.cell 2 rfl⟩
    clear hK K
    (try simp only [Act.put]); (try simp only [List.setIfInBounds_toArray]); (try simp only [List.set_cons_succ]); (try simp only [List.set_cons_zero])
    refine wpAnyH_take (i := 8) (oi := ⟨_, _, _, _, _, _⟩) (v := ?_) rfl (by kernel_rfl) (by kernel_rfl) (by kernel_rfl) (fun _ _ _ h => h) (Or.inl ⟨by rfl, ?_⟩) (by assumption) ?_
    rotate_left 1
    · intro w hSw; (try dsimp only at hSw); go_simp <;> with_reducible rfl
    (try simp only [Act.put]); (try simp only [List.setIfInBounds_toArray]); (try simp only [List.set_cons_succ]); (try simp only [List.set_cons_zero])
    refine wpAnyH_take (i := 9) (oi := ⟨_, _, _, _, _, _⟩) (v := ?_) rfl (by kernel_rfl) (by kernel_rfl) (by kernel_rfl) (fun _ _ _ h => h) (Or.inl ⟨by rfl, ?_⟩) (by assumption) ?_
    rotate_left 1
    · intro w hSw; (try dsimp only at hSw); go_simp <;> with_reducible rfl
    (try simp only [Act.put]); (try simp only [List.setIfInBounds_toArray]); (try simp only [List.set_cons_succ]); (try simp only [List.set_cons_zero])
    refine wpAnyH_ready (rs := [10]) (by kernel_rfl) (by simp) ?_
    refine AllReadyH.cons (o := ⟨_, _, _, _, _, _⟩) rfl (fun K hK => ?_) AllReadyH.nil
    have c4 := hP.cell 4 (v := v) rfl
    have f4 := hP.frozen 4
    go_simp
    clear c4 f4
    have hP2 := hP.set 4 (.slice a9 (ns.length + 1) c9)
    have hC2 := hC.setOther (fun e => HCP.out e.symm) 4 (.slice a9 (ns.length + 1) c9)
    have hO2 : Own 206 3 w0 (V2.setCell ⟨P, 4, none⟩ (.slice a9 (ns.length + 1) c9)) (.slice a9 (ns.length + 1) c9) (ns.length + 1) (chl (ns ++ [(⟨sr, x, y⟩ : CH)])) := ⟨row_set hO'.1 hP (by decide) 4 _, keeps_set hO'.2 hPB 4 _⟩
    clear hP hC hO'
    generalize V2.setCell ⟨P, 4, none⟩ (.slice a9 (ns.length + 1) c9) = V3 at *
    rename Blk V3 C _ _ => hC
    refine hK.out _ _ ?_ (fun hHeld => ?_)
    · exact ⟨hC.cell 0 rfl, hC.cell 1 rfl, hC.cell 2 rfl⟩
    clear hK K
    (try simp only [Act.put]); (try simp only [List.setIfInBounds_toArray]); (try simp only [List.set_cons_succ]); (try simp only [List.set_cons_zero])
    refine wpAnyH_done (by kernel_rfl) ?_ _
    have c4 : V3.cell? ⟨P, 4, none⟩ = some (.slice a9 (ns.length + 1) c9) := hP2.cell 4 rfl
    have HP := Lib.hid hP2; have HO := Lib.hid hO2
    clear hP2 hO2 hC
    go_wp2_with fail
    go_ret
    exact ⟨ret_eq (by simp), _, HP.out, by rw [List.length_append]; exact HO.out⟩
  · go_simp
    have r1 : Rd (V0.alloc (.cells #[.int .i64 sr, .int .i64 x, .int .i64 y] 206)) (some ⟨V0.heap.size, 0, none⟩) 1 1 3 (chl [(⟨sr, x, y⟩ : CH)]) := rd_new 206 3 V0 _ 1 (by decide) rfl
    have kA := (Keeps.refl V0).alloc (.cells #[.int .i64 sr, .int .i64 x, .int .i64 y] 206)
    replace hP := hP.keep kA
    replace hC := hC.keep kA
    replace hO := hO.keep kA
    clear kA
    generalize V0.alloc (.cells #[.int .i64 sr, .int .i64 x, .int .i64 y] 206) = V1 at *
    generalize V0.heap.size = BS at *
    refine hK.out _ _ ?_ (fun hHeld => ?_)
    · exact ⟨hC.cell 0 rfl, hC.cell 1 rfl, hC.cell 2 rfl⟩
    clear hK K
    (try simp only [Act.put]); (try simp only [List.setIfInBounds_toArray]); (try simp only [List.set_cons_succ]); (try simp only [List.set_cons_zero])
    refine wpAnyH_ready (rs := [4]) (by kernel_rfl) (by simp) ?_
    refine AllReadyH.cons (o := ⟨_, _, _, _, _, _⟩) rfl (fun K hK => ?_) AllReadyH.nil
    have c4 := hP.cell 4 (v := v) rfl
    go_simp
    clear c4
    refine hK.out _ _ ?_ (fun hHeld => ?_)
    · exact ⟨hC.cell 0 rfl, hC.cell 1 rfl, hC.cell 2 rfl⟩
    clear hK K
    (try simp only [Act.put]); (try simp only [List.setIfInBounds_toArray]); (try simp only [List.set_cons_succ]); (try simp only [List.set_cons_zero])
    refine wpAnyH_ready (rs := [7]) (by kernel_rfl) (by simp) ?_
    refine AllReadyH.cons (o := ⟨_, _, _, _, _, _⟩) rfl (fun K hK => ?_) AllReadyH.nil
    refine step_app ty_chl rfl _ _ rfl hO rfl rfl r1 (chl_cells _) (by omega) ?_
    intro v' V2 hO' hgr
    dsimp only
    obtain ⟨a9, c9, rfl, _⟩ := hO'.rd
    rw [← chl_append] at hO'
    have ne1 := blk_ne hP hO.1 (by decide)
    replace hP := blk_grown hP hgr ne1
    replace hC := blk_grown hC hgr HNE.out
    clear ne1 hgr r1 hO
    refine hK.out _ _ ?_ (fun hHeld => ?_)
    · exact ⟨hC.cell 0 rfl, hC.cell 1 rfl, hC.cell 2 rfl⟩
    clear hK K
    (try simp only [Act.put]); (try simp only [List.setIfInBounds_toArray]); (try simp only [List.set_cons_succ]); (try simp only [List.set_cons_zero])
    refine wpAnyH_take (i := 8) (oi := ⟨_, _, _, _, _, _⟩) (v := ?_) rfl (by kernel_rfl) (by kernel_rfl) (by kernel_rfl) (fun _ _ _ h => h) (Or.inl ⟨by rfl, ?_⟩) (by assumption) ?_
    rotate_left 1
    · intro w hSw; (try dsimp only at hSw); go_simp <;> with_reducible rfl
    (try simp only [Act.put]); (try simp only [List.setIfInBounds_toArray]); (try simp only [List.set_cons_succ]); (try simp only [List.set_cons_zero])
    refine wpAnyH_take (i := 9) (oi := ⟨_, _, _, _, _, _⟩) (v := ?_) rfl (by kernel_rfl) (by kernel_rfl) (by kernel_rfl) (fun _ _ _ h => h) (Or.inl ⟨by rfl, ?_⟩) (by assumption) ?_
    rotate_left 1
    · intro w hSw; (try dsimp only at hSw); go_simp <;> with_reducible rfl
    (try simp only [Act.put]); (try simp only [List.setIfInBounds_toArray]); (try simp only [List.set_cons_succ]); (try simp only [List.set_cons_zero])
    refine wpAnyH_ready (rs := [10]) (by kernel_rfl) (by simp) ?_
    refine AllReadyH.cons (o := ⟨_, _, _, _, _, _⟩) rfl (fun K hK => ?_) AllReadyH.nil
    have c4 := hP.cell 4 (v := v) rfl
    have f4 := hP.frozen 4
    go_simp
    clear c4 f4
    have hP2 := hP.set 4 (.slice a9 (ns.length + 1) c9)
    have hC2 := hC.setOther (fun e => HCP.out e.symm) 4 (.slice a9 (ns.length + 1) c9)
    have hO2 : Own 206 3 w0 (V2.setCell ⟨P, 4, none⟩ (.slice a9 (ns.length + 1) c9)) (.slice a9 (ns.length + 1) c9) (ns.length + 1) (chl (ns ++ [(⟨sr, x, y⟩ : CH)])) := ⟨row_set hO'.1 hP (by decide) 4 _, keeps_set hO'.2 hPB 4 _⟩
    clear hP hC hO'
    generalize V2.setCell ⟨P, 4, none⟩ (.slice a9 (ns.length + 1) c9) = V3 at *
    rename Blk V3 C _ _ => hC
    refine hK.out _ _ ?_ (fun hHeld => ?_)
    · exact ⟨hC.cell 0 rfl, hC.cell 1 rfl, hC.cell 2 rfl⟩
    clear hK K
    (try simp only [Act.put]); (try simp only [List.setIfInBounds_toArray]); (try simp only [List.set_cons_succ]); (try simp only [List.set_cons_zero])
    refine wpAnyH_done (by kernel_rfl) ?_ _
    have c4 : V3.cell? ⟨P, 4, none⟩ = some (.slice a9 (ns.length + 1) c9) := hP2.cell 4 rfl
    have HP := Lib.hid hP2; have HO := Lib.hid hO2
    clear hP2 hO2 hC
    go_wp2_with fail
    go_ret
    exact ⟨ret_eq (by simp), _, HP.out, by rw [List.length_append]; exact HO.out⟩
end Go.Proofs.YtijknodekomdfaaGreatDoor
namespace Go.Proofs.YtijknodekomdfaaGreatDoor
open Go.RowKit Go.Lib Go.Shelf

@[go_sem] theorem sv_4095andNot (x : S) : bits .andNot .u16 4095 (sv x) = sv (4095#16 &&& ~~~x) := sv_andNot 4095#16 x
theorem small_ful (b : S) : small (4095#16 &&& ~~~b) := small_and9 (show (4095#16 : S).toNat < 4096 by decide)
theorem prv_x {X Y : S → Bool} {k : Nat} {ns : List CH} {a b l : S} (h : X (4095#16 &&& ~~~b) = false) : prv X Y k ns a b l = (ns ++ [⟨-1, 0, 0⟩], ns.length, true) := by
  unfold prv ful; rw [if_pos h]
theorem prv_y {X Y : S → Bool} {k : Nat} {ns : List CH} {a b l : S} (h : X (4095#16 &&& ~~~b) = true) (h2 : Y (4095#16 &&& ~~~a) = false) : prv X Y k ns a b l = (ns ++ [⟨-2, 0, 0⟩], ns.length, true) := by
  unfold prv ful; rw [if_neg (by rw [h]; simp), if_pos h2]
theorem prv_0 {X Y : S → Bool} {k : Nat} {ns : List CH} {a b l : S} (h : X (4095#16 &&& ~~~b) = true) (h2 : Y (4095#16 &&& ~~~a) = true) (h3 : l = 0#16) : prv X Y k ns a b l = (ns, 0, false) := by
  unfold prv ful; rw [if_neg (by rw [h]; simp), if_neg (by rw [h2]; simp), if_pos h3]
theorem prv_s {X Y : S → Bool} {k : Nat} {ns : List CH} {a b l : S} (h : X (4095#16 &&& ~~~b) = true) (h2 : Y (4095#16 &&& ~~~a) = true) (h3 : l ≠ 0#16) : prv X Y (k + 1) ns a b l =
    (let r := prv X Y k ns (a ||| 1#16 <<< tzS l) b (l &&& ~~~(1#16 <<< tzS l))
     if r.2.2 = false then (r.1, 0, false)
     else
       let q := prv X Y k r.1 a (b ||| 1#16 <<< tzS l) (l &&& ~~~(1#16 <<< tzS l))
       if q.2.2 = false then (q.1, 0, false)
       else (q.1 ++ [⟨(tzS l : Int), r.2.1, q.2.1⟩], q.1.length, true)) := by
  rw [prv, if_neg (by unfold ful; rw [h]; simp), if_neg (by unfold ful; rw [h2]; simp), if_neg h3]
theorem Blk.x5 {w : World} {B : Nat} {T : TypeId} {v0 v1 v2 v3 v4 : Value} (h : Blk w B T #[v0, v1, v2, v3, v4]) :
    (w.cell? ⟨B, 0, none⟩ = some v0 ∧ w.cell? ⟨B, 1, none⟩ = some v1 ∧ w.cell? ⟨B, 2, none⟩ = some v2 ∧ w.cell? ⟨B, 3, none⟩ = some v3) :=
  ⟨h.cell 0 rfl, h.cell 1 rfl, h.cell 2 rfl, h.cell 3 rfl⟩
set_option maxHeartbeats 4000000 in
theorem prove20_any (w0 : World) (P : Nat) {x y : List ND × Nat} {ax ay : Option Addr} {mx cx my cy : Nat} {rx ry : Int} (hT : Tab w0) (hx : HasX w0 x (.agg #[.slice ax mx cx, .int .i64 rx])) (hy : HasX w0 y (.agg #[.slice ay my cy, .int .i64 ry])) (vx : VX x) (vy : VX y) (hPB : w0.heap.size ≤ P) :
    ∀ (N : Nat) (ns : List CH) (a b l : S) (w : World), small l → (members l).length ≤ N → StP w0 P (.slice ax mx cx) (.int .i64 rx) (.slice ay my cy) (.int .i64 ry) w ns → ns.length + 2 ^ (N + 1) ≤ 100000 →
    Calls Tryz.prog 134 #[.pointer (some ⟨P, 0, none⟩), .int .u16 (sv a), .int .u16 (sv b), .int .u16 (sv l)] w fun e w' => e = .returned (.tuple #[.int .i64 (prv (holdsV x) (holdsV y) N ns a b l).2.1, .bool (prv (holdsV x) (holdsV y) N ns a b l).2.2]) ∧ StP w0 P (.slice ax mx cx) (.int .i64 rx) (.slice ay my cy) (.int .i64 ry) w' (prv (holdsV x) (holdsV y) N ns a b l).1 := by
  intro N
  induction N using Nat.strongRecOn with
  | _ N ih =>
  intro ns a b l w hs hl hSt hn
  have hp2 : 0 < 2 ^ (N + 1) := Nat.pow_pos (by decide)
  have h1 := fun W (k : Keeps w0 W) => satisfied_any (4095#16 &&& ~~~b) W (hx.keep k) vx (small_ful b)
  have h2 := fun W (k : Keeps w0 W) => satisfied_any (4095#16 &&& ~~~a) W (hy.keep k) vy (small_ful a)
  have h3 := fun W (k : Keeps w0 W) (hne : l ≠ 0#16) => tz_any l W (hT.keep k) hne
  have ha := fun (ms : List CH) (sr : Int) (i j : Nat) W (h : StP w0 P (.slice ax mx cx) (.int .i64 rx) (.slice ay my cy) (.int .i64 ry) W ms) (hm : ms.length ≤ 100000) => add20_any w0 P _ _ _ _ ms sr i j W h hPB hm
  have H1 := Lib.hid h1; have H2 := Lib.hid h2; have H3 := Lib.hid h3; have HA := Lib.hid ha; have HS := Lib.hid hSt; have IH := Lib.hid ih
  obtain ⟨v, hP, hO⟩ := hSt
  have HK0 := Lib.hid hO.2
  obtain ⟨c0, c1, c2, c3⟩ := hP.x5
  clear h1 h2 h3 ha ih hP hO hx hy vx vy
  cases q1 : holdsV x (4095#16 &&& ~~~b) with
  | false =>
    have HPRV := Lib.hid (prv_x (Y := holdsV y) (k := N) (ns := ns) (a := a) (l := l) q1)
    rw [q1] at H1
    clear q1
    go_enter Tryz.func134, Tryz.ntmps134
    go_wp2_with fail
    refine (H1.out w HK0.out).mono ?_
    rintro e w1 ⟨rfl, K1⟩
    go_wp2_with fail
    refine (HA.out ns (-1) 0 0 w1 (HS.out.keep K1) (by omega)).mono ?_
    rintro e w2 ⟨rfl, hS2⟩
    have HS2 := Lib.hid hS2
    clear hS2
    go_wp2_with fail
    go_ret2
    rw [HPRV.out]
    exact ⟨rfl, HS2.out⟩
  | true =>
    cases q2 : holdsV y (4095#16 &&& ~~~a) with
    | false =>
      have HPRV := Lib.hid (prv_y (k := N) (ns := ns) (l := l) q1 q2)
      rw [q1] at H1
      rw [q2] at H2
      clear q1 q2
      go_enter Tryz.func134, Tryz.ntmps134
      go_wp2_with fail
      refine (H1.out w HK0.out).mono ?_
      rintro e w1 ⟨rfl, K1⟩
      replace c2 := K1.cell c2; replace c3 := K1.cell c3
      go_wp2_with fail
      refine (H2.out w1 (HK0.out.trans K1)).mono ?_
      rintro e w2 ⟨rfl, K2⟩
      go_wp2_with fail
      refine (HA.out ns (-2) 0 0 w2 (HS.out.keep (K1.trans K2)) (by omega)).mono ?_
      rintro e w3 ⟨rfl, hS2⟩
      have HS2 := Lib.hid hS2
      clear hS2
      go_wp2_with fail
      go_ret2
      rw [HPRV.out]
      exact ⟨rfl, HS2.out⟩
    | true =>
      by_cases hz : l = 0#16
      · have HPRV := Lib.hid (prv_0 (k := N) (ns := ns) q1 q2 hz)
        subst hz
        rw [q1] at H1
        rw [q2] at H2
        clear q1 q2
        go_enter Tryz.func134, Tryz.ntmps134
        go_wp2_with fail
        refine (H1.out w HK0.out).mono ?_
        rintro e w1 ⟨rfl, K1⟩
        replace c2 := K1.cell c2; replace c3 := K1.cell c3
        go_wp2_with fail
        refine (H2.out w1 (HK0.out.trans K1)).mono ?_
        rintro e w2 ⟨rfl, K2⟩
        go_wp2_with fail
        go_ret2
        rw [HPRV.out]
        exact ⟨rfl, HS.out.keep (K1.trans K2)⟩
      · have ht := tz_bit hs hz
        have hles := members_less ht.1 ht.2
        obtain ⟨N', rfl⟩ : ∃ N', N = N' + 1 := ⟨N - 1, by omega⟩
        have HPRV := Lib.hid (prv_s (k := N') (ns := ns) q1 q2 hz)
        have hss : small (l &&& ~~~(1#16 <<< tzS l)) := small_and9 hs
        have hpow : 2 ^ (N' + 1 + 1) = 2 ^ (N' + 1) + 2 ^ (N' + 1) := by rw [Nat.pow_succ]; omega
        have hr := fun (ms : List CH) (A B : S) W (h : StP w0 P (.slice ax mx cx) (.int .i64 rx) (.slice ay my cy) (.int .i64 ry) W ms) (hm : ms.length + 2 ^ (N' + 1) ≤ 100000) => IH.out N' (by omega) ms A B (l &&& ~~~(1#16 <<< tzS l)) W hss (by omega) h hm
        have hlen := fun (ms : List CH) (A B : S) => prv_pre (holdsV x) (holdsV y) N' ms A B (l &&& ~~~(1#16 <<< tzS l))
        have h0b : (l == 0#16) = false := by simpa using hz
        have h3' := fun W k => H3.out W k hz
        generalize tzS l = t at *
        have ht12 := ht.1
        have hmin : min t 16 = t := by omega
        rw [q1] at H1
        rw [q2] at H2
        have HR := Lib.hid hr; have HLEN := Lib.hid hlen; have H3' := Lib.hid h3'; have HN := Lib.hid hn; have HP := Lib.hid (And.intro hpow (show 0 < 2 ^ (N' + 1) from Nat.pow_pos (by decide)))
        clear q1 q2 H3 IH hr hlen hss hles ht hs hl h3' hn hpow hp2
        go_enter Tryz.func134, Tryz.ntmps134
        go_wp2_with fail
        refine (H1.out w HK0.out).mono ?_
        rintro e w1 ⟨rfl, K1⟩
        replace c2 := K1.cell c2; replace c3 := K1.cell c3
        go_wp2_with fail
        refine (H2.out w1 (HK0.out.trans K1)).mono ?_
        rintro e w2 ⟨rfl, K2⟩
        go_wp2_with fail
        refine (H3'.out w2 (HK0.out.trans (K1.trans K2))).mono ?_
        rintro e w2' ⟨rfl, rfl⟩
        go_wp2_with fail
        refine (HR.out ns _ _ w2 (HS.out.keep (K1.trans K2)) (by have := HN.out; have := HP.out; omega)).mono ?_
        rintro e w3 ⟨rfl, hS3⟩
        have HS3 := Lib.hid hS3
        obtain ⟨t1, e1, l1, -⟩ := HLEN.out ns (a ||| 1#16 <<< t) b
        have hl1 : (prv (holdsV x) (holdsV y) N' ns (a ||| 1#16 <<< t) b (l &&& ~~~(1#16 <<< t))).1.length + 2 ^ (N' + 1) ≤ 100000 := by
          rw [e1, List.length_append]; have := HN.out; have := HP.out; omega
        have HL1 := Lib.hid hl1
        clear hS3 t1 e1 l1 hl1 c0 c1 c2 c3
        generalize prv (holdsV x) (holdsV y) N' ns (a ||| 1#16 <<< t) b (l &&& ~~~(1#16 <<< t)) = r at *
        obtain ⟨r1, r2, r3⟩ := r
        dsimp only at *
        cases r3 with
        | false =>
          go_wp2_with fail
          go_ret2
          rw [HPRV.out]
          exact ⟨rfl, HS3.out⟩
        | true =>
          rw [if_neg (by simp)] at HPRV
          go_wp2_with fail
          refine (HR.out r1 _ _ w3 HS3.out HL1.out).mono ?_
          rintro e w4 ⟨rfl, hS4⟩
          have HS4 := Lib.hid hS4
          obtain ⟨t1, e1, l1, -⟩ := HLEN.out r1 a (b ||| 1#16 <<< t)
          have hl1 : (prv (holdsV x) (holdsV y) N' r1 a (b ||| 1#16 <<< t) (l &&& ~~~(1#16 <<< t))).1.length ≤ 100000 := by
            rw [e1, List.length_append]; have := HL1.out; omega
          have HL2 := Lib.hid hl1
          clear hS4 t1 e1 l1 hl1
          generalize prv (holdsV x) (holdsV y) N' r1 a (b ||| 1#16 <<< t) (l &&& ~~~(1#16 <<< t)) = q at *
          obtain ⟨q1, q2, q3⟩ := q
          dsimp only at *
          cases q3 with
          | false =>
            go_wp2_with fail
            go_ret2
            rw [HPRV.out]
            exact ⟨rfl, HS4.out⟩
          | true =>
            rw [if_neg (by simp)] at HPRV
            go_wp2_with fail
            refine (HA.out q1 t r2 q2 w4 HS4.out HL2.out).mono ?_
            rintro e w5 ⟨rfl, hS5⟩
            have HS5 := Lib.hid hS5
            clear hS5
            go_wp2_with fail
            go_ret2
            rw [HPRV.out]
            exact ⟨rfl, HS5.out⟩
end Go.Proofs.YtijknodekomdfaaGreatDoor
