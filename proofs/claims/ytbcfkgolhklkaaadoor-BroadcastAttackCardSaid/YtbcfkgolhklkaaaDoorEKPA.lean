/- Texts joined into one, what is needed of them (a program of ours). -/
import Derived.Test.YtbcfkgolhklkaaaDoorEKK
import Derived.Test.YtbcfkgolhklkaaaDoorEKY
import Derived.Deep.RegionHeld3
namespace Go.Proofs.YtbcfkgolhklkaaaDoor
open Go.RowKit Go.Lib Go.Shelf

end Go.Proofs.YtbcfkgolhklkaaaDoor
namespace Go.Proofs.YtbcfkgolhklkaaaDoor
open Go.RowKit Go.Lib Go.Shelf

set_option maxHeartbeats 1000000 in
theorem rheard_same (a1 : Option Addr) (c1 : Nat) (a2 : Option Addr) (c2 : Nat) (l : List Hd) (w : World) (h1 : Rd w a1 l.length c1 2 (hl l)) (h2 : Rd w a2 l.length c2 2 (hl l)) :
    Calls Tryd.prog 87 #[.slice a1 l.length c1, .slice a2 l.length c2] w fun e w' => e = .returned (.bool true) ∧ Keeps w w' := by
  have s1 := h1.small
  have H1 := Lib.hid h1; have H2 := Lib.hid h2
  clear h1 h2
  generalize hm : l.length = m at *
  have HM := Lib.hid hm
  clear hm
  go_enter Tryd.func87, Tryd.ntmps87
  go_wp2_with fail
  go_loopw [5] (fun u wr => ∃ k : Nat, k ≤ m ∧ u = .int .i64 k ∧ Keeps w wr) (fun u _ => m - (RowKit.intOf u).toNat)
  case atStart => exact ⟨0, Nat.zero_le _, rfl, Keeps.refl _⟩
  case round =>
    obtain ⟨k, hk, rfl, K⟩ := hrel
    by_cases hlt : k < m
    · obtain ⟨p0, p1⟩ := hl_at (H1.out.keep K) hlt
      obtain ⟨q0, q1⟩ := hl_at (H2.out.keep K) hlt
      have hao := (H1.out.keep K).isSome (by omega)
      have hao2 := (H2.out.keep K).isSome (by omega)
      generalize hdA l k = z at *
      go_wp2_with (go_quiet (fail))
      go_roundw
      case rel => exact ⟨k + 1, by omega, by go_num, K.drewN _⟩
      case measure => simp [RowKit.intOf]; omega
    · have HKK := Lib.hid K
      clear K
      go_wp2_with fail
      go_ret
      exact ⟨rfl, HKK.out⟩
set_option maxHeartbeats 1000000 in
theorem rcasts_same (a1 : Option Addr) (c1 : Nat) (a2 : Option Addr) (c2 : Nat) (l : List Ct) (w : World) (h1 : Rd w a1 l.length c1 4 (cl l)) (h2 : Rd w a2 l.length c2 4 (cl l)) :
    Calls Tryd.prog 61 #[.slice a1 l.length c1, .slice a2 l.length c2] w fun e w' => e = .returned (.bool true) ∧ Keeps w w' := by
  have s1 := h1.small
  have H1 := Lib.hid h1; have H2 := Lib.hid h2
  clear h1 h2
  generalize hm : l.length = m at *
  have HM := Lib.hid hm
  clear hm
  go_enter Tryd.func61, Tryd.ntmps61
  go_wp2_with fail
  go_loopw [5] (fun u wr => ∃ k : Nat, k ≤ m ∧ u = .int .i64 k ∧ Keeps w wr) (fun u _ => m - (RowKit.intOf u).toNat)
  case atStart => exact ⟨0, Nat.zero_le _, rfl, Keeps.refl _⟩
  case round =>
    obtain ⟨k, hk, rfl, K⟩ := hrel
    by_cases hlt : k < m
    · obtain ⟨p0, p1, p2, p3⟩ := cl_at (H1.out.keep K) hlt
      obtain ⟨q0, q1, q2, q3⟩ := cl_at (H2.out.keep K) hlt
      have hao := (H1.out.keep K).isSome (by omega)
      have hao2 := (H2.out.keep K).isSome (by omega)
      generalize ctA l k = z at *
      go_wp2_with (go_quiet (fail))
      go_roundw
      case rel => exact ⟨k + 1, by omega, by go_num, K.drewN _⟩
      case measure => simp [RowKit.intOf]; omega
    · have HKK := Lib.hid K
      clear K
      go_wp2_with fail
      go_ret
      exact ⟨rfl, HKK.out⟩
theorem c9x {W : World} {B : Nat} {T : TypeId} {v0 v1 v2 v3 v4 v5 v6 v7 v8 : Value} (h : Blk W B T #[v0, v1, v2, v3, v4, v5, v6, v7, v8]) : W.cell? ⟨B, 0, none⟩ = some v0 ∧ W.cell? ⟨B, 1, none⟩ = some v1 ∧ W.cell? ⟨B, 2, none⟩ = some v2 ∧ W.cell? ⟨B, 3, none⟩ = some v3 ∧ W.cell? ⟨B, 4, none⟩ = some v4 ∧ W.cell? ⟨B, 5, none⟩ = some v5 ∧ W.cell? ⟨B, 6, none⟩ = some v6 ∧ W.cell? ⟨B, 7, none⟩ = some v7 ∧ W.cell? ⟨B, 8, none⟩ = some v8 :=
  ⟨h.cell 0 rfl, h.cell 1 rfl, h.cell 2 rfl, h.cell 3 rfl, h.cell 4 rfl, h.cell 5 rfl, h.cell 6 rfl, h.cell 7 rfl, h.cell 8 rfl⟩
set_option maxHeartbeats 4000000 in
set_option maxRecDepth 20000 in
theorem rnode_same (y z : NA) (w : World) (h1 : RdH w y) (h2 : RdH w z) (hx : y.x = z.x) :
    Calls Tryd.prog 62 #[vn y, vn z] w fun e w' => e = .returned (.bool true) ∧ Keeps w w' := by
  obtain ⟨x, ae1, ce1, ar1, cr1⟩ := y
  obtain ⟨x2, ae2, ce2, ar2, cr2⟩ := z
  dsimp only at hx
  subst hx
  obtain ⟨e1, r1⟩ := h1
  obtain ⟨e2, r2⟩ := h2
  dsimp only at e1 r1 e2 r2
  obtain ⟨id, ec, hE, re, hR, de, hD, es, rs⟩ := x
  dsimp only at e1 r1 e2 r2
  unfold vn
  dsimp only
  have hs : ∀ (W : World) o, (W.alloc o).heap.size = W.heap.size + 1 := fun W o => World.size_alloc ..
  have k1 := (Keeps.refl w).alloc (.cells #[.int .i64 id, .string ec, .bool hE, .string re, .bool hR, .string de, .bool hD, .slice ae1 es.length ce1, .slice ar1 rs.length cr1] 46)
  have k2 := (Keeps.refl (w.alloc (.cells #[.int .i64 id, .string ec, .bool hE, .string re, .bool hR, .string de, .bool hD, .slice ae1 es.length ce1, .slice ar1 rs.length cr1] 46))).alloc (.cells #[.int .i64 id, .string ec, .bool hE, .string re, .bool hR, .string de, .bool hD, .slice ae2 es.length ce2, .slice ar2 rs.length cr2] 46)
  have b1 := (Blk.new w 46 #[.int .i64 id, .string ec, .bool hE, .string re, .bool hR, .string de, .bool hD, .slice ae1 es.length ce1, .slice ar1 rs.length cr1]).keep k2
  have b2 := Blk.new (w.alloc (.cells #[.int .i64 id, .string ec, .bool hE, .string re, .bool hR, .string de, .bool hD, .slice ae1 es.length ce1, .slice ar1 rs.length cr1] 46)) 46 #[.int .i64 id, .string ec, .bool hE, .string re, .bool hR, .string de, .bool hD, .slice ae2 es.length ce2, .slice ar2 rs.length cr2]
  rw [hs] at b2
  have J := k1.trans k2
  have HC1 := Lib.hid (rheard_same ae1 ce1 ae2 ce2 es _ (e1.keep J) (e2.keep J))
  have HC2 := Lib.hid (fun W (K : Keeps ((w.alloc (.cells #[.int .i64 id, .string ec, .bool hE, .string re, .bool hR, .string de, .bool hD, .slice ae1 es.length ce1, .slice ar1 rs.length cr1] 46)).alloc (.cells #[.int .i64 id, .string ec, .bool hE, .string re, .bool hR, .string de, .bool hD, .slice ae2 es.length ce2, .slice ar2 rs.length cr2] 46)) W) => rheard_same ar1 cr1 ar2 cr2 rs W ((r1.keep J).keep K) ((r2.keep J).keep K))
  obtain ⟨y0, y1, y2, y3, y4, y5, y6, y7, y8⟩ := c9x b1
  obtain ⟨z0, z1, z2, z3, z4, z5, z6, z7, z8⟩ := c9x b2
  have HJ := Lib.hid J; have HB1 := Lib.hid b1; have HB2 := Lib.hid b2
  clear J k1 k2 e1 e2 r1 r2 b1 b2 hs
  go_enter Tryd.func62, Tryd.ntmps62
  go_wp2_with fail
  refine HC1.out.mono ?_
  rintro e w1 ⟨rfl, k1⟩
  have HC3 := Lib.hid (HC2.out w1 k1)
  clear y0 y1 y2 y3 y4 y5 y6 y7 y8 z0 z1 z2 z3 z4 z5 z6 z7 z8
  obtain ⟨y0, y1, y2, y3, y4, y5, y6, y7, y8⟩ := c9x (HB1.out.keep k1)
  obtain ⟨z0, z1, z2, z3, z4, z5, z6, z7, z8⟩ := c9x (HB2.out.keep k1)
  have HK := Lib.hid (HJ.out.trans k1)
  clear k1 HC1 HC2 HB1 HB2 HJ
  go_wp2_with fail
  refine HC3.out.mono ?_
  rintro e w2 ⟨rfl, k2⟩
  have HK2 := Lib.hid (HK.out.trans k2)
  clear k2
  go_wp2_with fail
  go_ret
  exact ⟨rfl, HK2.out⟩
set_option maxHeartbeats 4000000 in
set_option maxRecDepth 20000 in
theorem requal_same (c : CD) (v1 v2 : Value) (w : World) (h1 : HasC w c v1) (h2 : HasC w c v2) :
    Calls Tryd.prog 15 #[v1, v2] w fun e w' => e = .returned (.bool true) ∧ Keeps w w' := by
  obtain ⟨an1, cn1, nas1, ag1, cg1, rfl, n1, f1, d1, m1⟩ := h1
  obtain ⟨an2, cn2, nas2, ag2, cg2, rfl, n2, f2, d2, m2⟩ := h2
  have hl : nas2.length = nas1.length := by have := congrArg List.length (m2.trans m1.symm); simpa using this
  obtain ⟨m, hm1⟩ : ∃ m, m = nas1.length := ⟨_, rfl⟩
  have hm2 : m = nas2.length := by omega
  rw [← hm1, ← hm2]
  rw [← hm1] at n1
  rw [← hm2] at n2
  have hs : ∀ (W : World) o, (W.alloc o).heap.size = W.heap.size + 1 := fun W o => World.size_alloc ..
  have k1 := (Keeps.refl w).alloc (.cells #[.int .i64 c.n, .int .u16 (sv c.byz), .int .i64 c.src, .slice an1 m cn1, .slice ag1 c.st.flight.length cg1] 32)
  have k2 := (Keeps.refl (w.alloc (.cells #[.int .i64 c.n, .int .u16 (sv c.byz), .int .i64 c.src, .slice an1 m cn1, .slice ag1 c.st.flight.length cg1] 32))).alloc (.cells #[.int .i64 c.n, .int .u16 (sv c.byz), .int .i64 c.src, .slice an2 m cn2, .slice ag2 c.st.flight.length cg2] 32)
  have b1 := (Blk.new w 32 #[.int .i64 c.n, .int .u16 (sv c.byz), .int .i64 c.src, .slice an1 m cn1, .slice ag1 c.st.flight.length cg1]).keep k2
  have b2 := Blk.new (w.alloc (.cells #[.int .i64 c.n, .int .u16 (sv c.byz), .int .i64 c.src, .slice an1 m cn1, .slice ag1 c.st.flight.length cg1] 32)) 32 #[.int .i64 c.n, .int .u16 (sv c.byz), .int .i64 c.src, .slice an2 m cn2, .slice ag2 c.st.flight.length cg2]
  rw [hs] at b2
  have J := k1.trans k2
  have HCA := Lib.hid (rcasts_same ag1 cg1 ag2 cg2 c.st.flight _ (f1.keep J) (f2.keep J))
  have HN1 := Lib.hid (n1.keep J); have HN2 := Lib.hid (n2.keep J)
  have HD1 := Lib.hid (fun z hz => (d1 z hz).keep J); have HD2 := Lib.hid (fun z hz => (d2 z hz).keep J)
  have HJ := Lib.hid J; have HB1 := Lib.hid b1; have HB2 := Lib.hid b2
  have HX : Hid (∀ k < m, (naA nas1 k).x = (naA nas2 k).x) := Lib.hid (fun k hk => by
    have e : (nas1.map NA.x)[k]? = (nas2.map NA.x)[k]? := by rw [m1, m2]
    rw [List.getElem?_map, List.getElem?_map, List.getElem?_eq_getElem (by omega : k < nas1.length), List.getElem?_eq_getElem (by omega : k < nas2.length)] at e
    simp only [Option.map_some, Option.some.injEq] at e
    unfold naA List.getD
    rw [List.getElem?_eq_getElem (by omega : k < nas1.length), List.getElem?_eq_getElem (by omega : k < nas2.length)]
    exact e)
  obtain ⟨y0, y1, y2, y3, y4⟩ := c5 b1
  obtain ⟨z0, z1, z2, z3, z4⟩ := c5 b2
  have hm := n1.small
  have HM1 := Lib.hid hm1; have HM2 := Lib.hid hm2
  unfold vCast
  clear J k1 k2 n1 n2 f1 f2 d1 d2 b1 b2 hs m1 m2 hl hm1 hm2
  go_enter Tryd.func15, Tryd.ntmps15
  go_wp2_with fail
  refine HCA.out.mono ?_
  rintro e w1 ⟨rfl, k1⟩
  clear y0 y1 y2 y3 y4 z0 z1 z2 z3 z4 HCA
  have HN1 := Lib.hid (HN1.out.keep k1); have HN2 := Lib.hid (HN2.out.keep k1); have HB1 := Lib.hid (HB1.out.keep k1); have HB2 := Lib.hid (HB2.out.keep k1); have HJ := Lib.hid (HJ.out.trans k1)
  have HD1 := Lib.hid (fun z hz => (HD1.out z hz).keep k1); have HD2 := Lib.hid (fun z hz => (HD2.out z hz).keep k1)
  obtain ⟨P1, hP1⟩ : ∃ P, P = w.heap.size := ⟨_, rfl⟩
  obtain ⟨P2, hP2⟩ : ∃ P, P = w.heap.size + 1 := ⟨_, rfl⟩
  rw [← hP2] at HB2 ⊢
  rw [← hP1] at HB1 ⊢
  clear k1 hP1 hP2
  go_wp2_with fail
  go_loopw [5] (fun u wr => ∃ k : Nat, k ≤ m ∧ u = .int .i64 k ∧ Keeps w1 wr) (fun u _ => m - (RowKit.intOf u).toNat)
  case atStart => exact ⟨0, Nat.zero_le _, rfl, Keeps.refl _⟩
  case round =>
    obtain ⟨k, hk, rfl, K⟩ := hrel
    have z3 := (HB2.out.keep K).cell 3 (v := .slice an2 m cn2) rfl
    have y3 := (HB1.out.keep K).cell 3 (v := .slice an1 m cn1) rfl
    by_cases hlt : k < m
    · have h1 := nl_at (HN1.out.keep K) hlt
      have h2 := nl_at (HN2.out.keep K) hlt
      have hao := (HN1.out.keep K).isSome (by omega)
      have hao2 := (HN2.out.keep K).isSome (by omega)
      have hx := HX.out k hlt
      have hr1 := fun W (J : Keeps wr W) => (HD1.out _ (naA_mem (HM1.out ▸ hlt))).keep (K.trans J)
      have hr2 := fun W (J : Keeps wr W) => (HD2.out _ (naA_mem (HM2.out ▸ hlt))).keep (K.trans J)
      generalize naA nas1 k = p at *
      generalize naA nas2 k = q at *
      have HRS := Lib.hid (fun W (J : Keeps wr W) => rnode_same p q W (hr1 W J) (hr2 W J) hx)
      have HS : Hid (∀ w', Keeps wr w' → w'.cell? ⟨P1, 3, none⟩ = some (.slice an1 m cn1) ∧ w'.cell? ⟨P2, 3, none⟩ = some (.slice an2 m cn2) ∧ w'.cell? (adr an1 (k * 9)) = some (.int .i64 p.x.id) ∧ w'.cell? ⟨(adr an1 (k * 9)).block, (adr an1 (k * 9)).off + 1, none⟩ = some (.string p.x.echoed) ∧ w'.cell? ⟨(adr an1 (k * 9)).block, (adr an1 (k * 9)).off + 2, none⟩ = some (.bool p.x.hasE) ∧ w'.cell? ⟨(adr an1 (k * 9)).block, (adr an1 (k * 9)).off + 3, none⟩ = some (.string p.x.readied) ∧ w'.cell? ⟨(adr an1 (k * 9)).block, (adr an1 (k * 9)).off + 4, none⟩ = some (.bool p.x.hasR) ∧ w'.cell? ⟨(adr an1 (k * 9)).block, (adr an1 (k * 9)).off + 5, none⟩ = some (.string p.x.delivered) ∧ w'.cell? ⟨(adr an1 (k * 9)).block, (adr an1 (k * 9)).off + 6, none⟩ = some (.bool p.x.hasD) ∧ w'.cell? ⟨(adr an1 (k * 9)).block, (adr an1 (k * 9)).off + 7, none⟩ = some (.slice p.ae p.x.echoes.length p.ce) ∧ w'.cell? ⟨(adr an1 (k * 9)).block, (adr an1 (k * 9)).off + 8, none⟩ = some (.slice p.ar p.x.readies.length p.cr) ∧ w'.cell? (adr an2 (k * 9)) = some (.int .i64 q.x.id) ∧ w'.cell? ⟨(adr an2 (k * 9)).block, (adr an2 (k * 9)).off + 1, none⟩ = some (.string q.x.echoed) ∧ w'.cell? ⟨(adr an2 (k * 9)).block, (adr an2 (k * 9)).off + 2, none⟩ = some (.bool q.x.hasE) ∧ w'.cell? ⟨(adr an2 (k * 9)).block, (adr an2 (k * 9)).off + 3, none⟩ = some (.string q.x.readied) ∧ w'.cell? ⟨(adr an2 (k * 9)).block, (adr an2 (k * 9)).off + 4, none⟩ = some (.bool q.x.hasR) ∧ w'.cell? ⟨(adr an2 (k * 9)).block, (adr an2 (k * 9)).off + 5, none⟩ = some (.string q.x.delivered) ∧ w'.cell? ⟨(adr an2 (k * 9)).block, (adr an2 (k * 9)).off + 6, none⟩ = some (.bool q.x.hasD) ∧ w'.cell? ⟨(adr an2 (k * 9)).block, (adr an2 (k * 9)).off + 7, none⟩ = some (.slice q.ae q.x.echoes.length q.ce) ∧ w'.cell? ⟨(adr an2 (k * 9)).block, (adr an2 (k * 9)).off + 8, none⟩ = some (.slice q.ar q.x.readies.length q.cr)) := Lib.hid (fun w' J => by
        obtain ⟨p0, p1, p2, p3, p4, p5, p6, p7, p8⟩ := h1
        obtain ⟨q0, q1, q2, q3, q4, q5, q6, q7, q8⟩ := h2
        exact ⟨J.cell y3, J.cell z3, J.cell p0, J.cell p1, J.cell p2, J.cell p3, J.cell p4, J.cell p5, J.cell p6, J.cell p7, J.cell p8, J.cell q0, J.cell q1, J.cell q2, J.cell q3, J.cell q4, J.cell q5, J.cell q6, J.cell q7, J.cell q8⟩)
      have HK := Lib.hid K
      clear h1 h2 hr1 hr2 hx K
      go_wp2_with fail
      clear y3 z3
      have J : Keeps wr wr.drew := (Keeps.refl wr).drew
      refine wp_region_held_drew (S := (fun w' => w'.cell? ⟨P1, 3, none⟩ = some (.slice an1 m cn1) ∧ w'.cell? ⟨P2, 3, none⟩ = some (.slice an2 m cn2) ∧ w'.cell? (adr an1 (k * 9)) = some (.int .i64 p.x.id) ∧ w'.cell? ⟨(adr an1 (k * 9)).block, (adr an1 (k * 9)).off + 1, none⟩ = some (.string p.x.echoed) ∧ w'.cell? ⟨(adr an1 (k * 9)).block, (adr an1 (k * 9)).off + 2, none⟩ = some (.bool p.x.hasE) ∧ w'.cell? ⟨(adr an1 (k * 9)).block, (adr an1 (k * 9)).off + 3, none⟩ = some (.string p.x.readied) ∧ w'.cell? ⟨(adr an1 (k * 9)).block, (adr an1 (k * 9)).off + 4, none⟩ = some (.bool p.x.hasR) ∧ w'.cell? ⟨(adr an1 (k * 9)).block, (adr an1 (k * 9)).off + 5, none⟩ = some (.string p.x.delivered) ∧ w'.cell? ⟨(adr an1 (k * 9)).block, (adr an1 (k * 9)).off + 6, none⟩ = some (.bool p.x.hasD) ∧ w'.cell? ⟨(adr an1 (k * 9)).block, (adr an1 (k * 9)).off + 7, none⟩ = some (.slice p.ae p.x.echoes.length p.ce) ∧ w'.cell? ⟨(adr an1 (k * 9)).block, (adr an1 (k * 9)).off + 8, none⟩ = some (.slice p.ar p.x.readies.length p.cr) ∧ w'.cell? (adr an2 (k * 9)) = some (.int .i64 q.x.id) ∧ w'.cell? ⟨(adr an2 (k * 9)).block, (adr an2 (k * 9)).off + 1, none⟩ = some (.string q.x.echoed) ∧ w'.cell? ⟨(adr an2 (k * 9)).block, (adr an2 (k * 9)).off + 2, none⟩ = some (.bool q.x.hasE) ∧ w'.cell? ⟨(adr an2 (k * 9)).block, (adr an2 (k * 9)).off + 3, none⟩ = some (.string q.x.readied) ∧ w'.cell? ⟨(adr an2 (k * 9)).block, (adr an2 (k * 9)).off + 4, none⟩ = some (.bool q.x.hasR) ∧ w'.cell? ⟨(adr an2 (k * 9)).block, (adr an2 (k * 9)).off + 5, none⟩ = some (.string q.x.delivered) ∧ w'.cell? ⟨(adr an2 (k * 9)).block, (adr an2 (k * 9)).off + 6, none⟩ = some (.bool q.x.hasD) ∧ w'.cell? ⟨(adr an2 (k * 9)).block, (adr an2 (k * 9)).off + 7, none⟩ = some (.slice q.ae q.x.echoes.length q.ce) ∧ w'.cell? ⟨(adr an2 (k * 9)).block, (adr an2 (k * 9)).off + 8, none⟩ = some (.slice q.ar q.x.readies.length q.cr))) (by kernel_rfl) ?_ (fun hHeld => ?_)
      · exact HS.out _ J
      generalize wr.drew = V0 at *
      refine wpAnyH_take (i := 0) (oi := ⟨_, _, _, _, _, _⟩) (v := ?_) rfl (by kernel_rfl) (by kernel_rfl) (by kernel_rfl) (fun _ _ _ h => h) (Or.inl ⟨by rfl, ?_⟩) (by assumption) ?_
      rotate_left 1
      · intro w hSw; (try dsimp only at hSw); go_simp <;> with_reducible rfl
      (try simp only [Act.put]); (try simp only [List.setIfInBounds_toArray]); (try simp only [List.set_cons_succ]); (try simp only [List.set_cons_zero])
      refine wpAnyH_take (i := 1) (oi := ⟨_, _, _, _, _, _⟩) (v := ?_) rfl (by kernel_rfl) (by kernel_rfl) (by kernel_rfl) (fun _ _ _ h => h) (Or.inl ⟨by rfl, ?_⟩) (by assumption) ?_
      rotate_left 1
      · intro w hSw; (try dsimp only at hSw); go_simp <;> with_reducible rfl
      (try simp only [Act.put]); (try simp only [List.setIfInBounds_toArray]); (try simp only [List.set_cons_succ]); (try simp only [List.set_cons_zero])
      refine wpAnyH_take (i := 2) (oi := ⟨_, _, _, _, _, _⟩) (v := ?_) rfl (by kernel_rfl) (by kernel_rfl) (by kernel_rfl) (fun _ _ _ h => h) (Or.inl ⟨by rfl, ?_⟩) (by assumption) ?_
      rotate_left 1
      · intro w hSw; (try dsimp only at hSw); go_simp <;> with_reducible rfl
      (try simp only [Act.put]); (try simp only [List.setIfInBounds_toArray]); (try simp only [List.set_cons_succ]); (try simp only [List.set_cons_zero])
      refine wpAnyH_take (i := 3) (oi := ⟨_, _, _, _, _, _⟩) (v := ?_) rfl (by kernel_rfl) (by kernel_rfl) (by kernel_rfl) (fun _ _ _ h => h) (Or.inl ⟨by rfl, ?_⟩) (by assumption) ?_
      rotate_left 1
      · intro w hSw; (try dsimp only at hSw); go_simp <;> with_reducible rfl
      (try simp only [Act.put]); (try simp only [List.setIfInBounds_toArray]); (try simp only [List.set_cons_succ]); (try simp only [List.set_cons_zero])
      refine wpAnyH_take (i := 4) (oi := ⟨_, _, _, _, _, _⟩) (v := ?_) rfl (by kernel_rfl) (by kernel_rfl) (by kernel_rfl) (fun _ _ _ h => h) (Or.inl ⟨by rfl, ?_⟩) (by assumption) ?_
      rotate_left 1
      · intro w hSw; (try dsimp only at hSw); go_simp <;> with_reducible rfl
      (try simp only [Act.put]); (try simp only [List.setIfInBounds_toArray]); (try simp only [List.set_cons_succ]); (try simp only [List.set_cons_zero])
      refine wpAnyH_take (i := 5) (oi := ⟨_, _, _, _, _, _⟩) (v := ?_) rfl (by kernel_rfl) (by kernel_rfl) (by kernel_rfl) (fun _ _ _ h => h) (Or.inl ⟨by rfl, ?_⟩) (by assumption) ?_
      rotate_left 1
      · intro w hSw; (try dsimp only at hSw); go_simp <;> with_reducible rfl
      (try simp only [Act.put]); (try simp only [List.setIfInBounds_toArray]); (try simp only [List.set_cons_succ]); (try simp only [List.set_cons_zero])
      refine wpAnyH_take (i := 6) (oi := ⟨_, _, _, _, _, _⟩) (v := ?_) rfl (by kernel_rfl) (by kernel_rfl) (by kernel_rfl) (fun _ _ _ h => h) (Or.inl ⟨by rfl, ?_⟩) (by assumption) ?_
      rotate_left 1
      · intro w hSw; (try dsimp only at hSw); go_simp <;> with_reducible rfl
      (try simp only [Act.put]); (try simp only [List.setIfInBounds_toArray]); (try simp only [List.set_cons_succ]); (try simp only [List.set_cons_zero])
      refine wpAnyH_take (i := 7) (oi := ⟨_, _, _, _, _, _⟩) (v := ?_) rfl (by kernel_rfl) (by kernel_rfl) (by kernel_rfl) (fun _ _ _ h => h) (Or.inl ⟨by rfl, ?_⟩) (by assumption) ?_
      rotate_left 1
      · intro w hSw; (try dsimp only at hSw); go_simp <;> with_reducible rfl
      (try simp only [Act.put]); (try simp only [List.setIfInBounds_toArray]); (try simp only [List.set_cons_succ]); (try simp only [List.set_cons_zero])
      refine wpAnyH_take (i := 8) (oi := ⟨_, _, _, _, _, _⟩) (v := ?_) rfl (by kernel_rfl) (by kernel_rfl) (by kernel_rfl) (fun _ _ _ h => h) (Or.inl ⟨by rfl, ?_⟩) (by assumption) ?_
      rotate_left 1
      · intro w hSw; (try dsimp only at hSw); go_simp <;> with_reducible rfl
      (try simp only [Act.put]); (try simp only [List.setIfInBounds_toArray]); (try simp only [List.set_cons_succ]); (try simp only [List.set_cons_zero])
      refine wpAnyH_take (i := 9) (oi := ⟨_, _, _, _, _, _⟩) (v := ?_) rfl (by kernel_rfl) (by kernel_rfl) (by kernel_rfl) (fun _ _ _ h => h) (Or.inl ⟨by rfl, ?_⟩) (by assumption) ?_
      rotate_left 1
      · intro w hSw; (try dsimp only at hSw); go_simp <;> with_reducible rfl
      (try simp only [Act.put]); (try simp only [List.setIfInBounds_toArray]); (try simp only [List.set_cons_succ]); (try simp only [List.set_cons_zero])
      refine wpAnyH_ready (rs := [10]) (by kernel_rfl) (by simp) ?_
      refine AllReadyH.cons (o := ⟨_, _, _, _, _, _⟩) rfl (fun K hK => ?_) AllReadyH.nil
      go_simp
      have hc := HRS.out V0 J
      unfold vn at hc
      refine hc.mono ?_
      rintro e V1 ⟨rfl, k1⟩
      clear hc
      replace J := J.trans k1
      clear k1
      refine hK.out _ _ ?_ (fun hHeld => ?_)
      · exact HS.out _ J
      clear hK K
      (try simp only [Act.put]); (try simp only [List.setIfInBounds_toArray]); (try simp only [List.set_cons_succ]); (try simp only [List.set_cons_zero])
      refine wpAnyH_take (i := 11) (oi := ⟨_, _, _, _, _, _⟩) (v := ?_) rfl (by kernel_rfl) (by kernel_rfl) (by kernel_rfl) (fun _ _ _ h => h) (Or.inl ⟨by rfl, ?_⟩) (by assumption) ?_
      rotate_left 1
      · intro w hSw; (try dsimp only at hSw); go_simp <;> with_reducible rfl
      (try simp only [Act.put]); (try simp only [List.setIfInBounds_toArray]); (try simp only [List.set_cons_succ]); (try simp only [List.set_cons_zero])
      refine wpAnyH_done (by kernel_rfl) ?_ _
      have HKF := Lib.hid (HK.out.trans J)
      clear J
      go_wp2_with fail
      go_roundw
      case rel => exact ⟨k + 1, by omega, by go_num, HKF.out⟩
      case measure => simp [RowKit.intOf]; omega
    · have HKK := Lib.hid K
      clear K
      go_wp2_with fail
      go_ret
      exact ⟨rfl, HJ.out.trans HKK.out⟩
end Go.Proofs.YtbcfkgolhklkaaaDoor
