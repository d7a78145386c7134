/- Texts joined into one, what is needed of them (a program of ours). -/
import Derived.Test.YtbcfkgolhklkaaaDoorEKQ
import Derived.Test.YtbcfkgolhklkaaaDoorEKH
import Derived.Test.YtbcfkgolhklkaaaDoorEKC
import Derived.Test.YtbcfkgolhklkaaaDoorEKD
import Derived.Test.YtbcfkgolhklkaaaDoorEKM
import Derived.Test.YtbcfkgolhklkaaaDoorEKP
namespace Go.Proofs.YtbcfkgolhklkaaaDoor
open Go.RowKit Go.Lib
theorem accS_cons9 (x : S) (xs : List S) (s : S) : accS (x :: xs) s = ((x &&& ~~~s == 0#16) || accS xs s) := by simp [accS]
theorem rAcc8_any (a : Option Addr) (n c : Nat) (l : List S) (s : S) (w : World) (h : Rd w a n c 1 (sl l)) :
    Calls Tryd.prog 106 #[.slice a n c, .int .u16 (sv s)] w fun e w' => e = .returned (.bool (accS l s)) ∧ w = w' := by
  have L := Lib.hid h.lenS
  have s1 := h.small
  have HC := Lib.hid (fun x W => refContains_any s x W)
  go_enter Tryd.func106, Tryd.ntmps106
  go_wp2
  go_loopw [5] (fun v wr => ∃ (k : Nat), k ≤ n ∧ v = .int .i64 k ∧ w = wr ∧ Hid (accS l s = accS (l.drop k) s)) (fun v _ => n - (RowKit.intOf v).toNat)
  case atStart => exact ⟨0, Nat.zero_le _, rfl, rfl, rfl⟩
  case round =>
    obtain ⟨k, hk, rfl, rfl, HI⟩ := hrel
    by_cases hlt : k < n
    · have hc := h.at hlt
      have hs := h.isSome (by omega)
      have hst := HI.out
      rw [dropH L hlt, accS_cons9] at hst
      have hcon := HC.out (at_ l k) w
      cases hq : (at_ l k &&& ~~~s == 0#16) with
      | true =>
        rw [hq] at hcon
        have HJ : Hid (accS l s = true) := by show _ = _; rw [hst, hq]; rfl
        have HX := Lib.hid hcon
        clear hst HI hq hcon
        go_wp2_with (go_at_call 89; refine HX.out.mono ?_; rintro e w2 ⟨rfl, rfl⟩)
        go_ret
        rw [HJ.out]
        exact ⟨rfl, rfl⟩
      | false =>
        rw [hq] at hcon
        have HJ : Hid (accS l s = accS (l.drop (k + 1)) s) := by show _ = _; rw [hst, hq]; rfl
        have HX := Lib.hid hcon
        clear hst HI hq hcon
        go_wp2_with (go_at_call 89; refine HX.out.mono ?_; rintro e w2 ⟨rfl, rfl⟩)
        go_roundw
        case rel => exact ⟨k + 1, by omega, rfl, trivial, HJ⟩
        case measure => simp [RowKit.intOf]; omega
    · have HJ : Hid (accS l s = false) := by show _ = _; rw [HI.out, dropN L hlt]; rfl
      clear HI
      go_wp2
      go_ret
      rw [HJ.out]
      exact ⟨rfl, rfl⟩
end Go.Proofs.YtbcfkgolhklkaaaDoor
namespace Go.Proofs.YtbcfkgolhklkaaaDoor
open Go.RowKit Go.Lib Go.Shelf

theorem posB_cons (t : S) (r : List S) (s : S) : posB (t :: r) s = (sub9 s t || posB r s) := rfl
set_option maxHeartbeats 800000 in
theorem possible9_any (a : Option Addr) (n c : Nat) (f : List S) (s : S) (w : World) (h : Rd w a n c 1 (sl f)) :
    Calls Tryd.prog 108 #[.slice a n c, .int .u16 (sv s)] w fun e w' => e = .returned (.bool (posB f s)) ∧ Keeps w w' := by
  have s1 := h.small
  have l1 := h.lenS
  have L1 := Lib.hid l1; clear l1
  go_enter Tryd.func108, Tryd.ntmps108
  go_wp2
  go_loopw [5] (fun u wr => ∃ k : Nat, k ≤ n ∧ u = .int .i64 k ∧ Keeps w wr ∧ Hid (posB f s = posB (f.drop k) s)) (fun u _ => n - (RowKit.intOf u).toNat)
  case atStart => exact ⟨0, Nat.zero_le _, rfl, Keeps.refl _, rfl⟩
  case round =>
    obtain ⟨k, hk, rfl, K1, HI⟩ := hrel
    by_cases hlt : k < n
    · have g0 := (h.keep K1).at hlt
      have ha := h.isSome (by omega)
      have hdr : f.drop k = at_ f k :: f.drop (k + 1) := drop_at f k (by have := L1.out; omega)
      have HDR := Lib.hid hdr; clear hdr
      generalize at_ f k = y at *
      have hcall := within7_any s y wr
      have HC := Lib.hid hcall; clear hcall
      cases hq : (s &&& ~~~y == 0#16) with
      | true =>
        rw [hq] at HC
        have HQ := Lib.hid hq; clear hq
        go_wp2_with (go_at_call 86; refine HC.out.mono ?_; rintro e w2 ⟨rfl, rfl⟩)
        go_ret
        exact ⟨by rw [HI.out, HDR.out, posB_cons, show sub9 s y = true from HQ.out]; rfl, K1⟩
      | false =>
        rw [hq] at HC
        have HQ := Lib.hid hq; clear hq
        go_wp2_with (go_at_call 86; refine HC.out.mono ?_; rintro e w2 ⟨rfl, rfl⟩)
        go_roundw
        case rel => exact ⟨k + 1, by omega, by go_num, K1, hrfl <| by rw [HI.out, HDR.out, posB_cons, show sub9 s y = false from HQ.out]; rfl⟩
        case measure => simp [RowKit.intOf]; omega
    · go_wp2
      go_ret
      exact ⟨by rw [HI.out, List.drop_eq_nil_iff.2 (by have := L1.out; omega)]; rfl, K1⟩
end Go.Proofs.YtbcfkgolhklkaaaDoor
namespace Go.Proofs.YtbcfkgolhklkaaaDoor
open Go.RowKit Go.Lib Go.Shelf

def corTo (byz : S) (k : Nat) : List Nat := (List.range k).filter fun i => !((byz >>> i) &&& 1#16 == 1#16)
theorem corTo_succ (byz : S) (k : Nat) : corTo byz (k + 1) = corTo byz k ++ (if ((byz >>> k) &&& 1#16 == 1#16) = true then [] else [k]) := by
  unfold corTo
  rw [List.range_succ, List.filter_append]
  cases h : ((byz >>> k) &&& 1#16 == 1#16) <;> simp [h]
theorem corTo_le (byz : S) (k : Nat) : (corTo byz k).length ≤ k := Nat.le_trans (List.length_filter_le _ _) (by simp)
theorem corTo_eq (byz : S) (n : Nat) : corTo byz n = corrL n byz := by
  unfold corTo corrL
  refine List.filter_congr fun i hi => ?_
  rw [hbT]
  unfold corr
  rw [decide_eq_true (List.mem_range.1 hi), Bool.true_and]
  rfl
set_option maxHeartbeats 800000 in
theorem rcorrect9_any (n : Nat) (byz : S) (w : World) (hn : n ≤ 12) : Calls Tryd.prog 59 #[.int .i64 n, .int .u16 (sv byz)] w fun e w' => ∃ v, e = .returned v ∧ Own 3 1 w w' v (corrL n byz).length (il (corrL n byz)) := by
  rw [← corTo_eq]
  go_enter Tryd.func59, Tryd.ntmps59
  go_wp2
  go_loopw [5, 6] (fun u v wr => ∃ k : Nat, k ≤ n ∧ v = .int .i64 k ∧ Own 3 1 w wr u (corTo byz k).length (il (corTo byz k))) (fun _ v _ => n - (RowKit.intOf v).toNat)
  case atStart => exact ⟨0, Nat.zero_le _, rfl, Own.nil _ _ (Keeps.refl _)⟩
  case round =>
    obtain ⟨k, hk, rfl, hO⟩ := hrel
    by_cases hlt : k < n
    · have hcall := has7_any byz k (by omega) wr
      have hst := corTo_succ byz k
      have hle := corTo_le byz k
      obtain ⟨a2, c2, rfl, hRa⟩ := hO.rd
      cases hb : ((byz >>> k) &&& 1#16 == 1#16)
      · rw [hb] at hcall
        rw [hb, if_neg (by simp)] at hst
        generalize corTo byz k = cur at *
        have HC := Lib.hid hcall; have HST := Lib.hid hst; have HO := Lib.hid hO; have HLE := Lib.hid hle
        clear hcall hst hO hRa hle
        go_wp2_with (first | (at_builtin; refine wp_app tyI rfl _ _ rfl (HO.out.alloc _) rfl rfl (rd_new 3 1 _ [.int .i64 k] 1 (by decide) rfl) (il_oneCell [k]) (by have := HLE.out; omega) ?_) | (go_at_call 47; refine HC.out.mono ?_; rintro e w2 ⟨rfl, rfl⟩))
        intro v4 w4 hO4 _
        have HO4 := Lib.hid hO4
        clear hO4
        go_wp2_with fail
        go_roundw
        case rel =>
          refine ⟨k + 1, by omega, by go_num, ?_⟩
          rw [HST.out]
          unfold il
          rw [List.map_append, List.length_append]
          exact HO4.out
        case measure => simp [RowKit.intOf]; omega
      · rw [hb] at hcall
        rw [hb, if_pos rfl, List.append_nil] at hst
        generalize corTo byz k = cur at *
        have HC := Lib.hid hcall; have HST := Lib.hid hst; have HO := Lib.hid hO
        clear hcall hst hO hRa
        go_wp2_with (go_at_call 47; refine HC.out.mono ?_; rintro e w2 ⟨rfl, rfl⟩)
        go_roundw
        case rel => exact ⟨k + 1, by omega, by go_num, by rw [HST.out]; exact HO.out⟩
        case measure => simp [RowKit.intOf]; omega
    · have e : k = n := by omega
      subst e
      go_wp2
      go_ret
      exact ⟨_, rfl, hO⟩
end Go.Proofs.YtbcfkgolhklkaaaDoor
namespace Go.Proofs.YtbcfkgolhklkaaaDoor

section
variable {f b : List S} {x : Nd} {i : Nat} {v : Str}
theorem h_out {src : Int} {kind : Int} (h : src < 0 ∨ 12 ≤ src) : handle f b x src kind v = (x, []) := by unfold handle; rw [if_pos h]
theorem h_other {kind : Int} (hi : i < 12) (h1 : ¬ kind = 1) (h2 : ¬ kind = 2) (h3 : ¬ kind = 3) : handle f b x i kind v = (x, []) := by unfold handle; rw [if_neg (by omega), if_neg h1, if_neg h2, if_neg h3]
theorem h_s (hi : i < 12) : handle f b x i 1 v = (⟨x.id, (if (!x.hasE) = true then v else x.echoed), true, x.readied, x.hasR, x.delivered, x.hasD, x.echoes, x.readies⟩, if (!x.hasE) = true then [⟨2, x.id, -1, v⟩] else []) := by
  unfold handle
  rw [if_neg (by omega), if_pos rfl]
  obtain ⟨id, ec, hE, re, hR, de, hD, es, rs⟩ := x
  cases hE <;> rfl
theorem h_e0 (hi : i < 12) (hk : knows x.echoes i = true) : handle f b x i 2 v = (x, []) := by
  unfold handle
  rw [if_neg (by omega), if_neg (by decide), if_pos rfl, Int.toNat_natCast, if_pos hk]
theorem h_e (hi : i < 12) (hk : ¬ knows x.echoes i = true) : handle f b x i 2 v = (⟨x.id, x.echoed, x.hasE, (if (!x.hasR && accB f (getH (putH x.echoes i v) v)) = true then v else x.readied), x.hasR || accB f (getH (putH x.echoes i v) v), x.delivered, x.hasD, putH x.echoes i v, x.readies⟩,
    if (!x.hasR && accB f (getH (putH x.echoes i v) v)) = true then [⟨3, x.id, -1, v⟩] else []) := by
  unfold handle
  rw [if_neg (by omega), if_neg (by decide), if_pos rfl, Int.toNat_natCast, if_neg hk]
  obtain ⟨id, ec, hE, re, hR, de, hD, es, rs⟩ := x
  unfold rdy
  dsimp only
  cases hR <;> cases accB f (getH (putH es i v) v) <;> rfl
theorem h_r0 (hi : i < 12) (hk : knows x.readies i = true) : handle f b x i 3 v = (x, []) := by
  unfold handle
  rw [if_neg (by omega), if_neg (by decide), if_neg (by decide), if_pos rfl, Int.toNat_natCast, if_pos hk]
theorem h_r (hi : i < 12) (hk : ¬ knows x.readies i = true) : handle f b x i 3 v = (⟨x.id, x.echoed, x.hasE, (if (!x.hasR && !posB b (getH (putH x.readies i v) v)) = true then v else x.readied), x.hasR || !posB b (getH (putH x.readies i v) v),
    (if (!x.hasD && accB f (getH (putH x.readies i v) v)) = true then v else x.delivered), x.hasD || accB f (getH (putH x.readies i v) v), x.echoes, putH x.readies i v⟩,
    if (!x.hasR && !posB b (getH (putH x.readies i v) v)) = true then [⟨3, x.id, -1, v⟩] else []) := by
  unfold handle
  rw [if_neg (by omega), if_neg (by decide), if_neg (by decide), if_pos rfl, Int.toNat_natCast, if_neg hk]
  obtain ⟨id, ec, hE, re, hR, de, hD, es, rs⟩ := x
  unfold rdy
  dsimp only
  cases hR <;> cases hD <;> cases posB b (getH (putH rs i v) v) <;> cases accB f (getH (putH rs i v) v) <;> rfl
end
end Go.Proofs.YtbcfkgolhklkaaaDoor
namespace Go.Proofs.YtbcfkgolhklkaaaDoor
open Go.RowKit Go.Lib Go.Shelf

/-- a row of what was heard: it came in, or it was made -/
def RP (w W : World) (a : Option Addr) (n c : Nat) (xs : List Value) : Prop := Rd W a n c 2 xs ∧ (Rd w a n c 2 xs ∨ Own 103 2 w W (.slice a n c) n xs)
theorem RP.keep {w W W' : World} {a : Option Addr} {n c : Nat} {xs : List Value} (h : RP w W a n c xs) (k : Keeps W W') (_ : Keeps w W) : RP w W' a n c xs :=
  ⟨h.1.keep k, h.2.imp id fun o => o.keep k⟩
theorem RP.set {w W : World} {a : Option Addr} {n c : Nat} {xs : List Value} (h : RP w W a n c xs) {C : Nat} {T : TypeId} {cs : Array Value} (hC : Blk W C T cs) (hT : T ≠ 103) (hlo : w.heap.size ≤ C) (J : Keeps w W) (i : Nat) (u : Value) : RP w (W.setCell ⟨C, i, none⟩ u) a n c xs := by
  rcases h.2 with h2 | h2
  · exact ⟨h2.keep (keeps_set J hlo i u), .inl h2⟩
  · have h3 := own_oth9 h2 hC hT hlo i u
    exact ⟨h3.row0.rd, .inr h3⟩
theorem RP.set9 {w W : World} {a : Option Addr} {n c : Nat} {xs : List Value} (h : RP w W a n c xs) {C : Nat} {T : TypeId} {cs : Array Value} (hC : Blk W C T cs) (hT : T ≠ 103) (hlo : w.heap.size ≤ C) (J : Keeps w W) (u0 u1 u2 u3 u4 u5 u6 u7 u8 : Value) : RP w ((((((((((W.setCell ⟨C, 0, none⟩ (u0)).setCell ⟨C, 1, none⟩ (u1)).setCell ⟨C, 2, none⟩ (u2)).setCell ⟨C, 3, none⟩ (u3)).setCell ⟨C, 4, none⟩ (u4)).setCell ⟨C, 5, none⟩ (u5)).setCell ⟨C, 6, none⟩ (u6)).setCell ⟨C, 7, none⟩ (u7)).setCell ⟨C, 8, none⟩ (u8))) a n c xs := by
  rcases h.2 with h2 | h2
  · exact ⟨h2.keep (keeps_set9 J hlo u0 u1 u2 u3 u4 u5 u6 u7 u8), .inl h2⟩
  · have h3 := own_other9 h2 hC hT hlo u0 u1 u2 u3 u4 u5 u6 u7 u8
    exact ⟨h3.row0.rd, .inr h3⟩
def RPN (w W : World) (z : NA) : Prop := RP w W z.ae z.x.echoes.length z.ce (hl z.x.echoes) ∧ RP w W z.ar z.x.readies.length z.cr (hl z.x.readies)
set_option maxRecDepth 200000 in
set_option maxHeartbeats 4000000 in
theorem rhandle39_any (a1 : Option Addr) (m1 c1 : Nat) (f : List S) (a2 : Option Addr) (m2 c2 : Nat) (b : List S) (z : NA) (src kind : Int) (v : Str) (w0 w : World) (J0 : Keeps w0 w) (hf : Rd w a1 m1 c1 1 (sl f)) (hb : Rd w a2 m2 c2 1 (sl b)) (hz : RPN w0 w z) (hs1 : z.x.echoes.length ≤ 1000) (hs2 : z.x.readies.length ≤ 1000) :
    Calls Tryd.prog 84 #[.slice a1 m1 c1, .slice a2 m2 c2, vn z, .int .i64 src, .int .i64 kind, .string v] w fun e w' => ∃ z' u, e = .returned (.tuple #[vn z', u]) ∧ z'.x = (handle f b z.x src kind v).1 ∧ RPN w0 w' z' ∧
      Own 53 4 w w' u (handle f b z.x src kind v).2.length (cl (handle f b z.x src kind v).2) := by
  have hs : ∀ (W : World) o, (W.alloc o).heap.size = W.heap.size + 1 := fun W o => World.size_alloc ..
  have k1 := (Keeps.refl w).alloc (.cells #[.int .i64 z.x.id, .string z.x.echoed, .bool z.x.hasE, .string z.x.readied, .bool z.x.hasR, .string z.x.delivered, .bool z.x.hasD, .slice z.ae z.x.echoes.length z.ce, .slice z.ar z.x.readies.length z.cr] 46)
  have k2 := (Keeps.refl (w.alloc (.cells #[.int .i64 z.x.id, .string z.x.echoed, .bool z.x.hasE, .string z.x.readied, .bool z.x.hasR, .string z.x.delivered, .bool z.x.hasD, .slice z.ae z.x.echoes.length z.ce, .slice z.ar z.x.readies.length z.cr] 46))).alloc (.cells #[.int .i64 0, .string ⟨#[]⟩, .bool false, .string ⟨#[]⟩, .bool false, .string ⟨#[]⟩, .bool false, .slice none 0 0, .slice none 0 0] 46)
  have hbx := (Blk.new w 46 #[.int .i64 z.x.id, .string z.x.echoed, .bool z.x.hasE, .string z.x.readied, .bool z.x.hasR, .string z.x.delivered, .bool z.x.hasD, .slice z.ae z.x.echoes.length z.ce, .slice z.ar z.x.readies.length z.cr]).keep k2
  have hbr := Blk.new (w.alloc (.cells #[.int .i64 z.x.id, .string z.x.echoed, .bool z.x.hasE, .string z.x.readied, .bool z.x.hasR, .string z.x.delivered, .bool z.x.hasD, .slice z.ae z.x.echoes.length z.ce, .slice z.ar z.x.readies.length z.cr] 46)) 46 #[.int .i64 0, .string ⟨#[]⟩, .bool false, .string ⟨#[]⟩, .bool false, .string ⟨#[]⟩, .bool false, .slice none 0 0, .slice none 0 0]
  rw [hs] at hbr
  have J := k1.trans k2
  have he : RP w0 _ z.ae z.x.echoes.length z.ce (hl z.x.echoes) := hz.1.keep J J0
  have hr : RP w0 _ z.ar z.x.readies.length z.cr (hl z.x.readies) := hz.2.keep J J0
  have HF := Lib.hid hf; have HB := Lib.hid hb; have HZ := Lib.hid hz
  clear hs k1 k2 hf hb hz
  unfold vn
  go_enter Tryd.func84, Tryd.ntmps84
  go_upto_region 1 with fail
  generalize (w.alloc (.cells #[.int .i64 z.x.id, .string z.x.echoed, .bool z.x.hasE, .string z.x.readied, .bool z.x.hasR, .string z.x.delivered, .bool z.x.hasD, .slice z.ae z.x.echoes.length z.ce, .slice z.ar z.x.readies.length z.cr] 46)).alloc (.cells #[.int .i64 0, .string ⟨#[]⟩, .bool false, .string ⟨#[]⟩, .bool false, .string ⟨#[]⟩, .bool false, .slice none 0 0, .slice none 0 0] 46) = w2 at *
  obtain ⟨BX, hBX⟩ : ∃ B, B = w.heap.size := ⟨_, rfl⟩
  obtain ⟨BR, hBR⟩ : ∃ B, B = w.heap.size + 1 := ⟨_, rfl⟩
  rw [← hBR, ← hBX]
  rw [← hBR] at hbr
  rw [← hBX] at hbx
  have hlx : w.heap.size ≤ BX := by omega
  have hlr : w.heap.size ≤ BR := by omega
  have n1 : BR ≠ BX := by omega
  have hlx0 : w0.heap.size ≤ BX := Nat.le_trans J0.size hlx
  have hlr0 : w0.heap.size ≤ BR := Nat.le_trans J0.size hlr
  clear hBX hBR
  by_cases hro : src < 0 ∨ 12 ≤ src
  · have HRO := Lib.hid hro
    by_cases h1 : src < 0
    · clear hro
      have HV := Lib.hid (show handle f b z.x src kind v = ((⟨z.x.id, z.x.echoed, z.x.hasE, z.x.readied, z.x.hasR, z.x.delivered, z.x.hasD, z.x.echoes, z.x.readies⟩ : Nd), []) by exact h_out HRO.out)
      obtain ⟨c0, c1, c2, c3, c4, c5, c6, c7, c8⟩ := Blk.c9 hbx
      obtain ⟨d0, d1, d2, d3, d4, d5, d6, d7, d8⟩ := Blk.c9 hbr
      obtain ⟨g0, g1, g2, g3, g4, g5, g6, g7, g8⟩ := Blk.f9 hbr
      have HBX := Lib.hid hbx; have HBR := Lib.hid hbr; have HE := Lib.hid he; have HR := Lib.hid hr; have HJ := Lib.hid J
      clear hbx hbr he hr J
      go_wp2_with fail
      clear c0 c1 c2 c3 c4 c5 c6 c7 c8
      clear d0 d1 d2 d3 d4 d5 d6 d7 d8
      clear g0 g1 g2 g3 g4 g5 g6 g7 g8
      refine bodyPost_ret (resNode (z := (⟨⟨z.x.id, z.x.echoed, z.x.hasE, z.x.readied, z.x.hasR, z.x.delivered, z.x.hasD, z.x.echoes, z.x.readies⟩, z.ae, z.ce, z.ar, z.cr⟩ : NA)) rfl (HBR.out.set9 (.int .i64 z.x.id) (.string z.x.echoed) (.bool z.x.hasE) (.string z.x.readied) (.bool z.x.hasR) (.string z.x.delivered) (.bool z.x.hasD) (.slice z.ae z.x.echoes.length z.ce) (.slice z.ar z.x.readies.length z.cr)) rfl rfl) rfl ?_
      exact ⟨(⟨⟨z.x.id, z.x.echoed, z.x.hasE, z.x.readied, z.x.hasR, z.x.delivered, z.x.hasD, z.x.echoes, z.x.readies⟩, z.ae, z.ce, z.ar, z.cr⟩ : NA), _, rfl, by rw [HV.out], ⟨HE.out.set9 HBR.out (by decide) hlr0 (J0.trans HJ.out) (.int .i64 z.x.id) (.string z.x.echoed) (.bool z.x.hasE) (.string z.x.readied) (.bool z.x.hasR) (.string z.x.delivered) (.bool z.x.hasD) (.slice z.ae z.x.echoes.length z.ce) (.slice z.ar z.x.readies.length z.cr), HR.out.set9 HBR.out (by decide) hlr0 (J0.trans HJ.out) (.int .i64 z.x.id) (.string z.x.echoed) (.bool z.x.hasE) (.string z.x.readied) (.bool z.x.hasR) (.string z.x.delivered) (.bool z.x.hasD) (.slice z.ae z.x.echoes.length z.ce) (.slice z.ar z.x.readies.length z.cr)⟩, by rw [HV.out]; exact .nil _ _ (keeps_set9 HJ.out hlr (.int .i64 z.x.id) (.string z.x.echoed) (.bool z.x.hasE) (.string z.x.readied) (.bool z.x.hasR) (.string z.x.delivered) (.bool z.x.hasD) (.slice z.ae z.x.echoes.length z.ce) (.slice z.ar z.x.readies.length z.cr))⟩
    · have h2 : 12 ≤ src := by have := HRO.out; omega
      clear hro
      have HV := Lib.hid (show handle f b z.x src kind v = ((⟨z.x.id, z.x.echoed, z.x.hasE, z.x.readied, z.x.hasR, z.x.delivered, z.x.hasD, z.x.echoes, z.x.readies⟩ : Nd), []) by exact h_out HRO.out)
      obtain ⟨c0, c1, c2, c3, c4, c5, c6, c7, c8⟩ := Blk.c9 hbx
      obtain ⟨d0, d1, d2, d3, d4, d5, d6, d7, d8⟩ := Blk.c9 hbr
      obtain ⟨g0, g1, g2, g3, g4, g5, g6, g7, g8⟩ := Blk.f9 hbr
      have HBX := Lib.hid hbx; have HBR := Lib.hid hbr; have HE := Lib.hid he; have HR := Lib.hid hr; have HJ := Lib.hid J
      clear hbx hbr he hr J
      go_wp2_with fail
      clear c0 c1 c2 c3 c4 c5 c6 c7 c8
      clear d0 d1 d2 d3 d4 d5 d6 d7 d8
      clear g0 g1 g2 g3 g4 g5 g6 g7 g8
      refine bodyPost_ret (resNode (z := (⟨⟨z.x.id, z.x.echoed, z.x.hasE, z.x.readied, z.x.hasR, z.x.delivered, z.x.hasD, z.x.echoes, z.x.readies⟩, z.ae, z.ce, z.ar, z.cr⟩ : NA)) rfl (HBR.out.set9 (.int .i64 z.x.id) (.string z.x.echoed) (.bool z.x.hasE) (.string z.x.readied) (.bool z.x.hasR) (.string z.x.delivered) (.bool z.x.hasD) (.slice z.ae z.x.echoes.length z.ce) (.slice z.ar z.x.readies.length z.cr)) rfl rfl) rfl ?_
      exact ⟨(⟨⟨z.x.id, z.x.echoed, z.x.hasE, z.x.readied, z.x.hasR, z.x.delivered, z.x.hasD, z.x.echoes, z.x.readies⟩, z.ae, z.ce, z.ar, z.cr⟩ : NA), _, rfl, by rw [HV.out], ⟨HE.out.set9 HBR.out (by decide) hlr0 (J0.trans HJ.out) (.int .i64 z.x.id) (.string z.x.echoed) (.bool z.x.hasE) (.string z.x.readied) (.bool z.x.hasR) (.string z.x.delivered) (.bool z.x.hasD) (.slice z.ae z.x.echoes.length z.ce) (.slice z.ar z.x.readies.length z.cr), HR.out.set9 HBR.out (by decide) hlr0 (J0.trans HJ.out) (.int .i64 z.x.id) (.string z.x.echoed) (.bool z.x.hasE) (.string z.x.readied) (.bool z.x.hasR) (.string z.x.delivered) (.bool z.x.hasD) (.slice z.ae z.x.echoes.length z.ce) (.slice z.ar z.x.readies.length z.cr)⟩, by rw [HV.out]; exact .nil _ _ (keeps_set9 HJ.out hlr (.int .i64 z.x.id) (.string z.x.echoed) (.bool z.x.hasE) (.string z.x.readied) (.bool z.x.hasR) (.string z.x.delivered) (.bool z.x.hasD) (.slice z.ae z.x.echoes.length z.ce) (.slice z.ar z.x.readies.length z.cr))⟩
  obtain ⟨i, rfl⟩ : ∃ i : Nat, src = (i : Int) := ⟨src.toNat, by omega⟩
  have hi : i < 12 := by omega
  have HI := Lib.hid hi
  clear hro
  by_cases hk1 : kind = 1
  · subst hk1
    cases hq : z.x.hasE with
    | true =>
      have HV := Lib.hid (show handle f b z.x i 1 v = ((⟨z.x.id, z.x.echoed, true, z.x.readied, z.x.hasR, z.x.delivered, z.x.hasD, z.x.echoes, z.x.readies⟩ : Nd), []) by rw [h_s HI.out, hq]; rfl)
      rw [hq] at hbx
      clear hq
      obtain ⟨c0, c1, c2, c3, c4, c5, c6, c7, c8⟩ := Blk.c9 hbx
      obtain ⟨d0, d1, d2, d3, d4, d5, d6, d7, d8⟩ := Blk.c9 hbr
      obtain ⟨g0, g1, g2, g3, g4, g5, g6, g7, g8⟩ := Blk.f9 hbr
      have HBX := Lib.hid hbx; have HBR := Lib.hid hbr; have HE := Lib.hid he; have HR := Lib.hid hr; have HJ := Lib.hid J
      clear hbx hbr he hr J
      go_wp2_with fail
      clear c0 c1 c2 c3 c4 c5 c6 c7 c8
      clear d0 d1 d2 d3 d4 d5 d6 d7 d8
      clear g0 g1 g2 g3 g4 g5 g6 g7 g8
      refine bodyPost_ret (resNode (z := (⟨⟨z.x.id, z.x.echoed, true, z.x.readied, z.x.hasR, z.x.delivered, z.x.hasD, z.x.echoes, z.x.readies⟩, z.ae, z.ce, z.ar, z.cr⟩ : NA)) rfl (HBR.out.set9 (.int .i64 z.x.id) (.string z.x.echoed) (.bool true) (.string z.x.readied) (.bool z.x.hasR) (.string z.x.delivered) (.bool z.x.hasD) (.slice z.ae z.x.echoes.length z.ce) (.slice z.ar z.x.readies.length z.cr)) rfl rfl) rfl ?_
      exact ⟨(⟨⟨z.x.id, z.x.echoed, true, z.x.readied, z.x.hasR, z.x.delivered, z.x.hasD, z.x.echoes, z.x.readies⟩, z.ae, z.ce, z.ar, z.cr⟩ : NA), _, rfl, by rw [HV.out], ⟨HE.out.set9 HBR.out (by decide) hlr0 (J0.trans HJ.out) (.int .i64 z.x.id) (.string z.x.echoed) (.bool true) (.string z.x.readied) (.bool z.x.hasR) (.string z.x.delivered) (.bool z.x.hasD) (.slice z.ae z.x.echoes.length z.ce) (.slice z.ar z.x.readies.length z.cr), HR.out.set9 HBR.out (by decide) hlr0 (J0.trans HJ.out) (.int .i64 z.x.id) (.string z.x.echoed) (.bool true) (.string z.x.readied) (.bool z.x.hasR) (.string z.x.delivered) (.bool z.x.hasD) (.slice z.ae z.x.echoes.length z.ce) (.slice z.ar z.x.readies.length z.cr)⟩, by rw [HV.out]; exact .nil _ _ (keeps_set9 HJ.out hlr (.int .i64 z.x.id) (.string z.x.echoed) (.bool true) (.string z.x.readied) (.bool z.x.hasR) (.string z.x.delivered) (.bool z.x.hasD) (.slice z.ae z.x.echoes.length z.ce) (.slice z.ar z.x.readies.length z.cr))⟩
    | false =>
      have HV := Lib.hid (show handle f b z.x i 1 v = ((⟨z.x.id, v, true, z.x.readied, z.x.hasR, z.x.delivered, z.x.hasD, z.x.echoes, z.x.readies⟩ : Nd), [(⟨2, z.x.id, -1, v⟩ : Ct)]) by rw [h_s HI.out, hq]; rfl)
      rw [hq] at hbx
      clear hq
      obtain ⟨c0, c1, c2, c3, c4, c5, c6, c7, c8⟩ := Blk.c9 hbx
      obtain ⟨q0, q1, q2, q3, q4, q5, q6, q7, q8⟩ := Blk.f9 hbx
      go_upto_region 8 with fail
      clear c0 c1 c2 c3 c4 c5 c6 c7 c8
      clear q0 q1 q2 q3 q4 q5 q6 q7 q8
      replace he := he.set hbx (by decide) hlx0 (J0.trans J) 2 (.bool true)
      replace hr := hr.set hbx (by decide) hlx0 (J0.trans J) 2 (.bool true)
      replace hbr := hbr.setOther n1 2 (.bool true)
      replace J := keeps_set J hlx 2 (.bool true)
      replace hbx := hbx.set 2 (.bool true)
      simp only [List.setIfInBounds_toArray, List.set_cons_succ, List.set_cons_zero] at hbx
      generalize w2.setCell ⟨BX, 2, none⟩ (.bool true) = w3 at *
      replace he := he.set hbx (by decide) hlx0 (J0.trans J) 1 (.string v)
      replace hr := hr.set hbx (by decide) hlx0 (J0.trans J) 1 (.string v)
      replace hbr := hbr.setOther n1 1 (.string v)
      replace J := keeps_set J hlx 1 (.string v)
      replace hbx := hbx.set 1 (.string v)
      simp only [List.setIfInBounds_toArray, List.set_cons_succ, List.set_cons_zero] at hbx
      generalize w3.setCell ⟨BX, 1, none⟩ (.string v) = w4 at *
      obtain ⟨c0, _, _, _, _, _, _, _, _⟩ := Blk.c9 hbx
      have ho := Own.made (e := 53) (sz := 4) J (cl [(⟨2, z.x.id, -1, v⟩ : Ct)]) 1 (by decide) rfl
      have ka := (Keeps.refl w4).alloc (.cells (cl [(⟨2, z.x.id, -1, v⟩ : Ct)]).toArray 53)
      replace he := he.keep ka (J0.trans J)
      replace hr := hr.keep ka (J0.trans J)
      replace hbx := hbx.keep ka
      replace hbr := hbr.keep ka
      replace J := J.trans ka
      clear ka
      have hO := ho
      clear ho
      go_upto_region 21 with fail
      clear c0
      generalize hw5 : w4.alloc (.cells #[.int .i64 2, .int .i64 z.x.id, .int .i64 (-1), .string v] 53) = w5
      change w4.alloc (.cells (cl [(⟨2, z.x.id, -1, v⟩ : Ct)]).toArray 53) = w5 at hw5
      rw [hw5] at hbx hbr he hr J hO
      clear hw5
      obtain ⟨c0, c1, c2, c3, c4, c5, c6, c7, c8⟩ := Blk.c9 hbx
      obtain ⟨d0, d1, d2, d3, d4, d5, d6, d7, d8⟩ := Blk.c9 hbr
      obtain ⟨g0, g1, g2, g3, g4, g5, g6, g7, g8⟩ := Blk.f9 hbr
      have HBX := Lib.hid hbx; have HBR := Lib.hid hbr; have HE := Lib.hid he; have HR := Lib.hid hr; have HJ := Lib.hid J
      have HO := Lib.hid hO
      clear hbx hbr he hr J hO
      go_wp2_with fail
      clear c0 c1 c2 c3 c4 c5 c6 c7 c8
      clear d0 d1 d2 d3 d4 d5 d6 d7 d8
      clear g0 g1 g2 g3 g4 g5 g6 g7 g8
      refine bodyPost_ret (resNode (z := (⟨⟨z.x.id, v, true, z.x.readied, z.x.hasR, z.x.delivered, z.x.hasD, z.x.echoes, z.x.readies⟩, z.ae, z.ce, z.ar, z.cr⟩ : NA)) rfl (HBR.out.set9 (.int .i64 z.x.id) (.string v) (.bool true) (.string z.x.readied) (.bool z.x.hasR) (.string z.x.delivered) (.bool z.x.hasD) (.slice z.ae z.x.echoes.length z.ce) (.slice z.ar z.x.readies.length z.cr)) rfl rfl) rfl ?_
      exact ⟨(⟨⟨z.x.id, v, true, z.x.readied, z.x.hasR, z.x.delivered, z.x.hasD, z.x.echoes, z.x.readies⟩, z.ae, z.ce, z.ar, z.cr⟩ : NA), _, rfl, by rw [HV.out], ⟨HE.out.set9 HBR.out (by decide) hlr0 (J0.trans HJ.out) (.int .i64 z.x.id) (.string v) (.bool true) (.string z.x.readied) (.bool z.x.hasR) (.string z.x.delivered) (.bool z.x.hasD) (.slice z.ae z.x.echoes.length z.ce) (.slice z.ar z.x.readies.length z.cr), HR.out.set9 HBR.out (by decide) hlr0 (J0.trans HJ.out) (.int .i64 z.x.id) (.string v) (.bool true) (.string z.x.readied) (.bool z.x.hasR) (.string z.x.delivered) (.bool z.x.hasD) (.slice z.ae z.x.echoes.length z.ce) (.slice z.ar z.x.readies.length z.cr)⟩, by rw [HV.out]; exact own_other9 HO.out HBR.out (by decide) hlr (.int .i64 z.x.id) (.string v) (.bool true) (.string z.x.readied) (.bool z.x.hasR) (.string z.x.delivered) (.bool z.x.hasD) (.slice z.ae z.x.echoes.length z.ce) (.slice z.ar z.x.readies.length z.cr)⟩
  by_cases hk2 : kind = 2
  · subst hk2
    have hcl := rheard9_any z.ae z.ce z.x.echoes i v w2 (HZ.out.1.1.keep J) (by omega) (by omega)
    unfold RetHd at hcl
    by_cases hkn : knows z.x.echoes i = true
    · simp only [if_pos hkn] at hcl
      have HC := Lib.hid hcl
      have HKN := Lib.hid hkn
      clear hcl hkn
      have HV := Lib.hid (show handle f b z.x i 2 v = ((⟨z.x.id, z.x.echoed, z.x.hasE, z.x.readied, z.x.hasR, z.x.delivered, z.x.hasD, z.x.echoes, z.x.readies⟩ : Nd), []) by exact h_e0 HI.out HKN.out)
      obtain ⟨c0, c1, c2, c3, c4, c5, c6, c7, c8⟩ := Blk.c9 hbx
      obtain ⟨q0, q1, q2, q3, q4, q5, q6, q7, q8⟩ := Blk.f9 hbx
      go_wp2_with fail
      refine HC.out.mono ?_
      rintro e w3 ⟨rfl, k3⟩
      clear c0 c1 c2 c3 c4 c5 c6 c7 c8
      clear q0 q1 q2 q3 q4 q5 q6 q7 q8
      clear HC
      replace he := he.keep k3 (J0.trans J)
      replace hr := hr.keep k3 (J0.trans J)
      replace hbx := hbx.keep k3
      replace hbr := hbr.keep k3
      replace J := J.trans k3
      clear k3
      obtain ⟨c0, c1, c2, c3, c4, c5, c6, c7, c8⟩ := Blk.c9 hbx
      obtain ⟨q0, q1, q2, q3, q4, q5, q6, q7, q8⟩ := Blk.f9 hbx
      go_upto_region 12 with fail
      clear c0 c1 c2 c3 c4 c5 c6 c7 c8
      clear q0 q1 q2 q3 q4 q5 q6 q7 q8
      replace he := he.set hbx (by decide) hlx0 (J0.trans J) 7 (.slice z.ae z.x.echoes.length z.ce)
      replace hr := hr.set hbx (by decide) hlx0 (J0.trans J) 7 (.slice z.ae z.x.echoes.length z.ce)
      replace hbr := hbr.setOther n1 7 (.slice z.ae z.x.echoes.length z.ce)
      replace J := keeps_set J hlx 7 (.slice z.ae z.x.echoes.length z.ce)
      replace hbx := hbx.set 7 (.slice z.ae z.x.echoes.length z.ce)
      simp only [List.setIfInBounds_toArray, List.set_cons_succ, List.set_cons_zero] at hbx
      generalize w3.setCell ⟨BX, 7, none⟩ (.slice z.ae z.x.echoes.length z.ce) = w4 at *
      obtain ⟨c0, c1, c2, c3, c4, c5, c6, c7, c8⟩ := Blk.c9 hbx
      obtain ⟨d0, d1, d2, d3, d4, d5, d6, d7, d8⟩ := Blk.c9 hbr
      obtain ⟨g0, g1, g2, g3, g4, g5, g6, g7, g8⟩ := Blk.f9 hbr
      have HBX := Lib.hid hbx; have HBR := Lib.hid hbr; have HE := Lib.hid he; have HR := Lib.hid hr; have HJ := Lib.hid J
      clear hbx hbr he hr J
      go_wp2_with fail
      clear c0 c1 c2 c3 c4 c5 c6 c7 c8
      clear d0 d1 d2 d3 d4 d5 d6 d7 d8
      clear g0 g1 g2 g3 g4 g5 g6 g7 g8
      refine bodyPost_ret (resNode (z := (⟨⟨z.x.id, z.x.echoed, z.x.hasE, z.x.readied, z.x.hasR, z.x.delivered, z.x.hasD, z.x.echoes, z.x.readies⟩, z.ae, z.ce, z.ar, z.cr⟩ : NA)) rfl (HBR.out.set9 (.int .i64 z.x.id) (.string z.x.echoed) (.bool z.x.hasE) (.string z.x.readied) (.bool z.x.hasR) (.string z.x.delivered) (.bool z.x.hasD) (.slice z.ae z.x.echoes.length z.ce) (.slice z.ar z.x.readies.length z.cr)) rfl rfl) rfl ?_
      exact ⟨(⟨⟨z.x.id, z.x.echoed, z.x.hasE, z.x.readied, z.x.hasR, z.x.delivered, z.x.hasD, z.x.echoes, z.x.readies⟩, z.ae, z.ce, z.ar, z.cr⟩ : NA), _, rfl, by rw [HV.out], ⟨HE.out.set9 HBR.out (by decide) hlr0 (J0.trans HJ.out) (.int .i64 z.x.id) (.string z.x.echoed) (.bool z.x.hasE) (.string z.x.readied) (.bool z.x.hasR) (.string z.x.delivered) (.bool z.x.hasD) (.slice z.ae z.x.echoes.length z.ce) (.slice z.ar z.x.readies.length z.cr), HR.out.set9 HBR.out (by decide) hlr0 (J0.trans HJ.out) (.int .i64 z.x.id) (.string z.x.echoed) (.bool z.x.hasE) (.string z.x.readied) (.bool z.x.hasR) (.string z.x.delivered) (.bool z.x.hasD) (.slice z.ae z.x.echoes.length z.ce) (.slice z.ar z.x.readies.length z.cr)⟩, by rw [HV.out]; exact .nil _ _ (keeps_set9 HJ.out hlr (.int .i64 z.x.id) (.string z.x.echoed) (.bool z.x.hasE) (.string z.x.readied) (.bool z.x.hasR) (.string z.x.delivered) (.bool z.x.hasD) (.slice z.ae z.x.echoes.length z.ce) (.slice z.ar z.x.readies.length z.cr))⟩
    · simp only [if_neg hkn] at hcl
      have HC := Lib.hid hcl
      have HKN := Lib.hid hkn
      clear hcl hkn
      have HHV := Lib.hid (h_e (f := f) (b := b) (x := z.x) (v := v) HI.out HKN.out)
      obtain ⟨ph, hph⟩ : ∃ p, p = putH z.x.echoes i v := ⟨_, rfl⟩
      rw [← hph] at HC HHV
      clear hph
      obtain ⟨gs, hgs⟩ : ∃ g, g = getH ph v := ⟨_, rfl⟩
      rw [← hgs] at HC HHV
      clear hgs
      obtain ⟨c0, c1, c2, c3, c4, c5, c6, c7, c8⟩ := Blk.c9 hbx
      obtain ⟨q0, q1, q2, q3, q4, q5, q6, q7, q8⟩ := Blk.f9 hbx
      go_wp2_with fail
      refine HC.out.mono ?_
      rintro e w3 ⟨u3, rfl, hu3⟩
      clear c0 c1 c2 c3 c4 c5 c6 c7 c8
      clear q0 q1 q2 q3 q4 q5 q6 q7 q8
      clear HC
      obtain ⟨a3, c3, rfl, _⟩ := hu3.rd
      have k3 := hu3.2
      replace hu3 := hu3.since J
      replace he := he.keep k3 (J0.trans J)
      replace hr := hr.keep k3 (J0.trans J)
      replace hbx := hbx.keep k3
      replace hbr := hbr.keep k3
      replace J := J.trans k3
      clear k3
      have he2 : RP w0 w3 a3 ph.length c3 (hl ph) := ⟨hu3.row0.rd, .inr (hu3.since J0)⟩
      clear hu3
      obtain ⟨c0, c1, c2, c3, c4, c5, c6, c7, c8⟩ := Blk.c9 hbx
      obtain ⟨q0, q1, q2, q3, q4, q5, q6, q7, q8⟩ := Blk.f9 hbx
      go_upto_region 12 with fail
      clear c0 c1 c2 c3 c4 c5 c6 c7 c8
      clear q0 q1 q2 q3 q4 q5 q6 q7 q8
      replace he := he2.set hbx (by decide) hlx0 (J0.trans J) 7 (.slice a3 ph.length c3)
      clear he2
      replace hr := hr.set hbx (by decide) hlx0 (J0.trans J) 7 (.slice a3 ph.length c3)
      replace hbr := hbr.setOther n1 7 (.slice a3 ph.length c3)
      replace J := keeps_set J hlx 7 (.slice a3 ph.length c3)
      replace hbx := hbx.set 7 (.slice a3 ph.length c3)
      simp only [List.setIfInBounds_toArray, List.set_cons_succ, List.set_cons_zero] at hbx
      generalize w3.setCell ⟨BX, 7, none⟩ (.slice a3 ph.length c3) = w4 at *
      cases hqr : z.x.hasR with
      | true =>
        have HV := Lib.hid (show handle f b z.x i 2 v = ((⟨z.x.id, z.x.echoed, z.x.hasE, z.x.readied, true, z.x.delivered, z.x.hasD, ph, z.x.readies⟩ : Nd), []) by rw [HHV.out, hqr]; rfl)
        rw [hqr] at hbx
        clear hqr
        obtain ⟨c0, c1, c2, c3, c4, c5, c6, c7, c8⟩ := Blk.c9 hbx
        obtain ⟨d0, d1, d2, d3, d4, d5, d6, d7, d8⟩ := Blk.c9 hbr
        obtain ⟨g0, g1, g2, g3, g4, g5, g6, g7, g8⟩ := Blk.f9 hbr
        have HBX := Lib.hid hbx; have HBR := Lib.hid hbr; have HE := Lib.hid he; have HR := Lib.hid hr; have HJ := Lib.hid J
        clear hbx hbr he hr J
        go_wp2_with fail
        clear c0 c1 c2 c3 c4 c5 c6 c7 c8
        clear d0 d1 d2 d3 d4 d5 d6 d7 d8
        clear g0 g1 g2 g3 g4 g5 g6 g7 g8
        refine bodyPost_ret (resNode (z := (⟨⟨z.x.id, z.x.echoed, z.x.hasE, z.x.readied, true, z.x.delivered, z.x.hasD, ph, z.x.readies⟩, a3, c3, z.ar, z.cr⟩ : NA)) rfl (HBR.out.set9 (.int .i64 z.x.id) (.string z.x.echoed) (.bool z.x.hasE) (.string z.x.readied) (.bool true) (.string z.x.delivered) (.bool z.x.hasD) (.slice a3 ph.length c3) (.slice z.ar z.x.readies.length z.cr)) rfl rfl) rfl ?_
        exact ⟨(⟨⟨z.x.id, z.x.echoed, z.x.hasE, z.x.readied, true, z.x.delivered, z.x.hasD, ph, z.x.readies⟩, a3, c3, z.ar, z.cr⟩ : NA), _, rfl, by rw [HV.out], ⟨HE.out.set9 HBR.out (by decide) hlr0 (J0.trans HJ.out) (.int .i64 z.x.id) (.string z.x.echoed) (.bool z.x.hasE) (.string z.x.readied) (.bool true) (.string z.x.delivered) (.bool z.x.hasD) (.slice a3 ph.length c3) (.slice z.ar z.x.readies.length z.cr), HR.out.set9 HBR.out (by decide) hlr0 (J0.trans HJ.out) (.int .i64 z.x.id) (.string z.x.echoed) (.bool z.x.hasE) (.string z.x.readied) (.bool true) (.string z.x.delivered) (.bool z.x.hasD) (.slice a3 ph.length c3) (.slice z.ar z.x.readies.length z.cr)⟩, by rw [HV.out]; exact .nil _ _ (keeps_set9 HJ.out hlr (.int .i64 z.x.id) (.string z.x.echoed) (.bool z.x.hasE) (.string z.x.readied) (.bool true) (.string z.x.delivered) (.bool z.x.hasD) (.slice a3 ph.length c3) (.slice z.ar z.x.readies.length z.cr))⟩
      | false =>
        have hac := rAcc8_any a1 m1 c1 f gs w4 (HF.out.keep J)
        cases hqa : accB f gs with
        | false =>
          have HV := Lib.hid (show handle f b z.x i 2 v = ((⟨z.x.id, z.x.echoed, z.x.hasE, z.x.readied, false, z.x.delivered, z.x.hasD, ph, z.x.readies⟩ : Nd), []) by rw [HHV.out, hqr, hqa]; rfl)
          rw [show accS f gs = accB f gs from rfl, hqa] at hac
          have HAC := Lib.hid hac
          rw [hqr] at hbx
          clear hac hqa hqr
          obtain ⟨c0, c1, c2, c3, c4, c5, c6, c7, c8⟩ := Blk.c9 hbx
          go_wp2_with fail
          refine HAC.out.mono ?_
          rintro e w' ⟨rfl, rfl⟩
          clear c0 c1 c2 c3 c4 c5 c6 c7 c8
          clear HAC
          obtain ⟨c0, c1, c2, c3, c4, c5, c6, c7, c8⟩ := Blk.c9 hbx
          obtain ⟨d0, d1, d2, d3, d4, d5, d6, d7, d8⟩ := Blk.c9 hbr
          obtain ⟨g0, g1, g2, g3, g4, g5, g6, g7, g8⟩ := Blk.f9 hbr
          have HBX := Lib.hid hbx; have HBR := Lib.hid hbr; have HE := Lib.hid he; have HR := Lib.hid hr; have HJ := Lib.hid J
          clear hbx hbr he hr J
          go_wp2_with fail
          clear c0 c1 c2 c3 c4 c5 c6 c7 c8
          clear d0 d1 d2 d3 d4 d5 d6 d7 d8
          clear g0 g1 g2 g3 g4 g5 g6 g7 g8
          refine bodyPost_ret (resNode (z := (⟨⟨z.x.id, z.x.echoed, z.x.hasE, z.x.readied, false, z.x.delivered, z.x.hasD, ph, z.x.readies⟩, a3, c3, z.ar, z.cr⟩ : NA)) rfl (HBR.out.set9 (.int .i64 z.x.id) (.string z.x.echoed) (.bool z.x.hasE) (.string z.x.readied) (.bool false) (.string z.x.delivered) (.bool z.x.hasD) (.slice a3 ph.length c3) (.slice z.ar z.x.readies.length z.cr)) rfl rfl) rfl ?_
          exact ⟨(⟨⟨z.x.id, z.x.echoed, z.x.hasE, z.x.readied, false, z.x.delivered, z.x.hasD, ph, z.x.readies⟩, a3, c3, z.ar, z.cr⟩ : NA), _, rfl, by rw [HV.out], ⟨HE.out.set9 HBR.out (by decide) hlr0 (J0.trans HJ.out) (.int .i64 z.x.id) (.string z.x.echoed) (.bool z.x.hasE) (.string z.x.readied) (.bool false) (.string z.x.delivered) (.bool z.x.hasD) (.slice a3 ph.length c3) (.slice z.ar z.x.readies.length z.cr), HR.out.set9 HBR.out (by decide) hlr0 (J0.trans HJ.out) (.int .i64 z.x.id) (.string z.x.echoed) (.bool z.x.hasE) (.string z.x.readied) (.bool false) (.string z.x.delivered) (.bool z.x.hasD) (.slice a3 ph.length c3) (.slice z.ar z.x.readies.length z.cr)⟩, by rw [HV.out]; exact .nil _ _ (keeps_set9 HJ.out hlr (.int .i64 z.x.id) (.string z.x.echoed) (.bool z.x.hasE) (.string z.x.readied) (.bool false) (.string z.x.delivered) (.bool z.x.hasD) (.slice a3 ph.length c3) (.slice z.ar z.x.readies.length z.cr))⟩
        | true =>
          have HV := Lib.hid (show handle f b z.x i 2 v = ((⟨z.x.id, z.x.echoed, z.x.hasE, v, true, z.x.delivered, z.x.hasD, ph, z.x.readies⟩ : Nd), [(⟨3, z.x.id, -1, v⟩ : Ct)]) by rw [HHV.out, hqr, hqa]; rfl)
          rw [show accS f gs = accB f gs from rfl, hqa] at hac
          have HAC := Lib.hid hac
          rw [hqr] at hbx
          clear hac hqa hqr
          obtain ⟨c0, c1, c2, c3, c4, c5, c6, c7, c8⟩ := Blk.c9 hbx
          go_wp2_with fail
          refine HAC.out.mono ?_
          rintro e w' ⟨rfl, rfl⟩
          clear c0 c1 c2 c3 c4 c5 c6 c7 c8
          clear HAC
          have hrd := ready9_any (⟨(⟨z.x.id, z.x.echoed, z.x.hasE, z.x.readied, false, z.x.delivered, z.x.hasD, ph, z.x.readies⟩ : Nd), a3, c3, z.ar, z.cr⟩ : NA) v w4
          unfold vn at hrd
          dsimp only at hrd
          have HRD := Lib.hid hrd
          clear hrd
          obtain ⟨c0, c1, c2, c3, c4, c5, c6, c7, c8⟩ := Blk.c9 hbx
          obtain ⟨q0, q1, q2, q3, q4, q5, q6, q7, q8⟩ := Blk.f9 hbx
          go_wp2_with fail
          refine HRD.out.mono ?_
          rintro e w5a ⟨u9, rfl, hO⟩
          have kq := hO.2
          replace hO := hO.since J
          clear c0 c1 c2 c3 c4 c5 c6 c7 c8
          clear q0 q1 q2 q3 q4 q5 q6 q7 q8
          clear HRD
          replace he := he.keep kq (J0.trans J)
          replace hr := hr.keep kq (J0.trans J)
          replace hbx := hbx.keep kq
          replace hbr := hbr.keep kq
          replace J := J.trans kq
          clear kq
          obtain ⟨c0, c1, c2, c3, c4, c5, c6, c7, c8⟩ := Blk.c9 hbx
          obtain ⟨q0, q1, q2, q3, q4, q5, q6, q7, q8⟩ := Blk.f9 hbx
          go_upto_region 21 with fail
          clear c0 c1 c2 c3 c4 c5 c6 c7 c8
          clear q0 q1 q2 q3 q4 q5 q6 q7 q8
          replace he := he.set9 hbx (by decide) hlx0 (J0.trans J) (.int .i64 z.x.id) (.string z.x.echoed) (.bool z.x.hasE) (.string v) (.bool true) (.string z.x.delivered) (.bool z.x.hasD) (.slice a3 ph.length c3) (.slice z.ar z.x.readies.length z.cr)
          replace hr := hr.set9 hbx (by decide) hlx0 (J0.trans J) (.int .i64 z.x.id) (.string z.x.echoed) (.bool z.x.hasE) (.string v) (.bool true) (.string z.x.delivered) (.bool z.x.hasD) (.slice a3 ph.length c3) (.slice z.ar z.x.readies.length z.cr)
          replace hO := own_other9 hO hbx (by decide) hlx (.int .i64 z.x.id) (.string z.x.echoed) (.bool z.x.hasE) (.string v) (.bool true) (.string z.x.delivered) (.bool z.x.hasD) (.slice a3 ph.length c3) (.slice z.ar z.x.readies.length z.cr)
          replace hbr := hbr.other9 n1 (.int .i64 z.x.id) (.string z.x.echoed) (.bool z.x.hasE) (.string v) (.bool true) (.string z.x.delivered) (.bool z.x.hasD) (.slice a3 ph.length c3) (.slice z.ar z.x.readies.length z.cr)
          replace J := keeps_set9 J hlx (.int .i64 z.x.id) (.string z.x.echoed) (.bool z.x.hasE) (.string v) (.bool true) (.string z.x.delivered) (.bool z.x.hasD) (.slice a3 ph.length c3) (.slice z.ar z.x.readies.length z.cr)
          replace hbx := hbx.set9 (.int .i64 z.x.id) (.string z.x.echoed) (.bool z.x.hasE) (.string v) (.bool true) (.string z.x.delivered) (.bool z.x.hasD) (.slice a3 ph.length c3) (.slice z.ar z.x.readies.length z.cr)
          generalize (((((((((w5a.setCell ⟨BX, 0, none⟩ (.int .i64 z.x.id)).setCell ⟨BX, 1, none⟩ (.string z.x.echoed)).setCell ⟨BX, 2, none⟩ (.bool z.x.hasE)).setCell ⟨BX, 3, none⟩ (.string v)).setCell ⟨BX, 4, none⟩ (.bool true)).setCell ⟨BX, 5, none⟩ (.string z.x.delivered)).setCell ⟨BX, 6, none⟩ (.bool z.x.hasD)).setCell ⟨BX, 7, none⟩ (.slice a3 ph.length c3)).setCell ⟨BX, 8, none⟩ (.slice z.ar z.x.readies.length z.cr)) = w5 at *
          obtain ⟨c0, c1, c2, c3, c4, c5, c6, c7, c8⟩ := Blk.c9 hbx
          obtain ⟨d0, d1, d2, d3, d4, d5, d6, d7, d8⟩ := Blk.c9 hbr
          obtain ⟨g0, g1, g2, g3, g4, g5, g6, g7, g8⟩ := Blk.f9 hbr
          have HBX := Lib.hid hbx; have HBR := Lib.hid hbr; have HE := Lib.hid he; have HR := Lib.hid hr; have HJ := Lib.hid J
          have HO := Lib.hid hO
          clear hbx hbr he hr J hO
          go_wp2_with fail
          clear c0 c1 c2 c3 c4 c5 c6 c7 c8
          clear d0 d1 d2 d3 d4 d5 d6 d7 d8
          clear g0 g1 g2 g3 g4 g5 g6 g7 g8
          refine bodyPost_ret (resNode (z := (⟨⟨z.x.id, z.x.echoed, z.x.hasE, v, true, z.x.delivered, z.x.hasD, ph, z.x.readies⟩, a3, c3, z.ar, z.cr⟩ : NA)) rfl (HBR.out.set9 (.int .i64 z.x.id) (.string z.x.echoed) (.bool z.x.hasE) (.string v) (.bool true) (.string z.x.delivered) (.bool z.x.hasD) (.slice a3 ph.length c3) (.slice z.ar z.x.readies.length z.cr)) rfl rfl) rfl ?_
          exact ⟨(⟨⟨z.x.id, z.x.echoed, z.x.hasE, v, true, z.x.delivered, z.x.hasD, ph, z.x.readies⟩, a3, c3, z.ar, z.cr⟩ : NA), _, rfl, by rw [HV.out], ⟨HE.out.set9 HBR.out (by decide) hlr0 (J0.trans HJ.out) (.int .i64 z.x.id) (.string z.x.echoed) (.bool z.x.hasE) (.string v) (.bool true) (.string z.x.delivered) (.bool z.x.hasD) (.slice a3 ph.length c3) (.slice z.ar z.x.readies.length z.cr), HR.out.set9 HBR.out (by decide) hlr0 (J0.trans HJ.out) (.int .i64 z.x.id) (.string z.x.echoed) (.bool z.x.hasE) (.string v) (.bool true) (.string z.x.delivered) (.bool z.x.hasD) (.slice a3 ph.length c3) (.slice z.ar z.x.readies.length z.cr)⟩, by rw [HV.out]; exact own_other9 HO.out HBR.out (by decide) hlr (.int .i64 z.x.id) (.string z.x.echoed) (.bool z.x.hasE) (.string v) (.bool true) (.string z.x.delivered) (.bool z.x.hasD) (.slice a3 ph.length c3) (.slice z.ar z.x.readies.length z.cr)⟩
  by_cases hk3 : kind = 3
  · subst hk3
    have hcl := rheard9_any z.ar z.cr z.x.readies i v w2 (HZ.out.2.1.keep J) (by omega) (by omega)
    unfold RetHd at hcl
    by_cases hkn : knows z.x.readies i = true
    · simp only [if_pos hkn] at hcl
      have HC := Lib.hid hcl
      have HKN := Lib.hid hkn
      clear hcl hkn
      have HV := Lib.hid (show handle f b z.x i 3 v = ((⟨z.x.id, z.x.echoed, z.x.hasE, z.x.readied, z.x.hasR, z.x.delivered, z.x.hasD, z.x.echoes, z.x.readies⟩ : Nd), []) by exact h_r0 HI.out HKN.out)
      obtain ⟨c0, c1, c2, c3, c4, c5, c6, c7, c8⟩ := Blk.c9 hbx
      obtain ⟨q0, q1, q2, q3, q4, q5, q6, q7, q8⟩ := Blk.f9 hbx
      go_wp2_with fail
      refine HC.out.mono ?_
      rintro e w3 ⟨rfl, k3⟩
      clear c0 c1 c2 c3 c4 c5 c6 c7 c8
      clear q0 q1 q2 q3 q4 q5 q6 q7 q8
      clear HC
      replace he := he.keep k3 (J0.trans J)
      replace hr := hr.keep k3 (J0.trans J)
      replace hbx := hbx.keep k3
      replace hbr := hbr.keep k3
      replace J := J.trans k3
      clear k3
      obtain ⟨c0, c1, c2, c3, c4, c5, c6, c7, c8⟩ := Blk.c9 hbx
      obtain ⟨q0, q1, q2, q3, q4, q5, q6, q7, q8⟩ := Blk.f9 hbx
      go_upto_region 17 with fail
      clear c0 c1 c2 c3 c4 c5 c6 c7 c8
      clear q0 q1 q2 q3 q4 q5 q6 q7 q8
      replace he := he.set hbx (by decide) hlx0 (J0.trans J) 8 (.slice z.ar z.x.readies.length z.cr)
      replace hr := hr.set hbx (by decide) hlx0 (J0.trans J) 8 (.slice z.ar z.x.readies.length z.cr)
      replace hbr := hbr.setOther n1 8 (.slice z.ar z.x.readies.length z.cr)
      replace J := keeps_set J hlx 8 (.slice z.ar z.x.readies.length z.cr)
      replace hbx := hbx.set 8 (.slice z.ar z.x.readies.length z.cr)
      simp only [List.setIfInBounds_toArray, List.set_cons_succ, List.set_cons_zero] at hbx
      generalize w3.setCell ⟨BX, 8, none⟩ (.slice z.ar z.x.readies.length z.cr) = w4 at *
      obtain ⟨c0, c1, c2, c3, c4, c5, c6, c7, c8⟩ := Blk.c9 hbx
      obtain ⟨d0, d1, d2, d3, d4, d5, d6, d7, d8⟩ := Blk.c9 hbr
      obtain ⟨g0, g1, g2, g3, g4, g5, g6, g7, g8⟩ := Blk.f9 hbr
      have HBX := Lib.hid hbx; have HBR := Lib.hid hbr; have HE := Lib.hid he; have HR := Lib.hid hr; have HJ := Lib.hid J
      clear hbx hbr he hr J
      go_wp2_with fail
      clear c0 c1 c2 c3 c4 c5 c6 c7 c8
      clear d0 d1 d2 d3 d4 d5 d6 d7 d8
      clear g0 g1 g2 g3 g4 g5 g6 g7 g8
      refine bodyPost_ret (resNode (z := (⟨⟨z.x.id, z.x.echoed, z.x.hasE, z.x.readied, z.x.hasR, z.x.delivered, z.x.hasD, z.x.echoes, z.x.readies⟩, z.ae, z.ce, z.ar, z.cr⟩ : NA)) rfl (HBR.out.set9 (.int .i64 z.x.id) (.string z.x.echoed) (.bool z.x.hasE) (.string z.x.readied) (.bool z.x.hasR) (.string z.x.delivered) (.bool z.x.hasD) (.slice z.ae z.x.echoes.length z.ce) (.slice z.ar z.x.readies.length z.cr)) rfl rfl) rfl ?_
      exact ⟨(⟨⟨z.x.id, z.x.echoed, z.x.hasE, z.x.readied, z.x.hasR, z.x.delivered, z.x.hasD, z.x.echoes, z.x.readies⟩, z.ae, z.ce, z.ar, z.cr⟩ : NA), _, rfl, by rw [HV.out], ⟨HE.out.set9 HBR.out (by decide) hlr0 (J0.trans HJ.out) (.int .i64 z.x.id) (.string z.x.echoed) (.bool z.x.hasE) (.string z.x.readied) (.bool z.x.hasR) (.string z.x.delivered) (.bool z.x.hasD) (.slice z.ae z.x.echoes.length z.ce) (.slice z.ar z.x.readies.length z.cr), HR.out.set9 HBR.out (by decide) hlr0 (J0.trans HJ.out) (.int .i64 z.x.id) (.string z.x.echoed) (.bool z.x.hasE) (.string z.x.readied) (.bool z.x.hasR) (.string z.x.delivered) (.bool z.x.hasD) (.slice z.ae z.x.echoes.length z.ce) (.slice z.ar z.x.readies.length z.cr)⟩, by rw [HV.out]; exact .nil _ _ (keeps_set9 HJ.out hlr (.int .i64 z.x.id) (.string z.x.echoed) (.bool z.x.hasE) (.string z.x.readied) (.bool z.x.hasR) (.string z.x.delivered) (.bool z.x.hasD) (.slice z.ae z.x.echoes.length z.ce) (.slice z.ar z.x.readies.length z.cr))⟩
    · simp only [if_neg hkn] at hcl
      have HC := Lib.hid hcl
      have HKN := Lib.hid hkn
      clear hcl hkn
      have HHV := Lib.hid (h_r (f := f) (b := b) (x := z.x) (v := v) HI.out HKN.out)
      obtain ⟨ph, hph⟩ : ∃ p, p = putH z.x.readies i v := ⟨_, rfl⟩
      rw [← hph] at HC HHV
      clear hph
      obtain ⟨gs, hgs⟩ : ∃ g, g = getH ph v := ⟨_, rfl⟩
      rw [← hgs] at HC HHV
      clear hgs
      obtain ⟨c0, c1, c2, c3, c4, c5, c6, c7, c8⟩ := Blk.c9 hbx
      obtain ⟨q0, q1, q2, q3, q4, q5, q6, q7, q8⟩ := Blk.f9 hbx
      go_wp2_with fail
      refine HC.out.mono ?_
      rintro e w3 ⟨u3, rfl, hu3⟩
      clear c0 c1 c2 c3 c4 c5 c6 c7 c8
      clear q0 q1 q2 q3 q4 q5 q6 q7 q8
      clear HC
      obtain ⟨a3, c3, rfl, _⟩ := hu3.rd
      have k3 := hu3.2
      replace hu3 := hu3.since J
      replace he := he.keep k3 (J0.trans J)
      replace hr := hr.keep k3 (J0.trans J)
      replace hbx := hbx.keep k3
      replace hbr := hbr.keep k3
      replace J := J.trans k3
      clear k3
      have hr2 : RP w0 w3 a3 ph.length c3 (hl ph) := ⟨hu3.row0.rd, .inr (hu3.since J0)⟩
      clear hu3
      obtain ⟨c0, c1, c2, c3, c4, c5, c6, c7, c8⟩ := Blk.c9 hbx
      obtain ⟨q0, q1, q2, q3, q4, q5, q6, q7, q8⟩ := Blk.f9 hbx
      go_upto_region 17 with fail
      clear c0 c1 c2 c3 c4 c5 c6 c7 c8
      clear q0 q1 q2 q3 q4 q5 q6 q7 q8
      replace hr := hr2.set hbx (by decide) hlx0 (J0.trans J) 8 (.slice a3 ph.length c3)
      clear hr2
      replace he := he.set hbx (by decide) hlx0 (J0.trans J) 8 (.slice a3 ph.length c3)
      replace hbr := hbr.setOther n1 8 (.slice a3 ph.length c3)
      replace J := keeps_set J hlx 8 (.slice a3 ph.length c3)
      replace hbx := hbx.set 8 (.slice a3 ph.length c3)
      simp only [List.setIfInBounds_toArray, List.set_cons_succ, List.set_cons_zero] at hbx
      generalize w3.setCell ⟨BX, 8, none⟩ (.slice a3 ph.length c3) = w4 at *
      cases hqr : z.x.hasR with
      | true =>
        rw [hqr] at hbx
        obtain ⟨c0, c1, c2, c3, c4, c5, c6, c7, c8⟩ := Blk.c9 hbx
        go_upto_region 19 with fail
        clear c0 c1 c2 c3 c4 c5 c6 c7 c8
        cases hqd : z.x.hasD with
        | true =>
          have HV := Lib.hid (show handle f b z.x i 3 v = ((⟨z.x.id, z.x.echoed, z.x.hasE, z.x.readied, true, z.x.delivered, true, z.x.echoes, ph⟩ : Nd), []) by rw [HHV.out, hqr, hqd]; rfl)
          rw [hqd] at hbx
          clear hqd hqr
          obtain ⟨c0, c1, c2, c3, c4, c5, c6, c7, c8⟩ := Blk.c9 hbx
          obtain ⟨d0, d1, d2, d3, d4, d5, d6, d7, d8⟩ := Blk.c9 hbr
          obtain ⟨g0, g1, g2, g3, g4, g5, g6, g7, g8⟩ := Blk.f9 hbr
          have HBX := Lib.hid hbx; have HBR := Lib.hid hbr; have HE := Lib.hid he; have HR := Lib.hid hr; have HJ := Lib.hid J
          clear hbx hbr he hr J
          go_wp2_with fail
          clear c0 c1 c2 c3 c4 c5 c6 c7 c8
          clear d0 d1 d2 d3 d4 d5 d6 d7 d8
          clear g0 g1 g2 g3 g4 g5 g6 g7 g8
          refine bodyPost_ret (resNode (z := (⟨⟨z.x.id, z.x.echoed, z.x.hasE, z.x.readied, true, z.x.delivered, true, z.x.echoes, ph⟩, z.ae, z.ce, a3, c3⟩ : NA)) rfl (HBR.out.set9 (.int .i64 z.x.id) (.string z.x.echoed) (.bool z.x.hasE) (.string z.x.readied) (.bool true) (.string z.x.delivered) (.bool true) (.slice z.ae z.x.echoes.length z.ce) (.slice a3 ph.length c3)) rfl rfl) rfl ?_
          exact ⟨(⟨⟨z.x.id, z.x.echoed, z.x.hasE, z.x.readied, true, z.x.delivered, true, z.x.echoes, ph⟩, z.ae, z.ce, a3, c3⟩ : NA), _, rfl, by rw [HV.out], ⟨HE.out.set9 HBR.out (by decide) hlr0 (J0.trans HJ.out) (.int .i64 z.x.id) (.string z.x.echoed) (.bool z.x.hasE) (.string z.x.readied) (.bool true) (.string z.x.delivered) (.bool true) (.slice z.ae z.x.echoes.length z.ce) (.slice a3 ph.length c3), HR.out.set9 HBR.out (by decide) hlr0 (J0.trans HJ.out) (.int .i64 z.x.id) (.string z.x.echoed) (.bool z.x.hasE) (.string z.x.readied) (.bool true) (.string z.x.delivered) (.bool true) (.slice z.ae z.x.echoes.length z.ce) (.slice a3 ph.length c3)⟩, by rw [HV.out]; exact .nil _ _ (keeps_set9 HJ.out hlr (.int .i64 z.x.id) (.string z.x.echoed) (.bool z.x.hasE) (.string z.x.readied) (.bool true) (.string z.x.delivered) (.bool true) (.slice z.ae z.x.echoes.length z.ce) (.slice a3 ph.length c3))⟩
        | false =>
          have hac := rAcc8_any a1 m1 c1 f gs w4 (HF.out.keep J)
          cases hqa : accB f gs with
          | false =>
            have HV := Lib.hid (show handle f b z.x i 3 v = ((⟨z.x.id, z.x.echoed, z.x.hasE, z.x.readied, true, z.x.delivered, false, z.x.echoes, ph⟩ : Nd), []) by rw [HHV.out, hqr, hqd, hqa]; rfl)
            rw [show accS f gs = accB f gs from rfl, hqa] at hac
            have HAC := Lib.hid hac
            rw [hqd] at hbx
            clear hac hqa hqd hqr
            obtain ⟨c0, c1, c2, c3, c4, c5, c6, c7, c8⟩ := Blk.c9 hbx
            go_wp2_with fail
            refine HAC.out.mono ?_
            rintro e w' ⟨rfl, rfl⟩
            clear c0 c1 c2 c3 c4 c5 c6 c7 c8
            clear HAC
            obtain ⟨c0, c1, c2, c3, c4, c5, c6, c7, c8⟩ := Blk.c9 hbx
            obtain ⟨d0, d1, d2, d3, d4, d5, d6, d7, d8⟩ := Blk.c9 hbr
            obtain ⟨g0, g1, g2, g3, g4, g5, g6, g7, g8⟩ := Blk.f9 hbr
            have HBX := Lib.hid hbx; have HBR := Lib.hid hbr; have HE := Lib.hid he; have HR := Lib.hid hr; have HJ := Lib.hid J
            clear hbx hbr he hr J
            go_wp2_with fail
            clear c0 c1 c2 c3 c4 c5 c6 c7 c8
            clear d0 d1 d2 d3 d4 d5 d6 d7 d8
            clear g0 g1 g2 g3 g4 g5 g6 g7 g8
            refine bodyPost_ret (resNode (z := (⟨⟨z.x.id, z.x.echoed, z.x.hasE, z.x.readied, true, z.x.delivered, false, z.x.echoes, ph⟩, z.ae, z.ce, a3, c3⟩ : NA)) rfl (HBR.out.set9 (.int .i64 z.x.id) (.string z.x.echoed) (.bool z.x.hasE) (.string z.x.readied) (.bool true) (.string z.x.delivered) (.bool false) (.slice z.ae z.x.echoes.length z.ce) (.slice a3 ph.length c3)) rfl rfl) rfl ?_
            exact ⟨(⟨⟨z.x.id, z.x.echoed, z.x.hasE, z.x.readied, true, z.x.delivered, false, z.x.echoes, ph⟩, z.ae, z.ce, a3, c3⟩ : NA), _, rfl, by rw [HV.out], ⟨HE.out.set9 HBR.out (by decide) hlr0 (J0.trans HJ.out) (.int .i64 z.x.id) (.string z.x.echoed) (.bool z.x.hasE) (.string z.x.readied) (.bool true) (.string z.x.delivered) (.bool false) (.slice z.ae z.x.echoes.length z.ce) (.slice a3 ph.length c3), HR.out.set9 HBR.out (by decide) hlr0 (J0.trans HJ.out) (.int .i64 z.x.id) (.string z.x.echoed) (.bool z.x.hasE) (.string z.x.readied) (.bool true) (.string z.x.delivered) (.bool false) (.slice z.ae z.x.echoes.length z.ce) (.slice a3 ph.length c3)⟩, by rw [HV.out]; exact .nil _ _ (keeps_set9 HJ.out hlr (.int .i64 z.x.id) (.string z.x.echoed) (.bool z.x.hasE) (.string z.x.readied) (.bool true) (.string z.x.delivered) (.bool false) (.slice z.ae z.x.echoes.length z.ce) (.slice a3 ph.length c3))⟩
          | true =>
            have HV := Lib.hid (show handle f b z.x i 3 v = ((⟨z.x.id, z.x.echoed, z.x.hasE, z.x.readied, true, v, true, z.x.echoes, ph⟩ : Nd), []) by rw [HHV.out, hqr, hqd, hqa]; rfl)
            rw [show accS f gs = accB f gs from rfl, hqa] at hac
            have HAC := Lib.hid hac
            rw [hqd] at hbx
            clear hac hqa hqd hqr
            obtain ⟨c0, c1, c2, c3, c4, c5, c6, c7, c8⟩ := Blk.c9 hbx
            go_wp2_with fail
            refine HAC.out.mono ?_
            rintro e w' ⟨rfl, rfl⟩
            clear c0 c1 c2 c3 c4 c5 c6 c7 c8
            clear HAC
            obtain ⟨c0, c1, c2, c3, c4, c5, c6, c7, c8⟩ := Blk.c9 hbx
            obtain ⟨q0, q1, q2, q3, q4, q5, q6, q7, q8⟩ := Blk.f9 hbx
            go_upto_region 21 with fail
            clear c0 c1 c2 c3 c4 c5 c6 c7 c8
            clear q0 q1 q2 q3 q4 q5 q6 q7 q8
            replace he := he.set hbx (by decide) hlx0 (J0.trans J) 6 (.bool true)
            replace hr := hr.set hbx (by decide) hlx0 (J0.trans J) 6 (.bool true)
            replace hbr := hbr.setOther n1 6 (.bool true)
            replace J := keeps_set J hlx 6 (.bool true)
            replace hbx := hbx.set 6 (.bool true)
            simp only [List.setIfInBounds_toArray, List.set_cons_succ, List.set_cons_zero] at hbx
            generalize w4.setCell ⟨BX, 6, none⟩ (.bool true) = w8 at *
            replace he := he.set hbx (by decide) hlx0 (J0.trans J) 5 (.string v)
            replace hr := hr.set hbx (by decide) hlx0 (J0.trans J) 5 (.string v)
            replace hbr := hbr.setOther n1 5 (.string v)
            replace J := keeps_set J hlx 5 (.string v)
            replace hbx := hbx.set 5 (.string v)
            simp only [List.setIfInBounds_toArray, List.set_cons_succ, List.set_cons_zero] at hbx
            generalize w8.setCell ⟨BX, 5, none⟩ (.string v) = w9 at *
            obtain ⟨c0, c1, c2, c3, c4, c5, c6, c7, c8⟩ := Blk.c9 hbx
            obtain ⟨d0, d1, d2, d3, d4, d5, d6, d7, d8⟩ := Blk.c9 hbr
            obtain ⟨g0, g1, g2, g3, g4, g5, g6, g7, g8⟩ := Blk.f9 hbr
            have HBX := Lib.hid hbx; have HBR := Lib.hid hbr; have HE := Lib.hid he; have HR := Lib.hid hr; have HJ := Lib.hid J
            clear hbx hbr he hr J
            go_wp2_with fail
            clear c0 c1 c2 c3 c4 c5 c6 c7 c8
            clear d0 d1 d2 d3 d4 d5 d6 d7 d8
            clear g0 g1 g2 g3 g4 g5 g6 g7 g8
            refine bodyPost_ret (resNode (z := (⟨⟨z.x.id, z.x.echoed, z.x.hasE, z.x.readied, true, v, true, z.x.echoes, ph⟩, z.ae, z.ce, a3, c3⟩ : NA)) rfl (HBR.out.set9 (.int .i64 z.x.id) (.string z.x.echoed) (.bool z.x.hasE) (.string z.x.readied) (.bool true) (.string v) (.bool true) (.slice z.ae z.x.echoes.length z.ce) (.slice a3 ph.length c3)) rfl rfl) rfl ?_
            exact ⟨(⟨⟨z.x.id, z.x.echoed, z.x.hasE, z.x.readied, true, v, true, z.x.echoes, ph⟩, z.ae, z.ce, a3, c3⟩ : NA), _, rfl, by rw [HV.out], ⟨HE.out.set9 HBR.out (by decide) hlr0 (J0.trans HJ.out) (.int .i64 z.x.id) (.string z.x.echoed) (.bool z.x.hasE) (.string z.x.readied) (.bool true) (.string v) (.bool true) (.slice z.ae z.x.echoes.length z.ce) (.slice a3 ph.length c3), HR.out.set9 HBR.out (by decide) hlr0 (J0.trans HJ.out) (.int .i64 z.x.id) (.string z.x.echoed) (.bool z.x.hasE) (.string z.x.readied) (.bool true) (.string v) (.bool true) (.slice z.ae z.x.echoes.length z.ce) (.slice a3 ph.length c3)⟩, by rw [HV.out]; exact .nil _ _ (keeps_set9 HJ.out hlr (.int .i64 z.x.id) (.string z.x.echoed) (.bool z.x.hasE) (.string z.x.readied) (.bool true) (.string v) (.bool true) (.slice z.ae z.x.echoes.length z.ce) (.slice a3 ph.length c3))⟩
      | false =>
        have hpo := possible9_any a2 m2 c2 b gs w4 (HB.out.keep J)
        cases hqp : posB b gs with
        | true =>
          rw [hqp] at hpo
          have HPO := Lib.hid hpo
          rw [hqr] at hbx
          clear hpo
          obtain ⟨c0, c1, c2, c3, c4, c5, c6, c7, c8⟩ := Blk.c9 hbx
          go_wp2_with fail
          refine HPO.out.mono ?_
          rintro e w6 ⟨rfl, k6⟩
          clear c0 c1 c2 c3 c4 c5 c6 c7 c8
          clear HPO
          replace he := he.keep k6 (J0.trans J)
          replace hr := hr.keep k6 (J0.trans J)
          replace hbx := hbx.keep k6
          replace hbr := hbr.keep k6
          replace J := J.trans k6
          clear k6
          obtain ⟨c0, c1, c2, c3, c4, c5, c6, c7, c8⟩ := Blk.c9 hbx
          go_upto_region 19 with fail
          clear c0 c1 c2 c3 c4 c5 c6 c7 c8
          cases hqd : z.x.hasD with
          | true =>
            have HV := Lib.hid (show handle f b z.x i 3 v = ((⟨z.x.id, z.x.echoed, z.x.hasE, z.x.readied, false, z.x.delivered, true, z.x.echoes, ph⟩ : Nd), []) by rw [HHV.out, hqr, hqp, hqd]; rfl)
            rw [hqd] at hbx
            clear hqd hqr hqp
            obtain ⟨c0, c1, c2, c3, c4, c5, c6, c7, c8⟩ := Blk.c9 hbx
            obtain ⟨d0, d1, d2, d3, d4, d5, d6, d7, d8⟩ := Blk.c9 hbr
            obtain ⟨g0, g1, g2, g3, g4, g5, g6, g7, g8⟩ := Blk.f9 hbr
            have HBX := Lib.hid hbx; have HBR := Lib.hid hbr; have HE := Lib.hid he; have HR := Lib.hid hr; have HJ := Lib.hid J
            clear hbx hbr he hr J
            go_wp2_with fail
            clear c0 c1 c2 c3 c4 c5 c6 c7 c8
            clear d0 d1 d2 d3 d4 d5 d6 d7 d8
            clear g0 g1 g2 g3 g4 g5 g6 g7 g8
            refine bodyPost_ret (resNode (z := (⟨⟨z.x.id, z.x.echoed, z.x.hasE, z.x.readied, false, z.x.delivered, true, z.x.echoes, ph⟩, z.ae, z.ce, a3, c3⟩ : NA)) rfl (HBR.out.set9 (.int .i64 z.x.id) (.string z.x.echoed) (.bool z.x.hasE) (.string z.x.readied) (.bool false) (.string z.x.delivered) (.bool true) (.slice z.ae z.x.echoes.length z.ce) (.slice a3 ph.length c3)) rfl rfl) rfl ?_
            exact ⟨(⟨⟨z.x.id, z.x.echoed, z.x.hasE, z.x.readied, false, z.x.delivered, true, z.x.echoes, ph⟩, z.ae, z.ce, a3, c3⟩ : NA), _, rfl, by rw [HV.out], ⟨HE.out.set9 HBR.out (by decide) hlr0 (J0.trans HJ.out) (.int .i64 z.x.id) (.string z.x.echoed) (.bool z.x.hasE) (.string z.x.readied) (.bool false) (.string z.x.delivered) (.bool true) (.slice z.ae z.x.echoes.length z.ce) (.slice a3 ph.length c3), HR.out.set9 HBR.out (by decide) hlr0 (J0.trans HJ.out) (.int .i64 z.x.id) (.string z.x.echoed) (.bool z.x.hasE) (.string z.x.readied) (.bool false) (.string z.x.delivered) (.bool true) (.slice z.ae z.x.echoes.length z.ce) (.slice a3 ph.length c3)⟩, by rw [HV.out]; exact .nil _ _ (keeps_set9 HJ.out hlr (.int .i64 z.x.id) (.string z.x.echoed) (.bool z.x.hasE) (.string z.x.readied) (.bool false) (.string z.x.delivered) (.bool true) (.slice z.ae z.x.echoes.length z.ce) (.slice a3 ph.length c3))⟩
          | false =>
            have hac := rAcc8_any a1 m1 c1 f gs w6 (HF.out.keep J)
            cases hqa : accB f gs with
            | false =>
              have HV := Lib.hid (show handle f b z.x i 3 v = ((⟨z.x.id, z.x.echoed, z.x.hasE, z.x.readied, false, z.x.delivered, false, z.x.echoes, ph⟩ : Nd), []) by rw [HHV.out, hqr, hqp, hqd, hqa]; rfl)
              rw [show accS f gs = accB f gs from rfl, hqa] at hac
              have HAC := Lib.hid hac
              rw [hqd] at hbx
              clear hac hqa hqd hqr hqp
              obtain ⟨c0, c1, c2, c3, c4, c5, c6, c7, c8⟩ := Blk.c9 hbx
              go_wp2_with fail
              refine HAC.out.mono ?_
              rintro e w' ⟨rfl, rfl⟩
              clear c0 c1 c2 c3 c4 c5 c6 c7 c8
              clear HAC
              obtain ⟨c0, c1, c2, c3, c4, c5, c6, c7, c8⟩ := Blk.c9 hbx
              obtain ⟨d0, d1, d2, d3, d4, d5, d6, d7, d8⟩ := Blk.c9 hbr
              obtain ⟨g0, g1, g2, g3, g4, g5, g6, g7, g8⟩ := Blk.f9 hbr
              have HBX := Lib.hid hbx; have HBR := Lib.hid hbr; have HE := Lib.hid he; have HR := Lib.hid hr; have HJ := Lib.hid J
              clear hbx hbr he hr J
              go_wp2_with fail
              clear c0 c1 c2 c3 c4 c5 c6 c7 c8
              clear d0 d1 d2 d3 d4 d5 d6 d7 d8
              clear g0 g1 g2 g3 g4 g5 g6 g7 g8
              refine bodyPost_ret (resNode (z := (⟨⟨z.x.id, z.x.echoed, z.x.hasE, z.x.readied, false, z.x.delivered, false, z.x.echoes, ph⟩, z.ae, z.ce, a3, c3⟩ : NA)) rfl (HBR.out.set9 (.int .i64 z.x.id) (.string z.x.echoed) (.bool z.x.hasE) (.string z.x.readied) (.bool false) (.string z.x.delivered) (.bool false) (.slice z.ae z.x.echoes.length z.ce) (.slice a3 ph.length c3)) rfl rfl) rfl ?_
              exact ⟨(⟨⟨z.x.id, z.x.echoed, z.x.hasE, z.x.readied, false, z.x.delivered, false, z.x.echoes, ph⟩, z.ae, z.ce, a3, c3⟩ : NA), _, rfl, by rw [HV.out], ⟨HE.out.set9 HBR.out (by decide) hlr0 (J0.trans HJ.out) (.int .i64 z.x.id) (.string z.x.echoed) (.bool z.x.hasE) (.string z.x.readied) (.bool false) (.string z.x.delivered) (.bool false) (.slice z.ae z.x.echoes.length z.ce) (.slice a3 ph.length c3), HR.out.set9 HBR.out (by decide) hlr0 (J0.trans HJ.out) (.int .i64 z.x.id) (.string z.x.echoed) (.bool z.x.hasE) (.string z.x.readied) (.bool false) (.string z.x.delivered) (.bool false) (.slice z.ae z.x.echoes.length z.ce) (.slice a3 ph.length c3)⟩, by rw [HV.out]; exact .nil _ _ (keeps_set9 HJ.out hlr (.int .i64 z.x.id) (.string z.x.echoed) (.bool z.x.hasE) (.string z.x.readied) (.bool false) (.string z.x.delivered) (.bool false) (.slice z.ae z.x.echoes.length z.ce) (.slice a3 ph.length c3))⟩
            | true =>
              have HV := Lib.hid (show handle f b z.x i 3 v = ((⟨z.x.id, z.x.echoed, z.x.hasE, z.x.readied, false, v, true, z.x.echoes, ph⟩ : Nd), []) by rw [HHV.out, hqr, hqp, hqd, hqa]; rfl)
              rw [show accS f gs = accB f gs from rfl, hqa] at hac
              have HAC := Lib.hid hac
              rw [hqd] at hbx
              clear hac hqa hqd hqr hqp
              obtain ⟨c0, c1, c2, c3, c4, c5, c6, c7, c8⟩ := Blk.c9 hbx
              go_wp2_with fail
              refine HAC.out.mono ?_
              rintro e w' ⟨rfl, rfl⟩
              clear c0 c1 c2 c3 c4 c5 c6 c7 c8
              clear HAC
              obtain ⟨c0, c1, c2, c3, c4, c5, c6, c7, c8⟩ := Blk.c9 hbx
              obtain ⟨q0, q1, q2, q3, q4, q5, q6, q7, q8⟩ := Blk.f9 hbx
              go_upto_region 21 with fail
              clear c0 c1 c2 c3 c4 c5 c6 c7 c8
              clear q0 q1 q2 q3 q4 q5 q6 q7 q8
              replace he := he.set hbx (by decide) hlx0 (J0.trans J) 6 (.bool true)
              replace hr := hr.set hbx (by decide) hlx0 (J0.trans J) 6 (.bool true)
              replace hbr := hbr.setOther n1 6 (.bool true)
              replace J := keeps_set J hlx 6 (.bool true)
              replace hbx := hbx.set 6 (.bool true)
              simp only [List.setIfInBounds_toArray, List.set_cons_succ, List.set_cons_zero] at hbx
              generalize w6.setCell ⟨BX, 6, none⟩ (.bool true) = w8 at *
              replace he := he.set hbx (by decide) hlx0 (J0.trans J) 5 (.string v)
              replace hr := hr.set hbx (by decide) hlx0 (J0.trans J) 5 (.string v)
              replace hbr := hbr.setOther n1 5 (.string v)
              replace J := keeps_set J hlx 5 (.string v)
              replace hbx := hbx.set 5 (.string v)
              simp only [List.setIfInBounds_toArray, List.set_cons_succ, List.set_cons_zero] at hbx
              generalize w8.setCell ⟨BX, 5, none⟩ (.string v) = w9 at *
              obtain ⟨c0, c1, c2, c3, c4, c5, c6, c7, c8⟩ := Blk.c9 hbx
              obtain ⟨d0, d1, d2, d3, d4, d5, d6, d7, d8⟩ := Blk.c9 hbr
              obtain ⟨g0, g1, g2, g3, g4, g5, g6, g7, g8⟩ := Blk.f9 hbr
              have HBX := Lib.hid hbx; have HBR := Lib.hid hbr; have HE := Lib.hid he; have HR := Lib.hid hr; have HJ := Lib.hid J
              clear hbx hbr he hr J
              go_wp2_with fail
              clear c0 c1 c2 c3 c4 c5 c6 c7 c8
              clear d0 d1 d2 d3 d4 d5 d6 d7 d8
              clear g0 g1 g2 g3 g4 g5 g6 g7 g8
              refine bodyPost_ret (resNode (z := (⟨⟨z.x.id, z.x.echoed, z.x.hasE, z.x.readied, false, v, true, z.x.echoes, ph⟩, z.ae, z.ce, a3, c3⟩ : NA)) rfl (HBR.out.set9 (.int .i64 z.x.id) (.string z.x.echoed) (.bool z.x.hasE) (.string z.x.readied) (.bool false) (.string v) (.bool true) (.slice z.ae z.x.echoes.length z.ce) (.slice a3 ph.length c3)) rfl rfl) rfl ?_
              exact ⟨(⟨⟨z.x.id, z.x.echoed, z.x.hasE, z.x.readied, false, v, true, z.x.echoes, ph⟩, z.ae, z.ce, a3, c3⟩ : NA), _, rfl, by rw [HV.out], ⟨HE.out.set9 HBR.out (by decide) hlr0 (J0.trans HJ.out) (.int .i64 z.x.id) (.string z.x.echoed) (.bool z.x.hasE) (.string z.x.readied) (.bool false) (.string v) (.bool true) (.slice z.ae z.x.echoes.length z.ce) (.slice a3 ph.length c3), HR.out.set9 HBR.out (by decide) hlr0 (J0.trans HJ.out) (.int .i64 z.x.id) (.string z.x.echoed) (.bool z.x.hasE) (.string z.x.readied) (.bool false) (.string v) (.bool true) (.slice z.ae z.x.echoes.length z.ce) (.slice a3 ph.length c3)⟩, by rw [HV.out]; exact .nil _ _ (keeps_set9 HJ.out hlr (.int .i64 z.x.id) (.string z.x.echoed) (.bool z.x.hasE) (.string z.x.readied) (.bool false) (.string v) (.bool true) (.slice z.ae z.x.echoes.length z.ce) (.slice a3 ph.length c3))⟩
        | false =>
          rw [hqp] at hpo
          have HPO := Lib.hid hpo
          rw [hqr] at hbx
          clear hpo
          obtain ⟨c0, c1, c2, c3, c4, c5, c6, c7, c8⟩ := Blk.c9 hbx
          go_wp2_with fail
          refine HPO.out.mono ?_
          rintro e w6 ⟨rfl, k6⟩
          clear c0 c1 c2 c3 c4 c5 c6 c7 c8
          clear HPO
          replace he := he.keep k6 (J0.trans J)
          replace hr := hr.keep k6 (J0.trans J)
          replace hbx := hbx.keep k6
          replace hbr := hbr.keep k6
          replace J := J.trans k6
          clear k6
          have hrd := ready9_any (⟨(⟨z.x.id, z.x.echoed, z.x.hasE, z.x.readied, false, z.x.delivered, z.x.hasD, z.x.echoes, ph⟩ : Nd), z.ae, z.ce, a3, c3⟩ : NA) v w6
          unfold vn at hrd
          dsimp only at hrd
          have HRD := Lib.hid hrd
          clear hrd
          obtain ⟨c0, c1, c2, c3, c4, c5, c6, c7, c8⟩ := Blk.c9 hbx
          obtain ⟨q0, q1, q2, q3, q4, q5, q6, q7, q8⟩ := Blk.f9 hbx
          go_wp2_with fail
          refine HRD.out.mono ?_
          rintro e w7a ⟨u9, rfl, hO⟩
          have kq := hO.2
          replace hO := hO.since J
          clear c0 c1 c2 c3 c4 c5 c6 c7 c8
          clear q0 q1 q2 q3 q4 q5 q6 q7 q8
          clear HRD
          replace he := he.keep kq (J0.trans J)
          replace hr := hr.keep kq (J0.trans J)
          replace hbx := hbx.keep kq
          replace hbr := hbr.keep kq
          replace J := J.trans kq
          clear kq
          obtain ⟨c0, c1, c2, c3, c4, c5, c6, c7, c8⟩ := Blk.c9 hbx
          obtain ⟨q0, q1, q2, q3, q4, q5, q6, q7, q8⟩ := Blk.f9 hbx
          go_upto_region 19 with fail
          clear c0 c1 c2 c3 c4 c5 c6 c7 c8
          clear q0 q1 q2 q3 q4 q5 q6 q7 q8
          replace he := he.set9 hbx (by decide) hlx0 (J0.trans J) (.int .i64 z.x.id) (.string z.x.echoed) (.bool z.x.hasE) (.string v) (.bool true) (.string z.x.delivered) (.bool z.x.hasD) (.slice z.ae z.x.echoes.length z.ce) (.slice a3 ph.length c3)
          replace hr := hr.set9 hbx (by decide) hlx0 (J0.trans J) (.int .i64 z.x.id) (.string z.x.echoed) (.bool z.x.hasE) (.string v) (.bool true) (.string z.x.delivered) (.bool z.x.hasD) (.slice z.ae z.x.echoes.length z.ce) (.slice a3 ph.length c3)
          replace hO := own_other9 hO hbx (by decide) hlx (.int .i64 z.x.id) (.string z.x.echoed) (.bool z.x.hasE) (.string v) (.bool true) (.string z.x.delivered) (.bool z.x.hasD) (.slice z.ae z.x.echoes.length z.ce) (.slice a3 ph.length c3)
          replace hbr := hbr.other9 n1 (.int .i64 z.x.id) (.string z.x.echoed) (.bool z.x.hasE) (.string v) (.bool true) (.string z.x.delivered) (.bool z.x.hasD) (.slice z.ae z.x.echoes.length z.ce) (.slice a3 ph.length c3)
          replace J := keeps_set9 J hlx (.int .i64 z.x.id) (.string z.x.echoed) (.bool z.x.hasE) (.string v) (.bool true) (.string z.x.delivered) (.bool z.x.hasD) (.slice z.ae z.x.echoes.length z.ce) (.slice a3 ph.length c3)
          replace hbx := hbx.set9 (.int .i64 z.x.id) (.string z.x.echoed) (.bool z.x.hasE) (.string v) (.bool true) (.string z.x.delivered) (.bool z.x.hasD) (.slice z.ae z.x.echoes.length z.ce) (.slice a3 ph.length c3)
          generalize (((((((((w7a.setCell ⟨BX, 0, none⟩ (.int .i64 z.x.id)).setCell ⟨BX, 1, none⟩ (.string z.x.echoed)).setCell ⟨BX, 2, none⟩ (.bool z.x.hasE)).setCell ⟨BX, 3, none⟩ (.string v)).setCell ⟨BX, 4, none⟩ (.bool true)).setCell ⟨BX, 5, none⟩ (.string z.x.delivered)).setCell ⟨BX, 6, none⟩ (.bool z.x.hasD)).setCell ⟨BX, 7, none⟩ (.slice z.ae z.x.echoes.length z.ce)).setCell ⟨BX, 8, none⟩ (.slice a3 ph.length c3)) = w7 at *
          cases hqd : z.x.hasD with
          | true =>
            have HV := Lib.hid (show handle f b z.x i 3 v = ((⟨z.x.id, z.x.echoed, z.x.hasE, v, true, z.x.delivered, true, z.x.echoes, ph⟩ : Nd), [(⟨3, z.x.id, -1, v⟩ : Ct)]) by rw [HHV.out, hqr, hqp, hqd]; rfl)
            rw [hqd] at hbx
            clear hqd hqr hqp
            obtain ⟨c0, c1, c2, c3, c4, c5, c6, c7, c8⟩ := Blk.c9 hbx
            obtain ⟨d0, d1, d2, d3, d4, d5, d6, d7, d8⟩ := Blk.c9 hbr
            obtain ⟨g0, g1, g2, g3, g4, g5, g6, g7, g8⟩ := Blk.f9 hbr
            have HBX := Lib.hid hbx; have HBR := Lib.hid hbr; have HE := Lib.hid he; have HR := Lib.hid hr; have HJ := Lib.hid J
            have HO := Lib.hid hO
            clear hbx hbr he hr J hO
            go_wp2_with fail
            clear c0 c1 c2 c3 c4 c5 c6 c7 c8
            clear d0 d1 d2 d3 d4 d5 d6 d7 d8
            clear g0 g1 g2 g3 g4 g5 g6 g7 g8
            refine bodyPost_ret (resNode (z := (⟨⟨z.x.id, z.x.echoed, z.x.hasE, v, true, z.x.delivered, true, z.x.echoes, ph⟩, z.ae, z.ce, a3, c3⟩ : NA)) rfl (HBR.out.set9 (.int .i64 z.x.id) (.string z.x.echoed) (.bool z.x.hasE) (.string v) (.bool true) (.string z.x.delivered) (.bool true) (.slice z.ae z.x.echoes.length z.ce) (.slice a3 ph.length c3)) rfl rfl) rfl ?_
            exact ⟨(⟨⟨z.x.id, z.x.echoed, z.x.hasE, v, true, z.x.delivered, true, z.x.echoes, ph⟩, z.ae, z.ce, a3, c3⟩ : NA), _, rfl, by rw [HV.out], ⟨HE.out.set9 HBR.out (by decide) hlr0 (J0.trans HJ.out) (.int .i64 z.x.id) (.string z.x.echoed) (.bool z.x.hasE) (.string v) (.bool true) (.string z.x.delivered) (.bool true) (.slice z.ae z.x.echoes.length z.ce) (.slice a3 ph.length c3), HR.out.set9 HBR.out (by decide) hlr0 (J0.trans HJ.out) (.int .i64 z.x.id) (.string z.x.echoed) (.bool z.x.hasE) (.string v) (.bool true) (.string z.x.delivered) (.bool true) (.slice z.ae z.x.echoes.length z.ce) (.slice a3 ph.length c3)⟩, by rw [HV.out]; exact own_other9 HO.out HBR.out (by decide) hlr (.int .i64 z.x.id) (.string z.x.echoed) (.bool z.x.hasE) (.string v) (.bool true) (.string z.x.delivered) (.bool true) (.slice z.ae z.x.echoes.length z.ce) (.slice a3 ph.length c3)⟩
          | false =>
            have hac := rAcc8_any a1 m1 c1 f gs w7 (HF.out.keep J)
            cases hqa : accB f gs with
            | false =>
              have HV := Lib.hid (show handle f b z.x i 3 v = ((⟨z.x.id, z.x.echoed, z.x.hasE, v, true, z.x.delivered, false, z.x.echoes, ph⟩ : Nd), [(⟨3, z.x.id, -1, v⟩ : Ct)]) by rw [HHV.out, hqr, hqp, hqd, hqa]; rfl)
              rw [show accS f gs = accB f gs from rfl, hqa] at hac
              have HAC := Lib.hid hac
              rw [hqd] at hbx
              clear hac hqa hqd hqr hqp
              obtain ⟨c0, c1, c2, c3, c4, c5, c6, c7, c8⟩ := Blk.c9 hbx
              go_wp2_with fail
              refine HAC.out.mono ?_
              rintro e w' ⟨rfl, rfl⟩
              clear c0 c1 c2 c3 c4 c5 c6 c7 c8
              clear HAC
              obtain ⟨c0, c1, c2, c3, c4, c5, c6, c7, c8⟩ := Blk.c9 hbx
              obtain ⟨d0, d1, d2, d3, d4, d5, d6, d7, d8⟩ := Blk.c9 hbr
              obtain ⟨g0, g1, g2, g3, g4, g5, g6, g7, g8⟩ := Blk.f9 hbr
              have HBX := Lib.hid hbx; have HBR := Lib.hid hbr; have HE := Lib.hid he; have HR := Lib.hid hr; have HJ := Lib.hid J
              have HO := Lib.hid hO
              clear hbx hbr he hr J hO
              go_wp2_with fail
              clear c0 c1 c2 c3 c4 c5 c6 c7 c8
              clear d0 d1 d2 d3 d4 d5 d6 d7 d8
              clear g0 g1 g2 g3 g4 g5 g6 g7 g8
              refine bodyPost_ret (resNode (z := (⟨⟨z.x.id, z.x.echoed, z.x.hasE, v, true, z.x.delivered, false, z.x.echoes, ph⟩, z.ae, z.ce, a3, c3⟩ : NA)) rfl (HBR.out.set9 (.int .i64 z.x.id) (.string z.x.echoed) (.bool z.x.hasE) (.string v) (.bool true) (.string z.x.delivered) (.bool false) (.slice z.ae z.x.echoes.length z.ce) (.slice a3 ph.length c3)) rfl rfl) rfl ?_
              exact ⟨(⟨⟨z.x.id, z.x.echoed, z.x.hasE, v, true, z.x.delivered, false, z.x.echoes, ph⟩, z.ae, z.ce, a3, c3⟩ : NA), _, rfl, by rw [HV.out], ⟨HE.out.set9 HBR.out (by decide) hlr0 (J0.trans HJ.out) (.int .i64 z.x.id) (.string z.x.echoed) (.bool z.x.hasE) (.string v) (.bool true) (.string z.x.delivered) (.bool false) (.slice z.ae z.x.echoes.length z.ce) (.slice a3 ph.length c3), HR.out.set9 HBR.out (by decide) hlr0 (J0.trans HJ.out) (.int .i64 z.x.id) (.string z.x.echoed) (.bool z.x.hasE) (.string v) (.bool true) (.string z.x.delivered) (.bool false) (.slice z.ae z.x.echoes.length z.ce) (.slice a3 ph.length c3)⟩, by rw [HV.out]; exact own_other9 HO.out HBR.out (by decide) hlr (.int .i64 z.x.id) (.string z.x.echoed) (.bool z.x.hasE) (.string v) (.bool true) (.string z.x.delivered) (.bool false) (.slice z.ae z.x.echoes.length z.ce) (.slice a3 ph.length c3)⟩
            | true =>
              have HV := Lib.hid (show handle f b z.x i 3 v = ((⟨z.x.id, z.x.echoed, z.x.hasE, v, true, v, true, z.x.echoes, ph⟩ : Nd), [(⟨3, z.x.id, -1, v⟩ : Ct)]) by rw [HHV.out, hqr, hqp, hqd, hqa]; rfl)
              rw [show accS f gs = accB f gs from rfl, hqa] at hac
              have HAC := Lib.hid hac
              rw [hqd] at hbx
              clear hac hqa hqd hqr hqp
              obtain ⟨c0, c1, c2, c3, c4, c5, c6, c7, c8⟩ := Blk.c9 hbx
              go_wp2_with fail
              refine HAC.out.mono ?_
              rintro e w' ⟨rfl, rfl⟩
              clear c0 c1 c2 c3 c4 c5 c6 c7 c8
              clear HAC
              obtain ⟨c0, c1, c2, c3, c4, c5, c6, c7, c8⟩ := Blk.c9 hbx
              obtain ⟨q0, q1, q2, q3, q4, q5, q6, q7, q8⟩ := Blk.f9 hbx
              go_upto_region 21 with fail
              clear c0 c1 c2 c3 c4 c5 c6 c7 c8
              clear q0 q1 q2 q3 q4 q5 q6 q7 q8
              replace he := he.set hbx (by decide) hlx0 (J0.trans J) 6 (.bool true)
              replace hr := hr.set hbx (by decide) hlx0 (J0.trans J) 6 (.bool true)
              replace hO := own_oth9 hO hbx (by decide) hlx 6 (.bool true)
              replace hbr := hbr.setOther n1 6 (.bool true)
              replace J := keeps_set J hlx 6 (.bool true)
              replace hbx := hbx.set 6 (.bool true)
              simp only [List.setIfInBounds_toArray, List.set_cons_succ, List.set_cons_zero] at hbx
              generalize w7.setCell ⟨BX, 6, none⟩ (.bool true) = w8 at *
              replace he := he.set hbx (by decide) hlx0 (J0.trans J) 5 (.string v)
              replace hr := hr.set hbx (by decide) hlx0 (J0.trans J) 5 (.string v)
              replace hO := own_oth9 hO hbx (by decide) hlx 5 (.string v)
              replace hbr := hbr.setOther n1 5 (.string v)
              replace J := keeps_set J hlx 5 (.string v)
              replace hbx := hbx.set 5 (.string v)
              simp only [List.setIfInBounds_toArray, List.set_cons_succ, List.set_cons_zero] at hbx
              generalize w8.setCell ⟨BX, 5, none⟩ (.string v) = w9 at *
              obtain ⟨c0, c1, c2, c3, c4, c5, c6, c7, c8⟩ := Blk.c9 hbx
              obtain ⟨d0, d1, d2, d3, d4, d5, d6, d7, d8⟩ := Blk.c9 hbr
              obtain ⟨g0, g1, g2, g3, g4, g5, g6, g7, g8⟩ := Blk.f9 hbr
              have HBX := Lib.hid hbx; have HBR := Lib.hid hbr; have HE := Lib.hid he; have HR := Lib.hid hr; have HJ := Lib.hid J
              have HO := Lib.hid hO
              clear hbx hbr he hr J hO
              go_wp2_with fail
              clear c0 c1 c2 c3 c4 c5 c6 c7 c8
              clear d0 d1 d2 d3 d4 d5 d6 d7 d8
              clear g0 g1 g2 g3 g4 g5 g6 g7 g8
              refine bodyPost_ret (resNode (z := (⟨⟨z.x.id, z.x.echoed, z.x.hasE, v, true, v, true, z.x.echoes, ph⟩, z.ae, z.ce, a3, c3⟩ : NA)) rfl (HBR.out.set9 (.int .i64 z.x.id) (.string z.x.echoed) (.bool z.x.hasE) (.string v) (.bool true) (.string v) (.bool true) (.slice z.ae z.x.echoes.length z.ce) (.slice a3 ph.length c3)) rfl rfl) rfl ?_
              exact ⟨(⟨⟨z.x.id, z.x.echoed, z.x.hasE, v, true, v, true, z.x.echoes, ph⟩, z.ae, z.ce, a3, c3⟩ : NA), _, rfl, by rw [HV.out], ⟨HE.out.set9 HBR.out (by decide) hlr0 (J0.trans HJ.out) (.int .i64 z.x.id) (.string z.x.echoed) (.bool z.x.hasE) (.string v) (.bool true) (.string v) (.bool true) (.slice z.ae z.x.echoes.length z.ce) (.slice a3 ph.length c3), HR.out.set9 HBR.out (by decide) hlr0 (J0.trans HJ.out) (.int .i64 z.x.id) (.string z.x.echoed) (.bool z.x.hasE) (.string v) (.bool true) (.string v) (.bool true) (.slice z.ae z.x.echoes.length z.ce) (.slice a3 ph.length c3)⟩, by rw [HV.out]; exact own_other9 HO.out HBR.out (by decide) hlr (.int .i64 z.x.id) (.string z.x.echoed) (.bool z.x.hasE) (.string v) (.bool true) (.string v) (.bool true) (.slice z.ae z.x.echoes.length z.ce) (.slice a3 ph.length c3)⟩
  have HV := Lib.hid (show handle f b z.x i kind v = ((⟨z.x.id, z.x.echoed, z.x.hasE, z.x.readied, z.x.hasR, z.x.delivered, z.x.hasD, z.x.echoes, z.x.readies⟩ : Nd), []) by exact h_other HI.out hk1 hk2 hk3)
  obtain ⟨c0, c1, c2, c3, c4, c5, c6, c7, c8⟩ := Blk.c9 hbx
  obtain ⟨d0, d1, d2, d3, d4, d5, d6, d7, d8⟩ := Blk.c9 hbr
  obtain ⟨g0, g1, g2, g3, g4, g5, g6, g7, g8⟩ := Blk.f9 hbr
  have HBX := Lib.hid hbx; have HBR := Lib.hid hbr; have HE := Lib.hid he; have HR := Lib.hid hr; have HJ := Lib.hid J
  clear hbx hbr he hr J
  go_wp2_with fail
  clear c0 c1 c2 c3 c4 c5 c6 c7 c8
  clear d0 d1 d2 d3 d4 d5 d6 d7 d8
  clear g0 g1 g2 g3 g4 g5 g6 g7 g8
  refine bodyPost_ret (resNode (z := (⟨⟨z.x.id, z.x.echoed, z.x.hasE, z.x.readied, z.x.hasR, z.x.delivered, z.x.hasD, z.x.echoes, z.x.readies⟩, z.ae, z.ce, z.ar, z.cr⟩ : NA)) rfl (HBR.out.set9 (.int .i64 z.x.id) (.string z.x.echoed) (.bool z.x.hasE) (.string z.x.readied) (.bool z.x.hasR) (.string z.x.delivered) (.bool z.x.hasD) (.slice z.ae z.x.echoes.length z.ce) (.slice z.ar z.x.readies.length z.cr)) rfl rfl) rfl ?_
  exact ⟨(⟨⟨z.x.id, z.x.echoed, z.x.hasE, z.x.readied, z.x.hasR, z.x.delivered, z.x.hasD, z.x.echoes, z.x.readies⟩, z.ae, z.ce, z.ar, z.cr⟩ : NA), _, rfl, by rw [HV.out], ⟨HE.out.set9 HBR.out (by decide) hlr0 (J0.trans HJ.out) (.int .i64 z.x.id) (.string z.x.echoed) (.bool z.x.hasE) (.string z.x.readied) (.bool z.x.hasR) (.string z.x.delivered) (.bool z.x.hasD) (.slice z.ae z.x.echoes.length z.ce) (.slice z.ar z.x.readies.length z.cr), HR.out.set9 HBR.out (by decide) hlr0 (J0.trans HJ.out) (.int .i64 z.x.id) (.string z.x.echoed) (.bool z.x.hasE) (.string z.x.readied) (.bool z.x.hasR) (.string z.x.delivered) (.bool z.x.hasD) (.slice z.ae z.x.echoes.length z.ce) (.slice z.ar z.x.readies.length z.cr)⟩, by rw [HV.out]; exact .nil _ _ (keeps_set9 HJ.out hlr (.int .i64 z.x.id) (.string z.x.echoed) (.bool z.x.hasE) (.string z.x.readied) (.bool z.x.hasR) (.string z.x.delivered) (.bool z.x.hasD) (.slice z.ae z.x.echoes.length z.ce) (.slice z.ar z.x.readies.length z.cr))⟩
end Go.Proofs.YtbcfkgolhklkaaaDoor
