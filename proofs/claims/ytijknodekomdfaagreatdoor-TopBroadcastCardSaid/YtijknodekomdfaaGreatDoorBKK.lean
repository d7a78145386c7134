/- Texts joined into one, what is needed of them (a program of ours). -/
import Derived.Test.YtijknodekomdfaaGreatDoorBKJ
namespace Go.Proofs.YtijknodekomdfaaGreatDoor
open Go.RowKit Go.Lib Go.Shelf

def stl (l : List Str) : List Value := l.map .string
def stA (l : List Str) (i : Nat) : Str := l.getD i ByteArray.empty
theorem stl_append (l m : List Str) : stl (l ++ m) = stl l ++ stl m := by simp [stl]
theorem stl_cells (l : List Str) : ∀ v ∈ stl l, v.oneCell' = true := by
  intro v hv
  obtain ⟨x, _, rfl⟩ := List.mem_map.1 hv
  rfl
theorem stl_at {w : World} {a : Option Addr} {n c : Nat} {l : List Str} (h : Rd w a n c 1 (stl l)) {i : Nat} (hi : i < n) : w.cell? (adr a i) = some (.string (stA l i)) := by
  have h1 : l.length = n := by have := h.len; simpa [stl] using this
  exact h.cell i _ (by simp [stl, stA, List.getD, show i < l.length by omega])
theorem drop_stA (l : List Str) (i : Nat) (h : i < l.length) : l.drop i = stA l i :: l.drop (i + 1) := by
  rw [List.drop_eq_getElem_cons h]; simp [stA, List.getD, h]
theorem stA_mem {l : List Str} {i : Nat} (h : i < l.length) : stA l i ∈ l := by simp [stA, List.getD, h]
theorem info_st : (Tryz.prog.info? 9).map (fun i => (i.zero, i.size, i.bytes)) = some (some (.string ⟨#[]⟩), 1, 16) := by kernel_rfl
theorem ty_st : STy Tryz.prog 81 9 1 16 := STy.of Tryz.underlying81 info_st rfl (by decide) (by decide)
set_option maxHeartbeats 1600000 in
theorem indexFuncT_any (a : Option Addr) (n c : Nat) (l : List Str) (w : World) (g : Nat) (lb : Array Value) (p : Str → Bool) (h : Rd w a n c 1 (stl l))
    (eg : ∀ args w, (callFunc g args).run Tryz.prog w = .ok (.enter g args) w) (hp : PredK Tryz.prog g lb .string p l w) :
    Calls Tryz.prog 98 #[.slice a n c, .func (.func g) #[] lb] w fun e w' => e = .returned (.int .i64 (idxFrom p l 0)) ∧ Keeps w w' := by
  have s1 := h.small
  have l1 : l.length = n := by have := h.len; simpa [stl] using this
  have L1 := Lib.hid l1; clear l1
  have HP := Lib.hid hp; clear hp
  go_enter Tryz.func98, Tryz.ntmps98
  go_wp2
  go_loopw [8] (fun v wr => ∃ k : Nat, k ≤ n ∧ v = .int .i64 k ∧ Keeps w wr ∧ Hid (idxFrom p l 0 = idxFrom p (l.drop k) k)) (fun v _ => n - (RowKit.intOf v).toNat)
  case atStart => exact ⟨0, Nat.zero_le _, rfl, Keeps.refl _, rfl⟩
  case round =>
    obtain ⟨k, hk, rfl, K1, HI⟩ := hrel
    by_cases hlt : k < n
    · have g0 := stl_at (h.keep K1) hlt
      have ha := h.isSome (by omega)
      have hcall := HP.out wr (stA l k) (stA_mem (by have := L1.out; omega)) K1
      have HC := Lib.hid hcall; clear hcall
      have hdr := drop_stA l k (by have := L1.out; omega)
      have HDR := Lib.hid hdr; clear hdr
      generalize stA l k = x at *
      cases hq : p x with
      | true =>
        rw [hq] at HC
        have HQ := Lib.hid hq; clear hq
        go_wp2_with (go_at_fn g; refine (HC.out).mono ?_; rintro e w' ⟨rfl, K2⟩)
        go_ret
        exact ⟨by rw [HI.out, HDR.out, idxFrom, if_pos HQ.out]; rfl, K1.trans K2⟩
      | false =>
        rw [hq] at HC
        have HQ := Lib.hid hq; clear hq
        go_wp2_with (go_at_fn g; refine (HC.out).mono ?_; rintro e w' ⟨rfl, K2⟩)
        go_roundw
        case rel => exact ⟨k + 1, by omega, by go_num, K1.trans K2, hrfl <| by rw [HI.out, HDR.out, idxFrom, if_neg (by rw [HQ.out]; simp)]⟩
        case measure => simp [RowKit.intOf]; omega
    · go_wp2
      go_ret
      exact ⟨by rw [HI.out, List.drop_eq_nil_iff.2 (by have := L1.out; omega), idxFrom]; rfl, K1⟩
set_option maxHeartbeats 800000 in
theorem containsFuncT_any (a : Option Addr) (n c : Nat) (l : List Str) (w : World) (g : Nat) (lb : Array Value) (p : Str → Bool) (h : Rd w a n c 1 (stl l))
    (eg : ∀ args w, (callFunc g args).run Tryz.prog w = .ok (.enter g args) w) (hp : PredK Tryz.prog g lb .string p l w) :
    Calls Tryz.prog 37 #[.slice a n c, .func (.func g) #[] lb] w fun e w' => e = .returned (.bool (l.any p)) ∧ Keeps w w' := by
  have HX := Lib.hid (idxFrom_any p l 0)
  have hcon := indexFuncT_any a n c l w g lb p h eg hp
  generalize idxFrom p l 0 = r at hcon HX
  have HC := Lib.hid hcon; clear hcon eg hp h
  go_enter Tryz.func37, Tryz.ntmps37
  go_wp2_with (go_at_call 98; refine HC.out.mono ?_; rintro e w' ⟨rfl, K2⟩)
  go_ret
  exact ⟨by rw [← HX.out]; rfl, K2⟩

theorem bit1_S (s : S) (i : Nat) : (s >>> i &&& 1#16 == 1#16) = s.getLsbD i := by
  have h := bit0_S s i
  have h2 : (s >>> i &&& 1#16) = 0#16 ∨ (s >>> i &&& 1#16) = 1#16 := by
    have : (s >>> i &&& 1#16).toNat < 2 := by
      rw [BitVec.toNat_and]
      exact Nat.lt_of_le_of_lt Nat.and_le_right (by decide)
    rcases (by omega : (s >>> i &&& 1#16).toNat = 0 ∨ (s >>> i &&& 1#16).toNat = 1) with h | h
    · exact .inl (BitVec.eq_of_toNat_eq h)
    · exact .inr (BitVec.eq_of_toNat_eq h)
  rcases h2 with e | e <;> rw [e] at h ⊢
  · simpa using h
  · have h3 : (1#16 == 0#16) = false := rfl
    rw [h3] at h
    simpa using h
set_option maxHeartbeats 1000000 in
theorem honest1_any (z : NA) (BX : Nat) (byz : S) (v0 v2 v3 v4 : Value) (w : World) (hX : Blk w BX 75 #[v0, .int .u16 (sv byz), v2, v3, v4]) :
    Calls Tryz.prog 161 (#[vn z] ++ #[.pointer (some ⟨BX, 0, none⟩)]) w fun e w' => e = .returned (.bool (honB byz z.x)) ∧ Keeps w w' := by
  have kA := (Keeps.refl w).alloc (.cells #[.int .i64 z.x.id, .string z.x.echoed, .bool z.x.hasE, .string z.x.readied, .bool z.x.hasR, .string z.x.delivered, .bool z.x.hasD, .slice z.ae z.x.echoes.length z.ce, .slice z.ar z.x.readies.length z.cr] 153)
  have hc := (hX.keep kA).cell 1 (v := .int .u16 (sv byz)) rfl
  have HK := Lib.hid kA
  clear kA hX
  unfold vn honB
  by_cases h0 : 0 ≤ z.x.id
  · by_cases h1 : z.x.id < 16
    · obtain ⟨k, hk⟩ : ∃ k : Nat, z.x.id = (k : Int) := ⟨z.x.id.toNat, by omega⟩
      rw [hk] at h0 h1 hc HK ⊢
      have hb := bit1_S byz k
      have hmin : min k 16 = k := by omega
      have HB := Lib.hid hb
      clear hk hb
      go_enter Tryz.func161, Tryz.ntmps161
      go_wp2_with fail
      go_ret
      refine ⟨?_, HK.out⟩
      rw [HB.out, Int.toNat_natCast]
      simp [h1]
    · have e1 : decide (0 ≤ z.x.id ∧ z.x.id < 16) = false := by simp [h1]
      rw [e1]
      clear e1
      go_enter Tryz.func161, Tryz.ntmps161
      go_wp2_with fail
      go_ret
      exact ⟨rfl, HK.out⟩
  · have e1 : decide (0 ≤ z.x.id ∧ z.x.id < 16) = false := by simp [h0]
    rw [e1]
    clear e1
    go_enter Tryz.func161, Tryz.ntmps161
    go_wp2_with fail
    go_ret
    exact ⟨rfl, HK.out⟩
theorem idx_cases {α : Type} (p : α → Bool) : ∀ (l : List α) (k : Nat), (idxFrom p l k = -1 ∧ ∀ x ∈ l, p x = false) ∨ ∃ i, i < l.length ∧ idxFrom p l k = ((k + i : Nat) : Int) ∧ (∀ x ∈ l.take i, p x = false) ∧ (l[i]?.map p) = some true
  | [], k => .inl ⟨rfl, fun x hx => by cases hx⟩
  | x :: t, k => by
    by_cases hx : p x = true
    · exact .inr ⟨0, by simp, by simp [idxFrom, hx], by simp, by simp [hx]⟩
    · have hx' : p x = false := by simpa using hx
      rcases idx_cases p t (k + 1) with ⟨h1, h2⟩ | ⟨i, h1, h2, h3, h4⟩
      · exact .inl ⟨by rw [idxFrom, if_neg hx, h1], fun y hy => by rcases List.mem_cons.1 hy with rfl | hy; exact hx'; exact h2 y hy⟩
      · refine .inr ⟨i + 1, by simpa using h1, by rw [idxFrom, if_neg hx, h2]; congr 1; omega, fun y hy => ?_, by simpa using h4⟩
        rw [List.take_succ_cons] at hy
        rcases List.mem_cons.1 hy with rfl | hy
        · exact hx'
        · exact h3 y hy
/-- the zero node as a value -/
def zN : Value := .agg #[.int .i64 0, .string ⟨#[]⟩, .bool false, .string ⟨#[]⟩, .bool false, .string ⟨#[]⟩, .bool false, .slice none 0 0, .slice none 0 0]
def honN (byz : S) (l : List NA) : List NA := l.filter fun z => !honB byz z.x
theorem honN_x (byz : S) (l : List NA) : (honN byz l).map NA.x = honL byz (l.map NA.x) := by
  unfold honN honL
  rw [List.filter_map]; rfl
theorem set_take9 (dk : List NA) (i : Nat) (z : NA) (h : i < dk.length) : (dk.set i z).take (i + 1) = dk.take i ++ [z] := by
  rw [List.take_succ_eq_append_getElem (by rw [List.length_set]; exact h), List.getElem_set_self, List.take_set_of_le (Nat.le_refl _)]
theorem clear9 (W : World) (w0 : World) (g n cap : Nat) (dk : List NA) (hO : Own 153 9 w0 W (.slice (some ⟨g, 0, none⟩) n cap) n (nl dk)) (i : Nat) (hi : i < n) :
    (∀ ty, (Builtin.clear_ #[72] ty #[.slice (some ⟨g, i * 9, none⟩) (n - i) (cap - i)]).run Tryz.prog W = .ok (.tuple #[]) (W.setCells g (i * 9) (Builtin.zeroCells zN.cells (n - i)).toList)) ∧
    Own 153 9 w0 (W.setCells g (i * 9) (Builtin.zeroCells zN.cells (n - i)).toList) (.slice (some ⟨g, 0, none⟩) i cap) i (nl (dk.take i)) := by
  have hl : (nl dk).length = n * 9 := hO.1.1
  refine ⟨fun ty => clearE Tryz.underlying72 Tryz.zeroValue153 (by decide) (by decide) g _ _ _ (by omega) (fun j hj => by change j < _ * 9 at hj; rw [hO.1.cellAt _ (by omega), List.getElem?_eq_getElem (by rw [hl]; omega)]; rfl) (fun j _ => hO.1.frozenAt _), ?_⟩
  obtain ⟨zs, hz3, hzg, hz5⟩ := own_putAll (Builtin.zeroCells zN.cells (n - i)).toList (i * 9) hO
  have hfin := own_cut' hz3 i (by omega)
  have hzl : zs.length = n * 9 := hz3.1.1
  have e1 : zs.take (i * 9) = nl (dk.take i) := by
    rw [nl_take]
    apply List.ext_getElem?
    intro j
    by_cases hj : j < i * 9
    · rw [List.getElem?_take, if_pos hj, hz5 j, if_neg (by omega), List.getElem?_take, if_pos hj]
    · rw [List.getElem?_eq_none (by rw [List.length_take]; omega), List.getElem?_eq_none (by rw [List.length_take]; omega)]
  rw [e1] at hfin
  exact hfin
set_option maxHeartbeats 4000000 in
set_option maxRecDepth 20000 in
theorem delHon_any (w0 w : World) (a : Option Addr) (cap : Nat) (l : List NA) (BX : Nat) (N : Int) (byz : S) (source : Int) (nv gv : Value) (hO : Own 153 9 w0 w (.slice a l.length cap) l.length (nl l)) (hl : l.length ≤ 1000000)
    (hX : Blk w BX 75 #[.int .i64 N, .int .u16 (sv byz), .int .i64 source, nv, gv]) :
    Calls Tryz.prog 159 #[.slice a l.length cap, .func (.func 161) #[] #[.pointer (some ⟨BX, 0, none⟩)]] w fun e w' => ∃ v, e = .returned v ∧ Own 153 9 w0 w' v (honN byz l).length (nl (honN byz l)) ∧ Blk w' BX 75 #[.int .i64 N, .int .u16 (sv byz), .int .i64 source, nv, gv] := by
  have hix := indexFuncN_any a l.length cap l w 161 #[.pointer (some ⟨BX, 0, none⟩)] (fun z => honB byz z.x) hO.row0.rd (enters_of Tryz.func161 (by kernel_rfl) rfl) (fun W z _ hk => honest1_any z BX byz _ _ _ _ W (hX.keep hk))
  obtain ⟨n, hn⟩ : ∃ n, n = l.length := ⟨_, rfl⟩
  rcases idx_cases (fun z : NA => honB byz z.x) l 0 with ⟨h1, h2⟩ | ⟨i0, h1, h2, h3, h4⟩
  · rw [h1] at hix
    have HIX := Lib.hid hix
    have hH : honN byz l = l := List.filter_eq_self.2 fun z hz => by simp [h2 z hz]
    have HH := Lib.hid hH
    have HO := Lib.hid hO
    clear hix h1 h2 hH hO
    go_enter Tryz.func159, Tryz.ntmps159
    go_wp2_with fail
    refine HIX.out.mono ?_
    rintro e w1 ⟨rfl, k1⟩
    have HK := Lib.hid k1
    clear k1
    go_wp2_with fail
    go_ret
    exact ⟨_, rfl, by rw [HH.out]; exact HO.out.keep HK.out, hX.keep HK.out⟩
  · rw [h2, Nat.zero_add] at hix
    have HIX := Lib.hid hix
    obtain ⟨g, cap', hgc, hnc, hcm⟩ := hO.some (by omega)
    injection hgc with e1 _ e3
    subst e1 e3
    rw [← hn] at hO hnc h1 hl ⊢ HIX
    have HT : Hid (l.take i0 = (l.take (i0 + 1)).filter fun z => !honB byz z.x) := Lib.hid (by
      rw [List.take_succ_eq_append_getElem (by omega), List.filter_append, List.filter_eq_self.2 (fun z hz => by simp [h3 z hz])]
      rw [List.getElem?_eq_getElem (by omega)] at h4
      have h5 : honB byz (l[i0]'(by omega)).x = true := by simpa using h4
      simp [h5])
    have HO := Lib.hid hO
    have HLN := Lib.hid hn
    unfold maxLen at hcm
    clear hix h2 h3 h4 hO hn
    have hm1 : ((i0 : Int) == -1) = false := by rw [beq_eq_false_iff_ne]; omega
    go_enter Tryz.func159, Tryz.ntmps159
    go_wp2_with fail
    refine HIX.out.mono ?_
    rintro e w1 ⟨rfl, k1⟩
    have hO := HO.out.keep k1
    have hX := hX.keep k1
    clear k1 HO HIX
    go_wp2_with fail
    clear hm1
    go_loopw [5, 6] (fun s5 s6 wr => ∃ (i j : Nat) (dk : List NA), s5 = .int .i64 i ∧ s6 = .int .i64 j ∧ i < j ∧ j ≤ n ∧ Own 153 9 w0 wr (.slice (some ⟨g, 0, none⟩) n cap) n (nl dk) ∧ Blk wr BX 75 #[.int .i64 N, .int .u16 (sv byz), .int .i64 source, nv, gv] ∧ Hid (dk.take i = (l.take j).filter fun z => !honB byz z.x) ∧ Hid (dk.drop j = l.drop j) ∧ Hid (dk.length = n)) (fun _ s6 _ => n - (RowKit.intOf s6).toNat)
    case atStart => exact ⟨i0, i0 + 1, l, rfl, rfl, Nat.lt_succ_self _, h1, hO, hX, HT, Lib.hid rfl, Lib.hid HLN.out.symm⟩
    case round =>
      clear hO hX HT
      obtain ⟨i, j, dk, rfl, rfl, hij, hjn, hO, hX, HT, HD, HL⟩ := hrel
      by_cases hlt : j < n
      · obtain ⟨p0, p1, p2, p3, p4, p5, p6, p7, p8⟩ := node_at hO hlt
        have HXE : Hid (l.drop j = naA dk j :: l.drop (j + 1)) := Lib.hid (by
          have h1 := drop_naA dk j (by have := HL.out; omega)
          rw [HD.out] at h1
          have h2 : (l.drop j).drop 1 = l.drop (j + 1) := by rw [List.drop_drop]
          rw [h1] at h2
          rw [h1, ← h2]; rfl)
        generalize naA dk j = z at *
        have kA := (Keeps.refl wr).alloc (.cells #[.int .i64 z.x.id, .string z.x.echoed, .bool z.x.hasE, .string z.x.readied, .bool z.x.hasR, .string z.x.delivered, .bool z.x.hasD, .slice z.ae z.x.echoes.length z.ce, .slice z.ar z.x.readies.length z.cr] 153)
        have hbx := Blk.new wr 153 #[.int .i64 z.x.id, .string z.x.echoed, .bool z.x.hasE, .string z.x.readied, .bool z.x.hasR, .string z.x.delivered, .bool z.x.hasD, .slice z.ae z.x.echoes.length z.ce, .slice z.ar z.x.readies.length z.cr]
        have hcl := honest1_any z BX byz _ _ _ _ _ (hX.keep kA)
        have HC := Lib.hid hcl
        have HO := Lib.hid (hO.keep kA); have HX := Lib.hid (hX.keep kA); have HBX := Lib.hid hbx
        obtain ⟨c0, c1, c2, c3, c4, c5, c6, c7, c8⟩ := Blk.c9 hbx
        clear hcl hO hX kA hbx
        unfold vn at HC
        go_wp2_with fail
        refine HC.out.mono ?_
        rintro e w2 ⟨rfl, k2⟩
        have hO := HO.out.keep k2
        have hX := HX.out.keep k2
        have hbx := HBX.out.keep k2
        have HTK : Hid ((l.take (j + 1)).filter (fun z => !honB byz z.x) = dk.take i ++ (if honB byz z.x then [] else [z])) := Lib.hid (by
          have h1 : l.take (j + 1) = l.take j ++ [z] := by
            have h0 : j < l.length := by have := HLN.out; omega
            have h2 := HXE.out
            rw [List.drop_eq_getElem_cons h0] at h2
            injection h2 with h2 _
            rw [List.take_succ_eq_append_getElem h0, h2]
          rw [h1, List.filter_append, ← HT.out]
          cases hq : honB byz z.x <;> simp [hq])
        clear HO HX HBX HC k2 c0 c1 c2 c3 c4 c5 c6 c7 c8 p0 p1 p2 p3 p4 p5 p6 p7 p8
        cases hq : honB byz z.x with
        | true =>
          have HOX := Lib.hid (And.intro hO hX)
          rw [hq] at HTK
          clear hO hX hbx hq
          go_wp2_with fail
          go_roundw
          case rel => exact ⟨i, j + 1, dk, by go_num, by go_num, by omega, by omega, HOX.out.1, HOX.out.2, Lib.hid (by rw [HTK.out]; simp), Lib.hid (by rw [← List.drop_drop, HD.out, List.drop_drop]), HL⟩
          case measure => simp [RowKit.intOf]; omega
        | false =>
          rw [hq] at HTK
          obtain ⟨p0, p1, p2, p3, p4, p5, p6, p7, p8⟩ := node_at hO (d := i) (by omega)
          obtain ⟨q0, q1, q2, q3, q4, q5, q6, q7, q8⟩ := node_fz hO i
          obtain ⟨c0, c1, c2, c3, c4, c5, c6, c7, c8⟩ := Blk.c9 hbx
          have hO2 := own_set9 hO (i * 9) (.int .i64 z.x.id) (.string z.x.echoed) (.bool z.x.hasE) (.string z.x.readied) (.bool z.x.hasR) (.string z.x.delivered) (.bool z.x.hasD) (.slice z.ae z.x.echoes.length z.ce) (.slice z.ar z.x.readies.length z.cr)
          rw [← nl_set dk i z (by have := HL.out; omega)] at hO2
          have hX2 := blk_grown9 hX (grown9n w2 g (i * 9) (.int .i64 z.x.id) (.string z.x.echoed) (.bool z.x.hasE) (.string z.x.readied) (.bool z.x.hasR) (.string z.x.delivered) (.bool z.x.hasD) (.slice z.ae z.x.echoes.length z.ce) (.slice z.ar z.x.readies.length z.cr)) (blk_ne hX hO.1 (by decide))
          have HOX := Lib.hid (And.intro hO2 hX2)
          clear hO2 hX2 hO hX hq hbx
          go_wp2_with fail
          clear p0 p1 p2 p3 p4 p5 p6 p7 p8 q0 q1 q2 q3 q4 q5 q6 q7 q8 c0 c1 c2 c3 c4 c5 c6 c7 c8
          go_roundw
          case rel => exact ⟨i + 1, j + 1, dk.set i z, by go_num, by go_num, by omega, by omega, HOX.out.1, HOX.out.2, Lib.hid (by rw [HTK.out, set_take9 _ _ _ (by have := HL.out; omega)]; rfl), Lib.hid (by rw [List.drop_set_of_lt (by omega), ← List.drop_drop, HD.out, List.drop_drop]), Lib.hid (by rw [List.length_set]; exact HL.out)⟩
          case measure => simp [RowKit.intOf]; omega
      · have e1 : j = n := by omega
        subst e1
        have hcl := clear9 wr w0 g j cap dk hO i hij
        have hHN : dk.take i = honN byz l := by rw [HT.out, List.take_of_length_le (by have := HLN.out; omega)]; rfl
        have hHl : i = (honN byz l).length := by rw [← hHN, List.length_take]; have := HL.out; omega
        have HHN := Lib.hid hHN
        have HHL := Lib.hid hHl
        have HO := Lib.hid hcl.2
        have hc := hcl.1
        have hX := blk_grown9 hX (own_putAll (Builtin.zeroCells zN.cells (j - i)).toList (i * 9) hO).choose_spec.2.1 (blk_ne hX hO.1 (by decide))
        have HX := Lib.hid hX
        have hic : i < cap := by omega
        clear hO hX hHN hHl hcl
        go_wp2_with fail
        rename_i cs heq
        obtain rfl : cs = zN.cells := by rw [heq]; rfl
        go_ret
        exact ⟨_, rfl, by rw [← HHN.out, List.length_take, ← List.length_take, HHN.out, ← HHL.out, ← HHN.out]; exact HO.out, HX.out⟩
theorem honest39_any (w : World) (N : Int) (byz : S) (source : Int) (an : Option Addr) (cn : Nat) (nas : List NA) (gv : Value) (hn : Rd w an nas.length cn 9 (nl nas)) (hl : nas.length ≤ 1000000) :
    Calls Tryz.prog 97 #[vCast N byz source (.slice an nas.length cn) gv] w fun e w' => ∃ v, e = .returned v ∧ Own 153 9 w w' v (honN byz nas).length (nl (honN byz nas)) := by
  have kA := (Keeps.refl w).alloc (.cells #[.int .i64 N, .int .u16 (sv byz), .int .i64 source, .slice an nas.length cn, gv] 75)
  have hX := Blk.new w 75 #[.int .i64 N, .int .u16 (sv byz), .int .i64 source, .slice an nas.length cn, gv]
  have hcl := cloneN_any an cn nas _ (hn.keep kA) hl
  have HCL := Lib.hid hcl; have HX := Lib.hid hX; have HK := Lib.hid kA
  clear hcl hX kA hn
  unfold vCast
  go_enter Tryz.func97, Tryz.ntmps97
  go_wp2_with fail
  refine HCL.out.mono ?_
  rintro e w1 ⟨v, rfl, hO⟩
  obtain ⟨a1, c1, rfl, _⟩ := hO.rd
  have hd := delHon_any _ w1 a1 c1 nas w.heap.size N byz source _ gv hO hl (HX.out.keep hO.2)
  have HD := Lib.hid hd
  clear hd hO HCL HX
  go_wp2_with fail
  refine HD.out.mono ?_
  rintro e w2 ⟨v, rfl, hO, _⟩
  have HO := Lib.hid hO
  clear hO HD
  go_wp2_with fail
  go_ret
  exact ⟨v, rfl, HO.out.since HK.out⟩

def delN (l : List NA) : List Str := (l.filter fun z => z.x.hasD).map fun z => z.x.delivered
theorem delN_x (byz : S) (l : List NA) : delN (honN byz l) = delL byz (l.map NA.x) := by
  unfold delN delL
  rw [← honN_x, List.filter_map, List.map_map]; rfl
theorem delN_succ (l : List NA) (k : Nat) (h : k < l.length) : delN (l.take (k + 1)) = delN (l.take k) ++ (if (naA l k).x.hasD then [(naA l k).x.delivered] else []) := by
  rw [take_naA l k h]
  unfold delN
  rw [List.filter_append, List.map_append]
  cases hq : (naA l k).x.hasD <;> simp [hq]
set_option maxHeartbeats 1000000 in
theorem deliveredL_any (w : World) (N : Int) (byz : S) (source : Int) (an : Option Addr) (cn : Nat) (nas : List NA) (gv : Value) (hn : Rd w an nas.length cn 9 (nl nas)) (hl : nas.length ≤ 1000000) :
    Calls Tryz.prog 35 #[vCast N byz source (.slice an nas.length cn) gv] w fun e w' => ∃ v, e = .returned v ∧ Own 9 1 w w' v (delL byz (nas.map NA.x)).length (stl (delL byz (nas.map NA.x))) := by
  have kA := (Keeps.refl w).alloc (.cells #[.int .i64 N, .int .u16 (sv byz), .int .i64 source, .slice an nas.length cn, gv] 75)
  have hh := honest39_any _ N byz source an cn nas gv (hn.keep kA) hl
  unfold vCast at hh
  have hHl : (honN byz nas).length ≤ 1000000 := Nat.le_trans (List.length_filter_le _ _) hl
  rw [← delN_x]
  generalize honN byz nas = H at hh hHl ⊢
  have HH := Lib.hid hh; have HK := Lib.hid kA
  clear hh kA hn
  unfold vCast
  go_enter Tryz.func35, Tryz.ntmps35
  go_wp2_with fail
  refine HH.out.mono ?_
  rintro e w1 ⟨v, rfl, hO⟩
  obtain ⟨ah, ch, rfl, hr⟩ := hO.rd
  have HR := Lib.hid hr
  have HK1 := Lib.hid (HK.out.trans hO.2)
  clear hr hO HH HK
  go_wp2_with fail
  go_loopw [3, 9] (fun s3 s9 wr => ∃ (k : Nat) (o : List Str), k ≤ H.length ∧ s9 = .int .i64 k ∧ Own 9 1 w1 wr s3 o.length (stl o) ∧ Hid (delN (H.take k) = o) ∧ Hid (o.length ≤ k)) (fun _ s9 _ => H.length - (RowKit.intOf s9).toNat)
  case atStart => exact ⟨0, [], Nat.zero_le _, rfl, .nil _ _ (Keeps.refl _), Lib.hid rfl, Lib.hid (Nat.le_refl _)⟩
  case round =>
    obtain ⟨k, o, hk, rfl, hO, HD, HL⟩ := hrel
    have K := hO.2
    by_cases hlt : k < H.length
    · obtain ⟨p0, p1, p2, p3, p4, p5, p6, p7, p8⟩ := nl_at (HR.out.keep K) hlt
      have hao := (HR.out.keep K).isSome (by omega)
      have HDS := Lib.hid (delN_succ H k hlt)
      generalize naA H k = z at *
      have kB := (Keeps.refl wr).alloc (.cells #[.int .i64 z.x.id, .string z.x.echoed, .bool z.x.hasE, .string z.x.readied, .bool z.x.hasR, .string z.x.delivered, .bool z.x.hasD, .slice z.ae z.x.echoes.length z.ce, .slice z.ar z.x.readies.length z.cr] 153)
      have hbx := Blk.new wr 153 #[.int .i64 z.x.id, .string z.x.echoed, .bool z.x.hasE, .string z.x.readied, .bool z.x.hasR, .string z.x.delivered, .bool z.x.hasD, .slice z.ae z.x.echoes.length z.ce, .slice z.ar z.x.readies.length z.cr]
      obtain ⟨c0, c1, c2, c3, c4, c5, c6, c7, c8⟩ := Blk.c9 hbx
      have HO := Lib.hid (hO.keep kB)
      clear hO K kB hbx
      cases hq : z.x.hasD with
      | false =>
        have HDT : Hid (delN (H.take (k + 1)) = o) := Lib.hid (by rw [HDS.out, hq, HD.out]; simp)
        clear HDS
        rw [hq] at p6 c6 HO
        simp only [hq] at p0 p1 p2 p3 p4 p5 p7 p8 c0 c1 c2 c3 c4 c5 c7 c8
        go_wp2_with fail
        clear p0 p1 p2 p3 p4 p5 p6 p7 p8 c0 c1 c2 c3 c4 c5 c6 c7 c8 hq
        go_roundw
        case rel => exact ⟨k + 1, o, by omega, by go_num, HO.out, HDT, Lib.hid (by have := HL.out; omega)⟩
        case measure => simp [RowKit.intOf]; omega
      | true =>
        have HDT : Hid (delN (H.take (k + 1)) = o ++ [z.x.delivered]) := Lib.hid (by rw [HDS.out, hq, HD.out]; simp)
        clear HDS HD
        rw [hq] at p6 c6 HO
        simp only [hq] at p0 p1 p2 p3 p4 p5 p7 p8 c0 c1 c2 c3 c4 c5 c7 c8
        have hHL2 : o.length + 1 ≤ 10000000 := by have := HL.out; omega
        have hc : (wr.alloc (.cells #[.int .i64 z.x.id, .string z.x.echoed, .bool z.x.hasE, .string z.x.readied, .bool z.x.hasR, .string z.x.delivered, .bool true, .slice z.ae z.x.echoes.length z.ce, .slice z.ar z.x.readies.length z.cr] 153)).heap.size = wr.heap.size + 1 := World.size_alloc ..
        have r1 : Rd ((wr.alloc (.cells #[.int .i64 z.x.id, .string z.x.echoed, .bool z.x.hasE, .string z.x.readied, .bool z.x.hasR, .string z.x.delivered, .bool true, .slice z.ae z.x.echoes.length z.ce, .slice z.ar z.x.readies.length z.cr] 153)).alloc (.cells #[.string z.x.delivered] 9)) (some ⟨(wr.alloc (.cells #[.int .i64 z.x.id, .string z.x.echoed, .bool z.x.hasE, .string z.x.readied, .bool z.x.hasR, .string z.x.delivered, .bool true, .slice z.ae z.x.echoes.length z.ce, .slice z.ar z.x.readies.length z.cr] 153)).heap.size, 0, none⟩) 1 1 1 (stl [z.x.delivered]) := rd_new 9 1 (wr.alloc (.cells #[.int .i64 z.x.id, .string z.x.echoed, .bool z.x.hasE, .string z.x.readied, .bool z.x.hasR, .string z.x.delivered, .bool true, .slice z.ae z.x.echoes.length z.ce, .slice z.ar z.x.readies.length z.cr] 153)) _ 1 (by decide) rfl
        rw [hc] at r1
        have kC := (Keeps.refl (wr.alloc (.cells #[.int .i64 z.x.id, .string z.x.echoed, .bool z.x.hasE, .string z.x.readied, .bool z.x.hasR, .string z.x.delivered, .bool true, .slice z.ae z.x.echoes.length z.ce, .slice z.ar z.x.readies.length z.cr] 153))).alloc (.cells #[.string z.x.delivered] 9)
        have HR1 := Lib.hid r1
        have HO2 := Lib.hid (HO.out.keep kC)
        have HHH := Lib.hid hHL2
        clear r1 kC HO hc hq hHL2
        go_wp2_with (at_builtin; refine wp_app ty_st rfl _ _ rfl HO2.out rfl rfl HR1.out (stl_cells _) HHH.out ?_)
        intro v' w2 hO1 hgr
        rw [← stl_append] at hO1
        have HOF := Lib.hid hO1
        clear hO1 hgr
        go_wp2_with fail
        clear p0 p1 p2 p3 p4 p5 p6 p7 p8 c0 c1 c2 c3 c4 c5 c6 c7 c8
        go_roundw
        case rel => exact ⟨k + 1, o ++ [z.x.delivered], by omega, by go_num, by rw [List.length_append]; exact HOF.out, HDT, Lib.hid (by rw [List.length_append, List.length_singleton]; have := HL.out; omega)⟩
        case measure => simp [RowKit.intOf]; omega
    · have e1 : k = H.length := by omega
      have HE : Hid (delN H = o) := Lib.hid (by rw [← HD.out, e1, List.take_length])
      clear e1 HD
      have HO := Lib.hid hO
      clear hO
      go_wp2_with fail
      go_ret
      exact ⟨_, rfl, by rw [HE.out]; exact HO.out.since HK1.out⟩
theorem consPred_any (y x : Str) (t : List Str) (ah : Option Addr) (ch BL : Nat) (W : World) (hc : W.cell? ⟨BL, 0, none⟩ = some (.slice ah (x :: t).length ch)) (hr : Rd W ah (x :: t).length ch 1 (stl (x :: t))) :
    Calls Tryz.prog 92 (#[.string y] ++ #[.pointer (some ⟨BL, 0, none⟩)]) W fun e w' => e = .returned (.bool (decide (y ≠ x))) ∧ Keeps W w' := by
  have g0 := stl_at hr (i := 0) (by simp)
  have ha := hr.isSome (by simp)
  have hp : 0 < (x :: t).length := by simp
  have hx : stA (x :: t) 0 = x := rfl
  rw [hx] at g0
  generalize (x :: t).length = m at *
  clear hr hx
  go_enter Tryz.func92, Tryz.ntmps92
  go_wp2_with fail
  go_ret
  refine ⟨?_, Keeps.refl _⟩
  show Ending.returned (Value.bool (!decide (y = x))) = _
  by_cases h : y = x <;> simp [h]
set_option maxHeartbeats 1000000 in
theorem consistent39_any (w : World) (N : Int) (byz : S) (source : Int) (an : Option Addr) (cn : Nat) (nas : List NA) (gv : Value) (hn : Rd w an nas.length cn 9 (nl nas)) (hl : nas.length ≤ 1000000) :
    Calls Tryz.prog 32 #[vCast N byz source (.slice an nas.length cn) gv] w fun e w' => e = .returned (.bool (consB (delL byz (nas.map NA.x)))) ∧ Keeps w w' := by
  have kA := (Keeps.refl w).alloc (.cells #[.int .i64 N, .int .u16 (sv byz), .int .i64 source, .slice an nas.length cn, gv] 75)
  have hh := deliveredL_any _ N byz source an cn nas gv (hn.keep kA) hl
  unfold vCast at hh
  generalize delL byz (nas.map NA.x) = D at hh ⊢
  have HH := Lib.hid hh; have HK := Lib.hid kA
  clear hh kA hn
  unfold vCast
  go_enter Tryz.func32, Tryz.ntmps32
  go_wp2_with fail
  refine HH.out.mono ?_
  rintro e w1 ⟨v, rfl, hO⟩
  obtain ⟨ah, ch, rfl, hr⟩ := hO.rd
  have HKW := Lib.hid (HK.out.trans hO.2)
  have kB := (Keeps.refl w1).alloc (.cells #[.slice ah D.length ch] 81)
  have hbx := Blk.new w1 81 #[.slice ah D.length ch]
  by_cases h0 : D.length = 0
  · have hD : D = [] := List.eq_nil_of_length_eq_zero h0
    subst hD
    have HKF := Lib.hid (HKW.out.trans kB)
    clear HH HK hO hr kB hbx h0
    go_wp2_with fail
    go_ret
    exact ⟨rfl, HKF.out⟩
  · have h0b : (((D.length : Nat) : Int) == 0) = false := by rw [beq_eq_false_iff_ne]; omega
    obtain ⟨x, t, rfl⟩ : ∃ x t, D = x :: t := by
      cases D with
      | nil => simp at h0
      | cons x t => exact ⟨x, t, rfl⟩
    have hcf := containsFuncT_any ah (x :: t).length ch (x :: t) _ 92 #[.pointer (some ⟨w1.heap.size, 0, none⟩)] (fun y => decide (y ≠ x)) (hr.keep kB) (enters_of Tryz.func92 (by kernel_rfl) rfl) (fun W y _ hk => consPred_any y x t ah ch _ W ((hbx.keep hk).cell 0 rfl) ((hr.keep kB).keep hk))
    have e1 : consB (x :: t) = !((x :: t).any fun y => decide (y ≠ x)) := by
      show ((x :: t).all fun y => decide (y = x)) = _
      rw [List.not_any_eq_all_not]
      congr 1; funext y; by_cases h : y = x <;> simp [h]
    generalize ((x :: t).any fun y => decide (y ≠ x)) = r at hcf e1
    have HE1 := Lib.hid e1
    have HCF := Lib.hid hcf
    have HKF := Lib.hid (HKW.out.trans kB)
    have c0 := hbx.cell 0 (v := .slice ah (x :: t).length ch) rfl
    generalize hm : (x :: t).length = m at *
    clear HH HK hO hr kB hbx h0 e1 hm hcf
    go_wp2_with fail
    refine HCF.out.mono ?_
    rintro e w2 ⟨rfl, k2⟩
    have HKG := Lib.hid (HKF.out.trans k2)
    clear k2 HCF c0
    go_wp2_with fail
    go_ret
    exact ⟨by rw [HE1.out]; cases r <;> rfl, HKG.out⟩
set_option maxHeartbeats 1000000 in
theorem total39_any (w : World) (N : Int) (byz : S) (source : Int) (an : Option Addr) (cn : Nat) (nas : List NA) (gv : Value) (hn : Rd w an nas.length cn 9 (nl nas)) (hl : nas.length ≤ 1000000) :
    Calls Tryz.prog 34 #[vCast N byz source (.slice an nas.length cn) gv] w fun e w' => e = .returned (.bool (totB byz (nas.map NA.x))) ∧ Keeps w w' := by
  have kA := (Keeps.refl w).alloc (.cells #[.int .i64 N, .int .u16 (sv byz), .int .i64 source, .slice an nas.length cn, gv] 75)
  have hX := Blk.new w 75 #[.int .i64 N, .int .u16 (sv byz), .int .i64 source, .slice an nas.length cn, gv]
  have hh := deliveredL_any _ N byz source an cn nas gv (hn.keep kA) hl
  have ho := fun W (k : Keeps w W) => honest39_any W N byz source an cn nas gv (hn.keep k) hl
  have hT : totB byz (nas.map NA.x) = (decide ((delL byz (nas.map NA.x)).length = 0) || decide ((delL byz (nas.map NA.x)).length = (honN byz nas).length)) := by
    unfold totB; rw [← honN_x, List.length_map]
  rw [hT]
  unfold vCast at hh ho
  generalize delL byz (nas.map NA.x) = D at hh ⊢
  generalize honN byz nas = H at ho ⊢
  have HH := Lib.hid hh; have HK := Lib.hid kA; have HO := Lib.hid ho; have HX := Lib.hid hX
  clear hh kA hn hT ho hX
  unfold vCast
  go_enter Tryz.func34, Tryz.ntmps34
  go_wp2_with fail
  refine HH.out.mono ?_
  rintro e w1 ⟨v, rfl, hO⟩
  obtain ⟨ah, ch, rfl, hr⟩ := hO.rd
  have HKW := Lib.hid (HK.out.trans hO.2)
  obtain ⟨x0, x1, x2, x3, x4⟩ := c5 (HX.out.keep hO.2)
  by_cases h0 : D.length = 0
  · have h0b : (((D.length : Nat) : Int) == 0) = true := by rw [beq_iff_eq]; omega
    have H0 := Lib.hid h0
    clear HH HK hO hr h0 HX HO
    go_wp2_with fail
    go_ret
    exact ⟨by rw [H0.out]; rfl, HKW.out⟩
  · have h0b : (((D.length : Nat) : Int) == 0) = false := by rw [beq_eq_false_iff_ne]; omega
    have H0 := Lib.hid h0
    have HO2 := Lib.hid (HO.out _ HKW.out)
    clear HH HK hO hr h0 HX HO
    go_wp2_with fail
    refine HO2.out.mono ?_
    rintro e w2 ⟨v, rfl, hO⟩
    obtain ⟨a2, c2, rfl, hr2⟩ := hO.rd
    have HKG := Lib.hid (HKW.out.trans hO.2)
    clear HO2 hO hr2 x0 x1 x2 x3 x4
    go_wp2_with fail
    go_ret
    refine ⟨?_, HKG.out⟩
    have := H0.out
    simp only [this, decide_false, Bool.false_or]
    show Ending.returned (Value.bool (((D.length : Nat) : Int) == ((H.length : Nat) : Int))) = _
    congr 2
    rw [Bool.eq_iff_iff]
    simp
    omega
end Go.Proofs.YtijknodekomdfaaGreatDoor
