/- Texts joined into one (wip/bin/pack.py): Cfg, JFlt. -/
import Derived.Test.YtijknodekomdfaaGreatDoorKZa
import Derived.Test.YtijknodekomdfaaGreatDoorKYf
import Derived.Test.YtijknodekomdfaaGreatDoorKM
import Derived.Lib.QuietBelow
/- Configurations as values; their rows; Valid at any name; joint.valid. -/
namespace Go.Proofs.YtijknodekomdfaaGreatDoor
open Go.RowKit Go.Lib Go.Shelf

/-- a configuration with where its lists lie -/
structure CA where
  c : Cf
  ar : Option Addr
  cr : Nat
  aw : Option Addr
  cw : Nat
  af : Option Addr
  cf : Nat
def ca00 : CA := ⟨cf00, none, 0, none, 0, none, 0⟩
def eG (x : CA) : List Value := [.string x.c.nm, .int .i64 x.c.kd, .int .u16 (sv x.c.M), .slice x.ar x.c.R.length x.cr, .slice x.aw x.c.Q.length x.cw, .slice x.af x.c.F.length x.cf]
def vg (x : CA) : Value := .agg #[.string x.c.nm, .int .i64 x.c.kd, .int .u16 (sv x.c.M), .slice x.ar x.c.R.length x.cr, .slice x.aw x.c.Q.length x.cw, .slice x.af x.c.F.length x.cf]
def gl (l : List CA) : List Value := fle eG l
def gA (l : List CA) (i : Nat) : CA := l.getD i ca00
theorem eG_len (x : CA) : (eG x).length = 6 := rfl
@[simp] theorem gl_len (l : List CA) : (gl l).length = l.length * 6 := fle_len eG 6 eG_len l
theorem gl_append (l m : List CA) : gl (l ++ m) = gl l ++ gl m := fle_append eG l m
theorem gl_drop (l : List CA) (k : Nat) : gl (l.drop k) = (gl l).drop (k * 6) := fle_drop eG 6 eG_len l k
theorem gl_take (l : List CA) (k : Nat) : gl (l.take k) = (gl l).take (k * 6) := fle_take eG 6 eG_len l k
theorem gl_one (x : CA) : gl [x] = eG x := fle_one eG x
theorem gl_cells (l : List CA) : ∀ v ∈ gl l, v.oneCell' = true := fle_cells eG (fun x v hv => by
  simp only [eG, List.mem_cons, List.not_mem_nil, or_false] at hv
  rcases hv with rfl | rfl | rfl | rfl | rfl | rfl <;> rfl) l
theorem gl_rdlen {w : World} {a : Option Addr} {n c : Nat} {l : List CA} (h : Rd w a n c 6 (gl l)) : l.length = n := rd_lenE eG 6 eG_len (by decide) h
theorem gl_at {w : World} {a : Option Addr} {n c : Nat} {l : List CA} (h : Rd w a n c 6 (gl l)) {i : Nat} (hi : i < n) :
    w.cell? (adr a (i * 6)) = some (.string (gA l i).c.nm) ∧ w.cell? ⟨(adr a (i * 6)).block, (adr a (i * 6)).off + 1, none⟩ = some (.int .i64 (gA l i).c.kd) ∧ w.cell? ⟨(adr a (i * 6)).block, (adr a (i * 6)).off + 2, none⟩ = some (.int .u16 (sv (gA l i).c.M)) ∧
    w.cell? ⟨(adr a (i * 6)).block, (adr a (i * 6)).off + 3, none⟩ = some (.slice (gA l i).ar (gA l i).c.R.length (gA l i).cr) ∧ w.cell? ⟨(adr a (i * 6)).block, (adr a (i * 6)).off + 4, none⟩ = some (.slice (gA l i).aw (gA l i).c.Q.length (gA l i).cw) ∧ w.cell? ⟨(adr a (i * 6)).block, (adr a (i * 6)).off + 5, none⟩ = some (.slice (gA l i).af (gA l i).c.F.length (gA l i).cf) :=
  ⟨rd_atE eG 6 eG_len (by decide) h hi ca00 0 (by decide) rfl, adr_off (rd_atE eG 6 eG_len (by decide) h hi ca00 1 (by decide) rfl) (by decide), adr_off (rd_atE eG 6 eG_len (by decide) h hi ca00 2 (by decide) rfl) (by decide), adr_off (rd_atE eG 6 eG_len (by decide) h hi ca00 3 (by decide) rfl) (by decide), adr_off (rd_atE eG 6 eG_len (by decide) h hi ca00 4 (by decide) rfl) (by decide), adr_off (rd_atE eG 6 eG_len (by decide) h hi ca00 5 (by decide) rfl) (by decide)⟩
theorem drop_gA (l : List CA) (i : Nat) (h : i < l.length) : l.drop i = gA l i :: l.drop (i + 1) := getD_dropE l i ca00 h
theorem take_gA (l : List CA) (i : Nat) (h : i < l.length) : l.take (i + 1) = l.take i ++ [gA l i] := getD_takeE l i ca00 h
theorem gA_mem {l : List CA} {i : Nat} (h : i < l.length) : gA l i ∈ l := getD_memE ca00 h
theorem info_gl : (Tryz.prog.info? 36).map (fun i => (i.zero, i.size, i.bytes)) = some (some (.agg #[.string ⟨#[]⟩, .int .i64 0, .int .u16 0, .slice none 0 0, .slice none 0 0, .slice none 0 0]), 6, 104) := by kernel_rfl
theorem ty_gl : STy Tryz.prog 182 36 6 104 := STy.of Tryz.underlying182 info_gl rfl (by decide) (by decide)
/-- the lists of a configuration read -/
def RdG (w : World) (x : CA) : Prop := RdC w x.ar x.cr x.c.R x.aw x.cw x.c.Q x.af x.cf x.c.F
/-- they are rows -/
def RoG (w : World) (x : CA) : Prop := RowC w x.ar x.cr x.c.R x.aw x.cw x.c.Q x.af x.cf x.c.F
theorem RdG.keep {w w' : World} {x : CA} (h : RdG w x) (k : Keeps w w') : RdG w' x := RdC.keep h k
theorem RoG.keep {w w' : World} {x : CA} (h : RoG w x) (k : Keeps w w') : RoG w' x := RowC.keep h k
theorem RoG.rd {w : World} {x : CA} (h : RoG w x) : RdG w x := RowC.rd h
def RdL (w : World) (l : List CA) : Prop := ∀ x ∈ l, RdG w x
def RoL (w : World) (l : List CA) : Prop := ∀ x ∈ l, RoG w x
theorem RdL.keep {w w' : World} {l : List CA} (h : RdL w l) (k : Keeps w w') : RdL w' l := fun x hx => (h x hx).keep k
theorem RoL.keep {w w' : World} {l : List CA} (h : RoL w l) (k : Keeps w w') : RoL w' l := fun x hx => (h x hx).keep k
theorem RoL.rd {w : World} {l : List CA} (h : RoL w l) : RdL w l := fun x hx => (h x hx).rd
/-- config.Valid at any name -/
theorem validG_any (x : CA) (w : World) (h : RdG w x) : Calls Tryz.prog 13 #[vg x] w fun e w' => e = .returned (.int .i64 (cvf x.c)) ∧ Keeps w w' := by
  unfold cvf vg
  by_cases hn : nmB x.c.nm = true
  · rw [if_pos hn]
    haveI : NmOk x.c.nm := ⟨hn⟩
    exact configValid_any x.c.kd x.c.M w h
  · rw [if_neg hn]
    exact badValid_any x.c.nm (by simpa using hn) x.c.kd x.c.M w
/-- the first error -/
def vldL : List CA → Int
  | [] => 0
  | x :: xs => if cvf x.c ≠ 0 then cvf x.c else vldL xs
theorem dropG {l : List CA} {n i : Nat} (L : Hid (l.length = n)) (h : i < n) : l.drop i = gA l i :: l.drop (i + 1) := drop_gA l i (by have := L.out; omega)
theorem dropGN {l : List CA} {n i : Nat} (L : Hid (l.length = n)) (h : ¬ i < n) : l.drop i = [] := List.drop_eq_nil_iff.2 (by have := L.out; omega)
theorem boxG (w : World) (x : CA) : BoxC (w.alloc (.cells #[.string x.c.nm, .int .i64 x.c.kd, .int .u16 (sv x.c.M), .slice x.ar x.c.R.length x.cr, .slice x.aw x.c.Q.length x.cw, .slice x.af x.c.F.length x.cf] 36)) w.heap.size x.c.nm x.c.kd x.c.M x.ar x.c.R.length x.cr x.aw x.c.Q.length x.cw x.af x.c.F.length x.cf := BoxC.new ..
set_option maxRecDepth 20000 in
set_option maxHeartbeats 2000000 in
theorem jvalid_any (a : Option Addr) (n c : Nat) (l : List CA) (w : World) (h : Rd w a n c 6 (gl l)) (hl : RdL w l) :
    Calls Tryz.prog 64 #[.slice a n c] w fun e w' => e = .returned (.int .i64 (vldL l)) ∧ Keeps w w' := by
  have L := Lib.hid (gl_rdlen h)
  have s1 := h.small
  have HR := Lib.hid h; have HL := Lib.hid hl
  clear hl
  go_enter Tryz.func64, Tryz.ntmps64
  go_wp2
  go_loopw [8] (fun v wr => ∃ k : Nat, k ≤ n ∧ v = .int .i64 k ∧ Keeps w wr ∧ Hid (vldL l = vldL (l.drop k))) (fun v _ => n - (RowKit.intOf v).toNat)
  case atStart => exact ⟨0, Nat.zero_le _, rfl, Keeps.refl _, rfl⟩
  case round =>
    obtain ⟨k, hk, rfl, K, HI⟩ := hrel
    by_cases hlt : k < n
    · obtain ⟨g0, g1, g2, g3, g4, g5⟩ := gl_at (HR.out.keep K) hlt
      have hs := h.isSome (by omega)
      have hdr := dropG L hlt
      have hx := (HL.out (gA l k) (gA_mem (by have := L.out; omega))).keep K
      have K2 := (Keeps.refl wr).alloc (.cells #[.string (gA l k).c.nm, .int .i64 (gA l k).c.kd, .int .u16 (sv (gA l k).c.M), .slice (gA l k).ar (gA l k).c.R.length (gA l k).cr, .slice (gA l k).aw (gA l k).c.Q.length (gA l k).cw, .slice (gA l k).af (gA l k).c.F.length (gA l k).cf] 36)
      have hb := boxG wr (gA l k)
      have hcall := validG_any (gA l k) _ (hx.keep K2)
      unfold vg at hcall
      have HI2 := HI.out
      rw [hdr, vldL] at HI2
      generalize gA l k = x at *
      generalize cvf x.c = z at *
      obtain ⟨c0, c1, c2, c3, c4, c5⟩ := hb.conj
      have HC := Lib.hid hcall; have HJ := Lib.hid HI2
      clear hcall HI2 HI hb hx hdr h
      go_wp2_with fail
      refine HC.out.mono ?_
      rintro e w2 ⟨rfl, K3⟩
      by_cases hz : z = 0
      · subst hz
        have HJ2 : Hid (vldL l = vldL (l.drop (k + 1))) := by have := HJ.out; rw [if_neg (by simp)] at this; exact this
        go_wp2_with fail
        go_roundw
        case rel => exact ⟨k + 1, by omega, by go_num, (K.trans K2).trans K3, HJ2⟩
        case measure => simp [RowKit.intOf]; omega
      · have HJ2 : Hid (vldL l = z) := by have := HJ.out; rw [if_pos hz] at this; exact this
        have hb : (z != 0) = true := by simpa using hz
        go_wp2_with fail
        go_ret
        exact ⟨by rw [HJ2.out]; rfl, (K.trans K2).trans K3⟩
    · have HJ : Hid (vldL l = 0) := by have := HI.out; rw [dropGN L hlt] at this; exact this
      go_wp2_with fail
      go_ret
      exact ⟨by rw [HJ.out]; rfl, K⟩
end Go.Proofs.YtijknodekomdfaaGreatDoor
/- joint.allowed, joint.Faults; the reference's. -/
namespace Go.Proofs.YtijknodekomdfaaGreatDoor
open Go.RowKit Go.Lib Go.Shelf

theorem cB2' {w : World} {B : Nat} {T : TypeId} {v0 v1 : Value} (h : Blk w B T #[v0, v1]) : w.cell? ⟨B, 0, none⟩ = some v0 ∧ w.cell? ⟨B, 1, none⟩ = some v1 := ⟨h.cell 0 rfl, h.cell 1 rfl⟩
theorem boxG' (w : World) (x : CA) (B : Nat) (hB : B = w.heap.size) : Blk (w.alloc (.cells #[.string x.c.nm, .int .i64 x.c.kd, .int .u16 (sv x.c.M), .slice x.ar x.c.R.length x.cr, .slice x.aw x.c.Q.length x.cw, .slice x.af x.c.F.length x.cf] 36)) B 36 #[.string x.c.nm, .int .i64 x.c.kd, .int .u16 (sv x.c.M), .slice x.ar x.c.R.length x.cr, .slice x.aw x.c.Q.length x.cw, .slice x.af x.c.F.length x.cf] := by
  rw [hB]; exact Blk.new ..
set_option maxRecDepth 20000 in
set_option maxHeartbeats 2000000 in
theorem allowed_any (x : CA) (f : F2) (A : S) (w : World) :
    Calls Tryz.prog 128 #[vg x, .agg #[.int .u16 (sv f.1), .int .u16 (sv f.2)], .int .u16 (sv A)] w fun e w' => e = .returned (.tuple #[.int .u16 (sv (byJ x.c.kd x.c.M A f)), .int .u16 (sv (faJ x.c.M A f))]) ∧ Keeps w w' := by
  unfold vg
  have hs : ∀ o, (w.alloc o).heap.size = w.heap.size + 1 := fun o => World.size_alloc ..
  have K1 := (Keeps.refl w).alloc (.cells #[.string x.c.nm, .int .i64 x.c.kd, .int .u16 (sv x.c.M), .slice x.ar x.c.R.length x.cr, .slice x.aw x.c.Q.length x.cw, .slice x.af x.c.F.length x.cf] 36)
  have hb := boxG' w x _ rfl
  generalize hW1 : w.alloc (.cells #[.string x.c.nm, .int .i64 x.c.kd, .int .u16 (sv x.c.M), .slice x.ar x.c.R.length x.cr, .slice x.aw x.c.Q.length x.cw, .slice x.af x.c.F.length x.cf] 36) = W1 at *
  have hs1 : W1.heap.size = w.heap.size + 1 := by rw [← hW1]; exact hs _
  have K2 := (Keeps.refl W1).alloc (.cells #[.int .u16 (sv f.1), .int .u16 (sv f.2)] 34)
  have hf := Blk.new W1 34 #[.int .u16 (sv f.1), .int .u16 (sv f.2)]
  have hb2 := hb.keep K2
  have KW := K1.trans ((Keeps.refl W1).alloc (.cells #[.int .u16 0, .int .u16 (sv f.2)] 34))
  have KW0 := K1.trans K2
  obtain ⟨c0, c1, c2, c3, c4, c5⟩ := hb2.c6
  obtain ⟨f0, f1⟩ := cB2' hf
  have fz := hf.frozen 0
  rw [hs1] at f0 f1 fz
  rw [← hW1] at c0 c1 c2 c3 c4 c5 f0 f1 fz KW KW0
  have HKW := Lib.hid KW; have HKW0 := Lib.hid KW0
  clear hb hb2 hf K1 K2 KW KW0 hs1 hW1 hs
  unfold byJ faJ jfB facF
  by_cases hk : x.c.kd = 2
  · rw [if_pos hk]
    have hkb : (x.c.kd != 2) = false := by simpa using hk
    clear hk
    go_enter Tryz.func128, Tryz.ntmps128
    go_wp2_with fail
    go_ret2
    exact ⟨rfl, HKW0.out⟩
  · rw [if_neg hk]
    have hkb : (x.c.kd != 2) = true := by simpa using hk
    have hz : bits .and .u16 0 (sv A) = 0 := by rw [← sv_zero, sv_and, BitVec.zero_and]
    have hz2 : ∀ z : S, bits .or .u16 0 (sv z) = sv z := fun z => by rw [← sv_zero, sv_or, BitVec.zero_or]
    rw [show (0#16 &&& A ||| A &&& ~~~x.c.M : S) = A &&& ~~~x.c.M by rw [BitVec.zero_and, BitVec.zero_or]]
    clear hk
    go_enter Tryz.func128, Tryz.ntmps128
    go_wp2_with fail
    go_ret2
    exact ⟨rfl, HKW.out⟩
end Go.Proofs.YtijknodekomdfaaGreatDoor
