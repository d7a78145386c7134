/- Texts joined into one, what is needed of them (a program of ours). -/
import Derived.Test.YtbcfkgolhklkaaaDoorEKPF
namespace Go.Proofs.YtbcfkgolhklkaaaDoor
open Go.RowKit Go.Lib Go.Shelf

theorem row0_st5 {W : World} {T' : TypeId} {sz : Nat} {v : Value} {n : Nat} {xs : List Value} (h : Row0 T' sz W v n xs) {C : Nat} {T : TypeId} {cs : Array Value} (hC : Blk W C T cs) (hT : T ≠ T') (u0 u1 u2 u3 u4 : Value) : Row0 T' sz (st5 W C u0 u1 u2 u3 u4) v n xs := by
  have b1 := hC.set 0 u0; have b2 := b1.set 1 u1; have b3 := b2.set 2 u2; have b4 := b3.set 3 u3
  exact ((((h.set hC hT 0 u0).set b1 hT 1 u1).set b2 hT 2 u2).set b3 hT 3 u3).set b4 hT 4 u4
theorem own_st5 {w W : World} {T' : TypeId} {sz : Nat} {v : Value} {n : Nat} {xs : List Value} (h : Own T' sz w W v n xs) {C : Nat} {T : TypeId} {cs : Array Value} (hC : Blk W C T cs) (hT : T ≠ T') (hlo : w.heap.size ≤ C) (u0 u1 u2 u3 u4 : Value) : Own T' sz w (st5 W C u0 u1 u2 u3 u4) v n xs := by
  have b1 := hC.set 0 u0; have b2 := b1.set 1 u1; have b3 := b2.set 2 u2; have b4 := b3.set 3 u3
  exact own_oth9 (own_oth9 (own_oth9 (own_oth9 (own_oth9 h hC hT hlo 0 u0) b1 hT hlo 1 u1) b2 hT hlo 2 u2) b3 hT hlo 3 u3) b4 hT hlo 4 u4
/-- a run whose rows were all made since -/
def RunN (w W : World) (c : CD) (v : Value) : Prop := ∃ nas nv gv, v = vCast c.n c.byz c.src nv gv ∧ Own 46 9 w W nv nas.length (nl nas) ∧ Own 53 4 w W gv c.st.flight.length (cl c.st.flight) ∧ (∀ z ∈ nas, NOk W z) ∧ nas.map NA.x = c.st.nodes
theorem RunN.toC {w W : World} {c : CD} {v : Value} (h : RunN w W c v) : HasC W c v := by
  obtain ⟨nas, nv, gv, rfl, h1, h2, h3, h4⟩ := h
  obtain ⟨N, byz, so, ⟨nodes, fl⟩⟩ := c
  dsimp only at *
  subst h4
  exact hasC_own h1 h2 h3
theorem RunN.since {w0 w W : World} {c : CD} {v : Value} (h : RunN w W c v) (k : Keeps w0 w) : RunN w0 W c v := by
  obtain ⟨nas, nv, gv, rfl, h1, h2, h3, h4⟩ := h
  exact ⟨nas, nv, gv, rfl, h1.since k, h2.since k, h3, h4⟩
theorem RunN.keep {w W W' : World} {c : CD} {v : Value} (h : RunN w W c v) (k : Keeps W W') : RunN w W' c v := by
  obtain ⟨nas, nv, gv, rfl, h1, h2, h3, h4⟩ := h
  exact ⟨nas, nv, gv, rfl, h1.keep k, h2.keep k, fun z hz => (h3 z hz).tyf (.of k), h4⟩
theorem RunN.st5 {w W : World} {c : CD} {v : Value} (h : RunN w W c v) {C : Nat} {cs : Array Value} (hC : Blk W C 32 cs) (hlo : w.heap.size ≤ C) (u0 u1 u2 u3 u4 : Value) : RunN w (st5 W C u0 u1 u2 u3 u4) c v := by
  obtain ⟨nas, nv, gv, rfl, h1, h2, h3, h4⟩ := h
  exact ⟨nas, nv, gv, rfl, own_st5 h1 hC (by decide) hlo _ _ _ _ _, own_st5 h2 hC (by decide) hlo _ _ _ _ _, fun z hz => ⟨row0_st5 (h3 z hz).1 hC (by decide) _ _ _ _ _, row0_st5 (h3 z hz).2 hC (by decide) _ _ _ _ _⟩, h4⟩
theorem runN_own {w w' : World} {N : Int} {byz : S} {source : Int} {nv gv : Value} {nas : List NA} {fl : List Ct} (h1 : Own 46 9 w w' nv nas.length (nl nas)) (h2 : Own 53 4 w w' gv fl.length (cl fl)) (h3 : ∀ z ∈ nas, NOk w' z) : RunN w w' ⟨N, byz, source, ⟨nas.map NA.x, fl⟩⟩ (vCast N byz source nv gv) := ⟨nas, nv, gv, rfl, h1, h2, h3, rfl⟩
theorem runN_zero {w w' : World} (k : Keeps w w') : RunN w w' cd0 zCast := ⟨[], _, _, rfl, Own.nil _ _ k, Own.nil _ _ k, fun z hz => (by cases hz), rfl⟩
def RetN (w : World) (er : Int) (c : CD) (e : Ending) (w' : World) : Prop := Keeps w w' ∧ ∃ v, e = .returned (.tuple #[v, .int .i64 er]) ∧ RunN w w' (if er = 0 then c else cd0) v
theorem runN_any (w : World) (fa : Option Addr) (fm fc : Nat) (f : List S) (ba : Option Addr) (bm bc : Nat) (b : List S) (N : Int) (byz : S) (source : Int) (ca : Option Addr) (cm cc : Nat) (chs : List Nat)
    (hf : Rd w fa fm fc 1 (sl f)) (hb : Rd w ba bm bc 1 (sl b)) (hch : Rd w ca cm cc 1 (bl chs)) (h256 : ∀ c ∈ chs, c < 256) (hcl : chs.length ≤ 1000000) :
    Calls Tryd.prog 10 #[.slice fa fm fc, .slice ba bm bc, .int .i64 N, .int .u16 (sv byz), .int .i64 source, .slice ca cm cc] w fun e w' => RetN w (runE f b N byz source chs.length) ⟨N, byz, source, runS f b N.toNat byz (lieL N.toNat byz source.toNat strX strY) (startS N.toNat byz source.toNat strX 0) chs⟩ e w' := by
  have hm : cm = chs.length := by have := hch.len; simpa [bl] using this.symm
  subst hm
  by_cases hr : RngOk N byz source
  · rw [runE_ok hr]
    obtain ⟨h1, h2, h3, h4, h5⟩ := hr
    obtain ⟨n, rfl⟩ : ∃ n : Nat, N = n := ⟨N.toNat, by omega⟩
    obtain ⟨s, rfl⟩ : ∃ s : Nat, source = s := ⟨source.toNat, by omega⟩
    rw [Int.toNat_natCast] at h3 ⊢
    rw [Int.toNat_natCast]
    by_cases he : lstErr f b n chs.length = 0
    · have hc : chk39 f b n = 0 ∧ chs.length ≤ 200 := by
        unfold lstErr at he
        split at he
        · rename_i h; exact absurd he h
        · rename_i h
          split at he
          · cases he
          · exact ⟨by omega, by omega⟩
      refine (runOk39_any w fa fm fc f ba bm bc b n byz s ca _ cc chs hf hb hch (by omega) (by omega) h3 (by omega) hc.1 hc.2 h256).mono ?_
      rintro e w' ⟨nv, nas, gv, fl, rfl, o1, o2, o3, hst⟩
      refine ⟨o1.2, _, by rw [he], ?_⟩
      rw [if_pos he, hst]
      exact runN_own o1 o2 o3
    · refine (runList_any w fa fm fc f ba bm bc b n byz s ca _ cc hf hb (by omega) (by omega) h3 (by omega) he hcl).mono ?_
      rintro e w' ⟨rfl, k⟩
      refine ⟨k, _, rfl, ?_⟩
      rw [if_neg he]
      exact runN_zero k
  · rw [runE_bad hr]
    refine (runRange_any w _ _ _ N byz source hr).mono ?_
    rintro e w' ⟨rfl, k⟩
    exact ⟨k, _, rfl, runN_zero k⟩
theorem attackN_any (w : World) (hT : Tab w) (fa : Option Addr) (fm fc : Nat) (f : List S) (ba : Option Addr) (bm bc : Nat) (b : List S) (N : Int) (hf : Rd w fa fm fc 1 (sl f)) (hb : Rd w ba bm bc 1 (sl b)) :
    Calls Tryd.prog 13 #[.slice fa fm fc, .slice ba bm bc, .int .i64 N] w fun e w' => RetN w (atkE f b N) ((splI N.toNat b f).elim cd0 fun r => ⟨N, r.2.2, tzS r.2.2, atkS f b N.toNat r.1 r.2.1 r.2.2⟩) e w' := by
  refine (attack39_any w hT fa fm fc f ba bm bc b N hf hb).mono ?_
  rintro e w' ⟨k, ⟨he, rfl⟩ | ⟨he, q, p, t, hs, nv, nas', gv, fl', rfl, o1, o2, o3, hst⟩⟩
  · refine ⟨k, _, rfl, ?_⟩
    rw [if_neg he]
    exact runN_zero k
  · refine ⟨k, _, by rw [he], ?_⟩
    rw [if_pos he, hs]
    show RunN w w' ⟨N, t, tzS t, atkS f b N.toNat q p t⟩ _
    rw [hst]
    exact runN_own o1 o2 o3
theorem info_u8 : (Tryd.prog.info? 5).map (fun i => (i.zero, i.size, i.bytes)) = some (some (.int .u8 0), 1, 1) := by kernel_rfl
theorem madeU (k : Nat) : (madeCells (Value.int .u8 0).cells (k * 1)).toList = bl (List.replicate k 0) := by
  rw [show (Value.int .u8 0).cells = #[.int .u8 0] from rfl, Nat.mul_one, toList_madeCells_one]
  simp [bl, List.map_replicate]
theorem makeU (k : Nat) (hk : k ≤ 1000000) (w : World) : ∃ w', (Instr.makeSlice 28 (.int .i64 (k : Int)) (.int .i64 (k : Int))).run Tryd.prog w = .ok (.slice (some ⟨w.heap.size, 0, none⟩) k k) w' ∧
    Own 5 1 w w' (.slice (some ⟨w.heap.size, 0, none⟩) k k) k (bl (List.replicate k 0)) := by
  obtain ⟨i0, hi, hz0, hz1, hz2⟩ := info_parts info_u8
  have hr := run_makeSlice (P := Tryd.prog) w 28 5 i0 (.int .u8 0) Tryd.underlying28 hi hz0 .i64 .i64 k k (by omega) (Int.le_refl _) (by rw [hz1]; omega) (by rw [hz2]; omega) (by omega)
  simp only [Int.toNat_natCast, hz1] at hr
  refine ⟨_, hr, ?_, (Keeps.refl w).alloc _⟩
  rw [← madeU k]
  exact World.ownsRow_lit w _ k (Nat.le_refl _) (by unfold maxLen; omega) (size_madeCells _ _)
end Go.Proofs.YtbcfkgolhklkaaaDoor
