/- Texts joined into one, what is needed of them (a program of ours). -/
import Derived.Test.YtijknodekomdfaaGreatDoorBKO
namespace Go.Proofs.YtijknodekomdfaaGreatDoor
open Go.RowKit Go.Lib Go.Shelf

/-- the run that a value holds -/
structure CD where
  n : Int
  byz : S
  src : Int
  st : St
def RdH (W : World) (z : NA) : Prop := Rd W z.ae z.x.echoes.length z.ce 2 (hl z.x.echoes) ∧ Rd W z.ar z.x.readies.length z.cr 2 (hl z.x.readies)
theorem RdH.keep {W W' : World} {z : NA} (h : RdH W z) (k : Keeps W W') : RdH W' z := ⟨h.1.keep k, h.2.keep k⟩
theorem NOk.rdh {W : World} {z : NA} (h : NOk W z) : RdH W z := ⟨h.1.rd, h.2.rd⟩
def HasC (W : World) (c : CD) (v : Value) : Prop := ∃ an cn nas ag cg, v = vCast c.n c.byz c.src (.slice an nas.length cn) (.slice ag c.st.flight.length cg) ∧ Rd W an nas.length cn 9 (nl nas) ∧ Rd W ag c.st.flight.length cg 4 (cl c.st.flight) ∧ (∀ z ∈ nas, RdH W z) ∧ nas.map NA.x = c.st.nodes
theorem HasC.keep {W W' : World} {c : CD} {v : Value} (h : HasC W c v) (k : Keeps W W') : HasC W' c v := by
  obtain ⟨an, cn, nas, ag, cg, rfl, h1, h2, h3, h4⟩ := h
  exact ⟨an, cn, nas, ag, cg, rfl, h1.keep k, h2.keep k, fun z hz => (h3 z hz).keep k, h4⟩
def cd0 : CD := ⟨0, 0#16, 0, ⟨[], []⟩⟩
theorem hasC_zero (W : World) : HasC W cd0 zCast := ⟨none, 0, [], none, 0, rfl, (Own.nil 153 9 (Keeps.refl W)).row0.rd, (Own.nil 145 4 (Keeps.refl W)).row0.rd, fun z hz => (by cases hz), rfl⟩
theorem hasC_own {w w' : World} {N : Int} {byz : S} {source : Int} {nv gv : Value} {nas : List NA} {fl : List Ct} (h1 : Own 153 9 w w' nv nas.length (nl nas)) (h2 : Own 145 4 w w' gv fl.length (cl fl)) (h3 : ∀ z ∈ nas, NOk w' z) : HasC w' ⟨N, byz, source, ⟨nas.map NA.x, fl⟩⟩ (vCast N byz source nv gv) := by
  obtain ⟨an, cn, rfl, r1⟩ := h1.rd
  obtain ⟨ag, cg, rfl, r2⟩ := h2.rd
  exact ⟨an, cn, nas, ag, cg, rfl, r1, r2, fun z hz => (h3 z hz).rdh, rfl⟩
/-- a run or an error -/
def RetC (w : World) (er : Int) (c : CD) (e : Ending) (w' : World) : Prop := Keeps w w' ∧ ∃ v, e = .returned (.tuple #[v, .int .i64 er]) ∧ HasC w' (if er = 0 then c else cd0) v
def runE (f b : List S) (N : Int) (byz : S) (source : Int) (m : Nat) : Int := if N < 1 ∨ 8 < N ∨ byz >>> N.toNat ≠ 0#16 ∨ source < 0 ∨ N ≤ source then 7 else lstErr f b N.toNat m
theorem runE_bad {f b : List S} {N : Int} {byz : S} {source : Int} {m : Nat} (h : ¬ RngOk N byz source) : runE f b N byz source m = 7 := by
  unfold runE
  rw [if_pos]
  apply Classical.byContradiction
  intro h2
  simp only [not_or, Decidable.not_not] at h2
  exact h ⟨by omega, by omega, h2.2.2.1, by omega, by omega⟩
theorem runE_ok {f b : List S} {N : Int} {byz : S} {source : Int} {m : Nat} (h : RngOk N byz source) : runE f b N byz source m = lstErr f b N.toNat m := by
  obtain ⟨h1, h2, h3, h4, h5⟩ := h
  unfold runE
  rw [if_neg]
  simp only [not_or, Decidable.not_not]
  exact ⟨by omega, by omega, h3, by omega, by omega⟩
theorem runC_any (w : World) (fa : Option Addr) (fm fc : Nat) (f : List S) (ba : Option Addr) (bm bc : Nat) (b : List S) (N : Int) (byz : S) (source : Int) (ca : Option Addr) (cm cc : Nat) (chs : List Nat)
    (hf : Rd w fa fm fc 1 (sl f)) (hb : Rd w ba bm bc 1 (sl b)) (hch : Rd w ca cm cc 1 (bl chs)) (h256 : ∀ c ∈ chs, c < 256) (hcl : chs.length ≤ 1000000) :
    Calls Tryz.prog 30 #[.slice fa fm fc, .slice ba bm bc, .int .i64 N, .int .u16 (sv byz), .int .i64 source, .slice ca cm cc] w fun e w' => RetC w (runE f b N byz source chs.length) ⟨N, byz, source, runS f b N.toNat byz (lieL N.toNat byz source.toNat strX strY) (startS N.toNat byz source.toNat strX 0) chs⟩ e w' := by
  have hm : cm = chs.length := by have := hch.len; simpa [bl] using this.symm
  subst hm
  by_cases hr : RngOk N byz source
  · rw [runE_ok hr]
    obtain ⟨h1, h2, h3, h4, h5⟩ := hr
    obtain ⟨n, rfl⟩ : ∃ n : Nat, N = n := ⟨N.toNat, by omega⟩
    obtain ⟨s, rfl⟩ : ∃ s : Nat, source = s := ⟨source.toNat, by omega⟩
    rw [Int.toNat_natCast] at h3 ⊢
    rw [Int.toNat_natCast]
    by_cases he : lstErr f b n chs.length = 0
    · have hc : chk39 f b n = 0 ∧ chs.length ≤ 200 := by
        unfold lstErr at he
        split at he
        · rename_i h; exact absurd he h
        · rename_i h
          split at he
          · cases he
          · exact ⟨by omega, by omega⟩
      refine (runOk39_any w fa fm fc f ba bm bc b n byz s ca _ cc chs hf hb hch (by omega) (by omega) h3 (by omega) hc.1 hc.2 h256).mono ?_
      rintro e w' ⟨nv, nas, gv, fl, rfl, o1, o2, o3, hst⟩
      refine ⟨o1.2, _, by rw [he], ?_⟩
      rw [if_pos he, hst]
      exact hasC_own o1 o2 o3
    · refine (runList_any w fa fm fc f ba bm bc b n byz s ca _ cc hf hb (by omega) (by omega) h3 (by omega) he hcl).mono ?_
      rintro e w' ⟨rfl, k⟩
      refine ⟨k, _, rfl, ?_⟩
      rw [if_neg he]
      exact hasC_zero w'
  · rw [runE_bad hr]
    refine (runRange_any w _ _ _ N byz source hr).mono ?_
    rintro e w' ⟨rfl, k⟩
    exact ⟨k, _, rfl, hasC_zero w'⟩
theorem attackC_any (w : World) (hT : Tab w) (fa : Option Addr) (fm fc : Nat) (f : List S) (ba : Option Addr) (bm bc : Nat) (b : List S) (N : Int) (hf : Rd w fa fm fc 1 (sl f)) (hb : Rd w ba bm bc 1 (sl b)) :
    Calls Tryz.prog 83 #[.slice fa fm fc, .slice ba bm bc, .int .i64 N] w fun e w' => RetC w (atkE f b N) ((splI N.toNat b f).elim cd0 fun r => ⟨N, r.2.2, tzS r.2.2, atkS f b N.toNat r.1 r.2.1 r.2.2⟩) e w' := by
  refine (attack39_any w hT fa fm fc f ba bm bc b N hf hb).mono ?_
  rintro e w' ⟨k, ⟨he, rfl⟩ | ⟨he, q, p, t, hs, nv, nas', gv, fl', rfl, o1, o2, o3, hst⟩⟩
  · refine ⟨k, _, rfl, ?_⟩
    rw [if_neg he]
    exact hasC_zero w'
  · refine ⟨k, _, by rw [he], ?_⟩
    rw [if_pos he, hs]
    show HasC w' ⟨N, t, tzS t, atkS f b N.toNat q p t⟩ _
    rw [hst]
    exact hasC_own o1 o2 o3
def delC (c : CD) : List Str := delL c.byz c.st.nodes
theorem deliveredC_any (w : World) (c : CD) (v : Value) (hv : HasC w c v) (hnn : c.st.nodes.length ≤ 1000000) :
    Calls Tryz.prog 35 #[v] w fun e w' => ∃ u, e = .returned u ∧ Own 9 1 w w' u (delC c).length (stl (delC c)) := by
  obtain ⟨an, cn, nas, ag, cg, rfl, h1, h2, h3, h4⟩ := hv
  unfold delC
  rw [← h4] at hnn ⊢
  rw [List.length_map] at hnn
  exact deliveredL_any w _ _ _ an cn nas _ h1 hnn
theorem consistentC_any (w : World) (c : CD) (v : Value) (hv : HasC w c v) (hnn : c.st.nodes.length ≤ 1000000) :
    Calls Tryz.prog 32 #[v] w fun e w' => e = .returned (.bool (consB (delC c))) ∧ Keeps w w' := by
  obtain ⟨an, cn, nas, ag, cg, rfl, h1, h2, h3, h4⟩ := hv
  unfold delC
  rw [← h4] at hnn ⊢
  rw [List.length_map] at hnn
  exact consistent39_any w _ _ _ an cn nas _ h1 hnn
theorem totalC_any (w : World) (c : CD) (v : Value) (hv : HasC w c v) (hnn : c.st.nodes.length ≤ 1000000) :
    Calls Tryz.prog 34 #[v] w fun e w' => e = .returned (.bool (totB c.byz c.st.nodes)) ∧ Keeps w w' := by
  obtain ⟨an, cn, nas, ag, cg, rfl, h1, h2, h3, h4⟩ := hv
  rw [← h4] at hnn ⊢
  rw [List.length_map] at hnn
  exact total39_any w _ _ _ an cn nas _ h1 hnn
end Go.Proofs.YtijknodekomdfaaGreatDoor
namespace Go.Proofs.YtijknodekomdfaaGreatDoor
open Go.RowKit Go.Lib Go.Shelf

end Go.Proofs.YtijknodekomdfaaGreatDoor
namespace Go.Proofs.YtijknodekomdfaaGreatDoor
open Go.RowKit Go.Lib Go.Shelf

end Go.Proofs.YtijknodekomdfaaGreatDoor
