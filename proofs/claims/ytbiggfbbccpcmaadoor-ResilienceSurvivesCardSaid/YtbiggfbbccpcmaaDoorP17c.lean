/- resilience: After. -/
import Derived.Test.YtbiggfbbccpcmaaDoorDelLay
import Derived.Test.YtbiggfbbccpcmaaDoorP17b
namespace Go.Proofs.YtbiggfbbccpcmaaDoor
open Go.RowKit Go.Lib Go.Shelf Go.Sort

theorem afterGives (fs x : S) (B : Nat) (W : World) (hc : W.cell? ⟨B, 0, none⟩ = some (.int .u16 (sv fs))) :
    FnGives Tryd.prog 55 #[.pointer (some ⟨B, 0, none⟩)] #[vs x] (.bool (x &&& fs != 0#16)) W := by
  show Calls Tryd.prog 55 #[.int .u16 (sv x), .pointer (some ⟨B, 0, none⟩)] W _
  go_enter Tryd.func55, Tryd.ntmps55
  go_wp2
  go_ret
  exact ⟨rfl, 0, rfl⟩
/-- the sets without some servers -/
def leftS (l : List S) (fs : S) : List S := l.filter fun x => x &&& fs == 0#16
theorem leftS_eq (l : List S) (fs : S) : (l.filter fun x => !(x &&& fs != 0#16)) = leftS l fs := by
  unfold leftS; congr 1; funext x; simp [bne]
theorem delete_any (fs : S) (B : Nat) (w0 w : World) (v : Value) (n : Nat) (l : List S) (h : Own 31 1 w0 w v n (sl l)) (h0 : 0 < n) (hB : B < w0.heap.size) (hc : w.cell? ⟨B, 0, none⟩ = some (.int .u16 (sv fs))) :
    Calls Tryd.prog 54 #[v, .func (.func 55) #[] #[.pointer (some ⟨B, 0, none⟩)]] w fun e w' => ∃ v', e = .returned v' ∧ Own 31 1 w0 w' v' (leftS l fs).length (sl (leftS l fs)) := by
  have eg : ∀ args w, (callFunc 55 args).run Tryd.prog w = .ok (.enter 55 args) w := enters_of Tryd.func55 (by kernel_rfl) rfl
  have hl : l.length = n := by have := h.1.1; simpa using this
  obtain ⟨g, cap, rfl, hnc, hcm⟩ := h.some h0
  obtain ⟨hH, hblk⟩ := own_holds h
  have hgB : B ≠ g := by
    have := (h.1.lt g rfl).1
    omega
  have hBw : B < w.heap.size := Nat.lt_of_lt_of_le hB h.2.size
  have hsm : n ≤ 9223372036854775807 := by unfold maxLen at hcm; omega
  have hcon := AnyE.slices_DeleteFunc delS vs (fun _ => rfl) (fun x => x &&& fs != 0#16) 55 #[.pointer (some ⟨B, 0, none⟩)] eg 0#16 Tryd.zeroValue31 g 0 cap l.toArray w
    (fun W x hb => afterGives fs x B W ((hb.cell (p := ⟨B, 0, none⟩) hBw).trans hc))
    (fun k os dk x _ => afterGives fs x B _ (by
      unfold sortWorld
      rw [cell?_grow _ _ _ (by show B < (putRow _ _ _ _ _).heap.size; rw [size_putRow]; exact hBw), cell?_putRow_other _ _ g 0 _ _ (Or.inl hgB)]
      exact hc)) hH (by simp; omega) (by simp; omega)
  have e1 : l.toArray.size = n := by simpa using hl
  have e2 : l.toArray.toList = l := by simp
  rw [e1, e2, leftS_eq] at hcon
  have hle : (leftS l fs).length ≤ n := by rw [← hl]; exact List.length_filter_le _ _
  refine Calls.mono (show Calls Tryd.prog 54 _ _ _ from hcon) fun e w' ⟨he, q, hw⟩ => ?_
  refine ⟨_, he, ?_⟩
  subst hw
  have := own_put h (leftS l fs ++ List.replicate (n - (leftS l fs).length) 0#16).toArray (leftS l fs).length (by simp) (by omega) q #[] (by simp; omega)
  rw [grow_empty] at this
  simpa using this

/-- the resilience of what is left, and the error -/
def afterErr (l : List S) (fs : S) : Int × Int := if validS l ≠ 0 then (0, validS l) else if l.length = 0 then (0, 9) else if (leftS l fs).length = 0 then (-1, 0) else ofErr (leftS l fs)
theorem after_any (a : Option Addr) (n c : Nat) (l : List S) (fs : S) (w : World) (hT : Tab w) (h : Rd w a n c 1 (sl l)) (hn : n ≤ 1000000) :
    Calls Tryd.prog 31 #[.slice a n c, .int .u16 (sv fs)] w fun e w' => RetI (afterErr l fs) e ∧ Keeps w w' := by
  have k0 := (Keeps.refl w).alloc (.cells #[.int .u16 (sv fs)] 31)
  have hbx := Boxed.new w 31 (.int .u16 (sv fs))
  have hv := valid_any a n c l _ (h.keep k0)
  have hcl := fun W (k : Keeps w W) => cloneS_any a n c (sl l) W (h.keep k) (sl_oneCell _) hn
  have hdel := fun w0 W v hO h0 hB hc => delete_any fs w.heap.size w0 W v n l hO h0 hB hc
  have hof := fun W a c (k : Keeps w W) (hr : Rd W a (leftS l fs).length c 1 (sl (leftS l fs))) => of_any a _ c (leftS l fs) W (hT.keep k) hr
  have L := h.lenS
  unfold afterErr
  rw [L]
  generalize validS l = vl at *
  generalize ofErr (leftS l fs) = r at *
  generalize leftS l fs = lf at *
  obtain ⟨x, z⟩ := r
  unfold RetI at hof
  simp only at hof
  have HV := Lib.hid hv; have HCL := Lib.hid hcl; have HD := Lib.hid hdel; have HO := Lib.hid hof; have K0 := Lib.hid k0; have HBX := Lib.hid hbx
  clear hv hcl hdel hof h hT L k0 hbx
  by_cases hz : vl = 0
  · subst hz
    rw [if_neg (by simp)]
    by_cases h0 : n = 0
    · subst h0
      rw [if_pos rfl]
      go_enter Tryd.func31, Tryd.ntmps31
      go_wp2_with fail
      refine HV.out.mono ?_
      rintro e w1 ⟨rfl, K1⟩
      go_wp2_with fail
      go_ret2
      exact ⟨rfl, K0.out.trans K1⟩
    · rw [if_neg h0]
      have h0b : ((n : Int) == 0) = false := by rw [beq_eq_false_iff_ne]; omega
      have h0p : 0 < n := by omega
      by_cases hlf : lf.length = 0
      · rw [if_pos hlf]
        have hlb : ((lf.length : Int) == 0) = true := by rw [hlf]; rfl
        clear hlf
        go_enter Tryd.func31, Tryd.ntmps31
        go_wp2_with fail
        refine HV.out.mono ?_
        rintro e w1 ⟨rfl, K1⟩
        have hb1 := boxedKeep HBX.out K1
        go_wp2_with fail
        refine (HCL.out _ (K0.out.trans K1)).mono ?_
        rintro e w2 ⟨v2, rfl, ho, K2⟩
        have hb2 := (boxedKeep hb1 K2).cell
        go_wp2_with fail
        refine (HD.out w1 _ _ ⟨ho, K2⟩ h0p hb1.lt hb2).mono ?_
        rintro e w3 ⟨v3, rfl, hO3⟩
        obtain ⟨a3, c3, rfl, hR⟩ := hO3.rd
        go_wp2_with fail
        go_ret2
        exact ⟨rfl, (K0.out.trans K1).trans hO3.2⟩
      · rw [if_neg hlf]
        have hlb : ((lf.length : Int) == 0) = false := by rw [beq_eq_false_iff_ne]; omega
        clear hlf
        go_enter Tryd.func31, Tryd.ntmps31
        go_wp2_with fail
        refine HV.out.mono ?_
        rintro e w1 ⟨rfl, K1⟩
        have hb1 := boxedKeep HBX.out K1
        go_wp2_with fail
        refine (HCL.out _ (K0.out.trans K1)).mono ?_
        rintro e w2 ⟨v2, rfl, ho, K2⟩
        have hb2 := (boxedKeep hb1 K2).cell
        go_wp2_with fail
        refine (HD.out w1 _ _ ⟨ho, K2⟩ h0p hb1.lt hb2).mono ?_
        rintro e w3 ⟨v3, rfl, hO3⟩
        obtain ⟨a3, c3, rfl, hR⟩ := hO3.rd
        have K3 := (K0.out.trans K1).trans hO3.2
        go_wp2_with fail
        refine (HO.out _ _ _ K3 hR).mono ?_
        rintro e w4 ⟨rfl, K4⟩
        go_wp2_with fail
        go_ret2
        exact ⟨rfl, K3.trans K4⟩
  · rw [if_pos hz]
    have hb : (vl != 0) = true := by simpa using hz
    go_enter Tryd.func31, Tryd.ntmps31
    go_wp2_with fail
    refine HV.out.mono ?_
    rintro e w1 ⟨rfl, K1⟩
    go_wp2_with fail
    go_ret2
    exact ⟨rfl, K0.out.trans K1⟩
end Go.Proofs.YtbiggfbbccpcmaaDoor
