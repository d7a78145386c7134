/- Texts joined into one, what is needed of them (a program of ours). -/
import Derived.Test.YtijknodekomdfaaGreatDoorBKR
import Derived.Test.YtijknodekomdfaaGreatDoorBKS
namespace Go.Proofs.YtijknodekomdfaaGreatDoor
open Go.RowKit Go.Lib Go.Shelf

theorem info_by : (Tryz.prog.info? 5).map (fun i => (i.zero, i.size, i.bytes)) = some (some (.int .u8 0), 1, 1) := by kernel_rfl
theorem ty_by : STy Tryz.prog 68 5 1 1 := STy.of Tryz.underlying68 info_by rfl (by decide) (by decide)
theorem bl_cells (l : List Nat) : ∀ v ∈ bl l, v.oneCell' = true := by
  intro v hv
  obtain ⟨x, _, rfl⟩ := List.mem_map.1 hv
  rfl
theorem eqNilB (w : World) (a : Option Addr) (n c n' c' : Nat) : (binOp .eql 68 (.slice a n c) (.slice none n' c')).run Tryz.prog w = .ok (.bool a.isNone) w := Lib.run_eql_slice_nil w _ _ a n c n' c' Tryz.underlying68
theorem cloneB_any (a : Option Addr) (c : Nat) (l : List Nat) (w : World) (h : Rd w a l.length c 1 (bl l)) (hb : l.length ≤ 1000000) :
    Calls Tryz.prog 31 #[.slice a l.length c] w fun e w' => ∃ v, e = .returned v ∧ Own 5 1 w w' v l.length (bl l) := by
  have q := eqNilB
  cases a with
  | none =>
    have hn : l.length = 0 := by
      rcases Nat.eq_zero_or_pos l.length with h0 | h0
      · exact h0
      · exact absurd (h.isSome h0) (by simp)
    have hl : l = [] := List.eq_nil_of_length_eq_zero hn
    subst hl
    clear hn h
    go_enter Tryz.func31, Tryz.ntmps31
    go_wp2_with fail
    go_ret
    exact ⟨_, rfl, Own.nil _ _ (Keeps.refl _)⟩
  | some ad =>
    have hO0 := Own.made (e := 5) (sz := 1) (Keeps.refl w) [] 0 (by decide) rfl
    have HO0 := Lib.hid hO0
    have HR := Lib.hid (h.keep ((Keeps.refl w).alloc (.cells #[] 5)))
    clear hO0 h
    go_enter Tryz.func31, Tryz.ntmps31
    go_wp2_with (at_builtin; refine wp_app ty_by rfl _ _ rfl HO0.out rfl rfl HR.out (bl_cells l) (by omega) ?_)
    intro v' w1 hO1 hgr
    have HO1 := Lib.hid hO1
    clear hO1 hgr
    go_wp2_with fail
    go_ret
    have ho := HO1.out
    exact ⟨v', rfl, ho⟩
end Go.Proofs.YtijknodekomdfaaGreatDoor
