/- family: Accepts, least, limited, chosen, Minimal. -/
import Derived.Test.YtbiggfbbccpcmaaDoorSort
namespace Go.Proofs.YtbiggfbbccpcmaaDoor
open Go.RowKit Go.Lib Go.Shelf

/-- a list accepts a set -/
def accS (f : List S) (s : S) : Bool := f.any fun x => x &&& ~~~s == 0#16

theorem contains_any (a b : S) (w : World) : Calls Tryd.prog 70 #[.int .u16 (sv a), .int .u16 (sv b)] w fun e w' => e = .returned (.bool (b &&& ~~~a == 0#16)) ∧ w = w' := by
  go_enter Tryd.func70, Tryd.ntmps70
  go_wp2
  go_ret
  exact ⟨rfl, rfl⟩

theorem acceptsPred (s : S) (B : Nat) (l : List S) (w : World) (hc : w.cell? ⟨B, 0, none⟩ = some (.int .u16 (sv s))) :
    PredK Tryd.prog 69 #[.pointer (some ⟨B, 0, none⟩)] vs (fun x => x &&& ~~~s == 0#16) l w := fun W x _ hk => by
  have hc' := hk.cell hc
  have hcall := Lib.hid (contains_any s x)
  show Calls Tryd.prog 69 #[.int .u16 (sv x), .pointer (some ⟨B, 0, none⟩)] W _
  go_enter Tryd.func69, Tryd.ntmps69
  go_wp2_with (go_at_call 70; refine (hcall.out _).mono ?_; rintro e w' ⟨rfl, rfl⟩)
  go_ret
  exact ⟨rfl, Keeps.refl _⟩

theorem accepts_any (a : Option Addr) (n c : Nat) (l : List S) (s : S) (w : World) (h : Rd w a n c 1 (sl l)) :
    Calls Tryd.prog 50 #[.slice a n c, .int .u16 (sv s)] w fun e w' => e = .returned (.bool (accS l s)) ∧ Keeps w w' := by
  have eg : ∀ args w, (callFunc 69 args).run Tryd.prog w = .ok (.enter 69 args) w := enters_of Tryd.func69 (by kernel_rfl) rfl
  have hK := (Keeps.refl w).alloc (.cells #[.int .u16 (sv s)] 31)
  have hcon := containsFuncS_any a n c l (w.alloc (.cells #[.int .u16 (sv s)] 31)) 69 #[.pointer (some ⟨w.heap.size, 0, none⟩)] (fun x => x &&& ~~~s == 0#16) (h.keep hK) eg
    (acceptsPred s w.heap.size l _ (by rw [World.cell?_alloc_at _ _ _ _ rfl]; rfl))
  change Calls _ _ _ _ (fun e w' => e = .returned (.bool (accS l s)) ∧ _) at hcon
  generalize accS l s = r at hcon ⊢
  have HC := Lib.hid hcon; clear hcon eg h
  go_enter Tryd.func50, Tryd.ntmps50
  go_wp2_with (go_at_call 63; refine HC.out.mono ?_; rintro e w' ⟨rfl, K2⟩)
  go_ret
  exact ⟨rfl, hK.trans K2⟩

/-- what least gathers -/
def leastR : List S → List S → List S
  | acc, [] => acc
  | acc, s :: rest => if accS acc s then leastR acc rest else leastR (acc ++ [s]) rest
/-- the minimal sets, as the program finds them -/
def leastP (l : List S) : List S := leastR [] (sortS' l)

set_option maxHeartbeats 800000 in
theorem least_any (a : Option Addr) (n c : Nat) (l : List S) (w : World) (h : Rd w a n c 1 (sl l)) (hn : n ≤ 1000000) :
    Calls Tryd.prog 67 #[.slice a n c] w fun e w' => ∃ v, e = .returned v ∧ Own 31 1 w w' v (leastP l).length (sl (leastP l)) := by
  have hs := sorted_any a n c l w h hn
  have hlen : (sortS' l).length ≤ 1000000 := by
    have h1 := compactL_le (msort l)
    have h2 := msort_length l
    have h3 := h.lenS
    unfold sortS'; omega
  unfold leastP
  generalize sortS' l = m at hs hlen ⊢
  have HS := Lib.hid hs; clear hs h
  go_enter Tryd.func67, Tryd.ntmps67
  go_wp2_with fail
  refine HS.out.mono ?_
  rintro e w1 ⟨v1, rfl, hO⟩
  obtain ⟨a1, c1, rfl, hR⟩ := hO.rd
  have s1 := hR.small
  go_wp2_with fail
  go_loopw [3, 9] (fun u v wr => ∃ (k : Nat) (acc : List S), k ≤ m.length ∧ v = .int .i64 k ∧ acc.length ≤ k ∧ Own 31 1 w1 wr u acc.length (sl acc) ∧ Hid (leastR [] m = leastR acc (m.drop k))) (fun _ v _ => m.length - (intOf v).toNat)
  case atStart => exact ⟨0, [], Nat.zero_le _, rfl, Nat.zero_le _, Own.nil _ _ (Keeps.refl _), rfl⟩
  case round =>
    obtain ⟨k, acc, hk, rfl, hak, hA, HI⟩ := hrel
    by_cases hlt : k < m.length
    · have hc := (hR.keep hA.2).at hlt
      have ha := hR.isSome (by omega)
      obtain ⟨a2, c2, rfl, hRa⟩ := hA.rd
      have hcall := fun W (K : Keeps wr W) => accepts_any a2 acc.length c2 acc (at_ m k) W (hRa.keep K)
      cases hq : accS acc (at_ m k) with
      | true =>
        rw [hq] at hcall
        have HC := Lib.hid hcall; have HQ := Lib.hid hq; clear hcall hq
        go_wp2_with (go_at_call 50; refine (HC.out _ (Keeps.refl _)).mono ?_; rintro e w2 ⟨rfl, K2⟩)
        go_roundw
        case rel => exact ⟨k + 1, acc, by omega, by go_num, by omega, hA.keep K2, hrfl <| by rw [HI.out, drop_at m k hlt, leastR, if_pos HQ.out]⟩
        case measure => simp [intOf]; omega
      | false =>
        rw [hq] at hcall
        have HC := Lib.hid hcall; have HQ := Lib.hid hq; clear hcall hq
        go_wp2_with (first | (go_at_call 50; refine (HC.out _ (Keeps.refl _)).mono ?_; rintro e w2 ⟨rfl, K2⟩) | (at_builtin; refine wp_app tyS rfl _ _ rfl ((hA.keep K2).alloc _) rfl rfl (rd_new _ 1 _ [.int .u16 (sv (at_ m k))] 1 (by decide) rfl) (sl_oneCell [at_ m k]) ?_ ?_))
        · omega
        · intro v' w3 hO3 _
          go_wp2
          go_roundw
          case rel => exact ⟨k + 1, acc ++ [at_ m k], by omega, by go_num, by simp; omega, hO3.snoc, hrfl <| by rw [HI.out, drop_at m k hlt, leastR, if_neg (by rw [HQ.out]; simp)]⟩
          case measure => simp [intOf]; omega
    · go_wp2
      go_ret
      refine ⟨_, rfl, ?_⟩
      rw [HI.out, drop_all m k (by omega), leastR]
      exact hA.since hO.2

/-- a list and an error number come back -/
def RetS (w0 : World) (r : List S × Int) (e : Ending) (w' : World) : Prop :=
  ∃ v, e = .returned (.tuple #[v, .int .i64 r.2]) ∧ Own 31 1 w0 w' v r.1.length (sl r.1)
def limS (l : List S) : List S × Int := if 400 < l.length then ([], 3) else (l, 0)
theorem limited_any (v : Value) (l : List S) (w0 w : World) (h : Own 31 1 w0 w v l.length (sl l)) :
    Calls Tryd.prog 80 #[v] w fun e w' => RetS w0 (limS l) e w' := by
  obtain ⟨a, c, rfl, hR⟩ := h.rd
  have H := Lib.hid h; clear h hR
  by_cases h4 : 400 < l.length
  · have e1 : limS l = ([], 3) := if_pos h4
    rw [e1]
    clear e1
    go_enter Tryd.func80, Tryd.ntmps80
    go_wp2
    go_ret2
    exact ⟨_, rfl, Own.nil _ _ H.out.2⟩
  · have e1 : limS l = (l, 0) := if_neg h4
    rw [e1]
    clear e1
    go_enter Tryd.func80, Tryd.ntmps80
    go_wp2
    go_ret2
    exact ⟨_, rfl, H.out⟩
end Go.Proofs.YtbiggfbbccpcmaaDoor
