/- Texts joined into one, what is needed of them (a program of ours). -/
import Derived.Test.YtbcfkgolhklkaaaDoorEKA
namespace Go.Proofs.YtbcfkgolhklkaaaDoor
def sub9 (y x : S) : Bool := y &&& ~~~x == 0#16
theorem sub9_iff (y x : S) : sub9 y x = true ↔ ∀ i, i < 16 → y.getLsbD i = true → x.getLsbD i = true := by
  unfold sub9
  rw [beq_iff_eq]
  constructor
  · intro h i hi hy
    have := congrArg (fun z : S => z.getLsbD i) h
    simp [hy, hi] at this
    exact this
  · intro h
    apply BitVec.eq_of_getLsbD_eq
    intro i hi
    simp only [BitVec.getLsbD_and, BitVec.getLsbD_not, hi, decide_true, Bool.true_and, BitVec.getLsbD_zero]
    cases hy : y.getLsbD i with
    | false => rfl
    | true => rw [h i hi hy]; rfl
abbrev Str := ByteArray
structure Hd where
  v : Str
  s : S
structure Ct where
  kind : Int
  src : Int
  dst : Int
  v : Str
structure Nd where
  id : Int
  echoed : Str
  hasE : Bool
  readied : Str
  hasR : Bool
  delivered : Str
  hasD : Bool
  echoes : List Hd
  readies : List Hd
structure St where
  nodes : List Nd
  flight : List Ct
def knows (l : List Hd) (i : Nat) : Bool := l.any fun h => h.s.getLsbD i
def putH : List Hd → Nat → Str → List Hd
  | [], i, v => [⟨v, 1#16 <<< i⟩]
  | h :: t, i, v => if h.v = v then ⟨h.v, h.s ||| 1#16 <<< i⟩ :: t else h :: putH t i v
def getH : List Hd → Str → S
  | [], _ => 0#16
  | h :: t, v => if h.v = v then h.s else getH t v
def accB (f : List S) (s : S) : Bool := f.any fun q => sub9 q s
def posB (b : List S) (s : S) : Bool := b.any fun t => sub9 s t
def rdy (x : Nd) (is : Bool) (v : Str) : Nd × List Ct := if is && !x.hasR then ({ x with hasR := true, readied := v }, [⟨3, x.id, -1, v⟩]) else (x, [])
def handle (f b : List S) (x : Nd) (src kind : Int) (v : Str) : Nd × List Ct :=
  if src < 0 ∨ 12 ≤ src then (x, [])
  else if kind = 1 then (if x.hasE then (x, []) else ({ x with hasE := true, echoed := v }, [⟨2, x.id, -1, v⟩]))
  else if kind = 2 then (if knows x.echoes src.toNat then (x, []) else
    rdy { x with echoes := putH x.echoes src.toNat v } (accB f (getH (putH x.echoes src.toNat v) v)) v)
  else if kind = 3 then (if knows x.readies src.toNat then (x, []) else
    let s := getH (putH x.readies src.toNat v) v
    let r := rdy { x with readies := putH x.readies src.toNat v } (!posB b s) v
    (if !r.1.hasD && accB f s then { r.1 with hasD := true, delivered := v } else r.1, r.2))
  else (x, [])
def corr (n : Nat) (byz : S) (i : Nat) : Bool := decide (i < n) && !byz.getLsbD i
def corrL (n : Nat) (byz : S) : List Nat := (List.range n).filter (corr n byz)
def toAll (n : Nat) (byz : S) (c : Ct) : List Ct := (corrL n byz).map fun (i : Nat) => { c with dst := (i : Int) }
def nd0 : Nd := ⟨0, ByteArray.empty, false, ByteArray.empty, false, ByteArray.empty, false, [], []⟩
def ct0 : Ct := ⟨0, 0, 0, ByteArray.empty⟩
def ndA (st : St) (i : Nat) : Nd := st.nodes.getD i nd0
def deliv (f b : List S) (n : Nat) (byz : S) (st : St) (k : Nat) : St :=
  let c := st.flight.getD k ct0
  let r := handle f b (ndA st c.dst.toNat) c.src c.kind c.v
  ⟨st.nodes.set c.dst.toNat r.1, st.flight.eraseIdx k ++ r.2.flatMap (toAll n byz)⟩

section
variable {f b : List S} {n : Nat} {byz : S} {source : Nat} {X : Str}
theorem knows_iff (l : List Hd) (i : Nat) : knows l i = true ↔ ∃ h ∈ l, h.s.getLsbD i = true := by simp [knows]
theorem one_bit (i j : Nat) (hi : i < 16) : (1#16 <<< i).getLsbD j = decide (j = i) := by
  rw [BitVec.getLsbD_shiftLeft]
  by_cases hj : j = i
  · subst hj; simp [hi]
  · by_cases h : j < i
    · simp [h, hj]
    · have : j - i ≠ 0 := by omega
      simp [BitVec.getLsbD_one, hj, this]
/-- who is in the list behind a put -/
theorem putH_mem {l : List Hd} {i : Nat} (hi : i < 16) {v : Str} {h : Hd} (hm : h ∈ putH l i v) : ∀ j, h.s.getLsbD j = true → (∃ g ∈ l, g.v = h.v ∧ g.s.getLsbD j = true) ∨ (j = i ∧ h.v = v) := by
  induction l with
  | nil =>
    simp only [putH, List.mem_singleton] at hm
    subst hm
    intro j hj
    rw [one_bit i j hi] at hj
    exact .inr ⟨of_decide_eq_true hj, rfl⟩
  | cons a t ih =>
    simp only [putH] at hm
    intro j hj
    split at hm
    · rename_i e
      rcases List.mem_cons.1 hm with rfl | hm
      · simp only [BitVec.getLsbD_or, Bool.or_eq_true] at hj
        rcases hj with hj | hj
        · exact .inl ⟨a, by simp, rfl, hj⟩
        · rw [one_bit i j hi] at hj
          exact .inr ⟨of_decide_eq_true hj, e⟩
      · exact .inl ⟨h, by simp [hm], rfl, hj⟩
    · rcases List.mem_cons.1 hm with rfl | hm
      · exact .inl ⟨h, by simp, rfl, hj⟩
      · rcases ih hm j hj with ⟨g, hg, k⟩ | k
        · exact .inl ⟨g, by simp [hg], k⟩
        · exact .inr k
theorem putH_keep {l : List Hd} {i : Nat} {v : Str} {g : Hd} (hg : g ∈ l) : ∃ h ∈ putH l i v, h.v = g.v ∧ ∀ j, g.s.getLsbD j = true → h.s.getLsbD j = true := by
  induction l with
  | nil => simp at hg
  | cons a t ih =>
    simp only [putH]
    rcases List.mem_cons.1 hg with rfl | hg
    · split
      · exact ⟨_, List.mem_cons_self, rfl, fun j hj => by simp [hj]⟩
      · exact ⟨g, by simp, rfl, fun j hj => hj⟩
    · split
      · exact ⟨g, by simp [hg], rfl, fun j hj => hj⟩
      · obtain ⟨h, h1, h2⟩ := ih hg
        exact ⟨h, by simp [h1], h2⟩
theorem putH_new (l : List Hd) {i : Nat} (hi : i < 16) (v : Str) : (getH (putH l i v) v).getLsbD i = true ∧ ∃ h ∈ putH l i v, h.v = v ∧ h.s = getH (putH l i v) v := by
  induction l with
  | nil => simp [putH, getH, one_bit i i hi]
  | cons a t ih =>
    simp only [putH]
    split
    · rename_i e
      simp only [getH, e, if_pos]
      exact ⟨by rw [BitVec.getLsbD_or, one_bit i i hi]; simp, ⟨_, List.mem_cons_self, rfl, rfl⟩⟩
    · rename_i e
      simp only [getH, if_neg e]
      obtain ⟨h1, h, h2, h3⟩ := ih
      exact ⟨h1, h, by simp [h2], h3⟩
/-- the values of a list are distinct -/
def DistH (l : List Hd) : Prop := l.Pairwise fun a b => a.v ≠ b.v
theorem putH_vals (l : List Hd) (i : Nat) (v w : Str) : (∃ h ∈ putH l i v, h.v = w) ↔ (∃ h ∈ l, h.v = w) ∨ w = v := by
  induction l with
  | nil => simp [putH, eq_comm]
  | cons a t ih =>
    simp only [putH]
    split
    · rename_i e
      subst e
      simp only [List.mem_cons, exists_eq_or_imp]
      constructor
      · rintro (h | h)
        · exact .inl (.inl h)
        · exact .inl (.inr h)
      · rintro ((h | h) | h)
        · exact .inl h
        · exact .inr h
        · exact .inl h.symm
    · simp only [List.mem_cons, exists_eq_or_imp, ih, or_assoc]
theorem putH_dist {l : List Hd} (i : Nat) (v : Str) (h : DistH l) : DistH (putH l i v) := by
  induction l with
  | nil => simp [putH, DistH]
  | cons a t ih =>
    unfold DistH at *
    rw [List.pairwise_cons] at h
    simp only [putH]
    split
    · rw [List.pairwise_cons]; exact ⟨fun x hx => h.1 x hx, h.2⟩
    · rename_i e
      rw [List.pairwise_cons]
      refine ⟨fun x hx => ?_, ih h.2⟩
      rcases (putH_vals t i v x.v).1 ⟨x, hx, rfl⟩ with ⟨y, hy, k⟩ | k
      · rw [← k]; exact h.1 y hy
      · rw [k]; exact e
theorem getH_of {l : List Hd} (h : DistH l) {g : Hd} (hg : g ∈ l) : getH l g.v = g.s := by
  induction l with
  | nil => simp at hg
  | cons a t ih =>
    unfold DistH at h
    rw [List.pairwise_cons] at h
    rcases List.mem_cons.1 hg with rfl | hg
    · simp [getH]
    · rw [getH, if_neg (h.1 g hg)]; exact ih h.2 hg
theorem putH_old {l : List Hd} {i : Nat} {v : Str} {h : Hd} (hm : h ∈ putH l i v) (hv : h.v ≠ v) : h ∈ l := by
  induction l with
  | nil => simp only [putH, List.mem_singleton] at hm; subst hm; exact absurd rfl hv
  | cons a t ih =>
    simp only [putH] at hm
    split at hm
    · rename_i e
      rcases List.mem_cons.1 hm with rfl | hm
      · exact absurd e hv
      · simp [hm]
    · rcases List.mem_cons.1 hm with rfl | hm
      · simp
      · simp [ih hm]
/-- what handling a cast does to a node -/
structure HF (f b : List S) (x : Nd) (src : Nat) (kind : Int) (v : Str) (y : Nd) (out : List Ct) : Prop where
  id : y.id = x.id
  mE : x.hasE = true → y.hasE = true ∧ y.echoed = x.echoed
  mR : x.hasR = true → y.hasR = true ∧ y.readied = x.readied
  mD : x.hasD = true → y.hasD = true ∧ y.delivered = x.delivered
  nE : y.hasE = true → x.hasE = false → kind = 1 ∧ y.echoed = v ∧ ⟨2, x.id, -1, v⟩ ∈ out
  nR : y.hasR = true → x.hasR = false → y.readied = v ∧ ⟨3, x.id, -1, v⟩ ∈ out ∧ ((kind = 2 ∧ ∃ h ∈ y.echoes, h.v = v ∧ accB f h.s = true) ∨ (kind = 3 ∧ ∃ h ∈ y.readies, h.v = v ∧ posB b h.s = false))
  nD : y.hasD = true → x.hasD = false → y.delivered = v ∧ kind = 3 ∧ ∃ h ∈ y.readies, h.v = v ∧ accB f h.s = true
  out : ∀ o ∈ out, o.src = x.id ∧ o.dst = -1 ∧ ((o.kind = 2 ∧ y.hasE = true ∧ y.echoed = o.v) ∨ (o.kind = 3 ∧ y.hasR = true ∧ y.readied = o.v))
  eE : ∀ h ∈ y.echoes, ∀ j, h.s.getLsbD j = true → (∃ g ∈ x.echoes, g.v = h.v ∧ g.s.getLsbD j = true) ∨ (j = src ∧ h.v = v ∧ kind = 2)
  eR : ∀ h ∈ y.readies, ∀ j, h.s.getLsbD j = true → (∃ g ∈ x.readies, g.v = h.v ∧ g.s.getLsbD j = true) ∨ (j = src ∧ h.v = v ∧ kind = 3)
  kE : ∀ j, knows x.echoes j = true → knows y.echoes j = true
  kR : ∀ j, knows x.readies j = true → knows y.readies j = true
  kE2 : kind = 2 → knows y.echoes src = true
  kR2 : kind = 3 → knows y.readies src = true
  s1 : kind = 1 → y.hasE = true
  dE : DistH x.echoes → DistH y.echoes
  dR : DistH x.readies → DistH y.readies
  gE : DistH x.echoes → (∀ h ∈ x.echoes, accB f h.s = true → x.hasR = true) → ∀ h ∈ y.echoes, accB f h.s = true → y.hasR = true
  gR : DistH x.readies → (∀ h ∈ x.readies, posB b h.s = false → x.hasR = true) → ∀ h ∈ y.readies, posB b h.s = false → y.hasR = true
  gD : DistH x.readies → (∀ h ∈ x.readies, accB f h.s = true → x.hasD = true) → ∀ h ∈ y.readies, accB f h.s = true → y.hasD = true
theorem knows_put (l : List Hd) {i : Nat} (hi : i < 16) (v : Str) : knows (putH l i v) i = true := by
  obtain ⟨h1, h, h2, h3, h4⟩ := putH_new l hi v
  rw [knows_iff]; exact ⟨h, h2, by rw [h4]; exact h1⟩
theorem knows_mono {l : List Hd} {i j : Nat} {v : Str} (h : knows l j = true) : knows (putH l i v) j = true := by
  rw [knows_iff] at *
  obtain ⟨g, h1, h2⟩ := h
  obtain ⟨h, h3, h4, h5⟩ := putH_keep (i := i) (v := v) h1
  exact ⟨h, h3, h5 j h2⟩
theorem put_set {l : List Hd} (hd : DistH l) {i : Nat} {v : Str} {h : Hd} (hm : h ∈ putH l i v) (hv : h.v = v) : h.s = getH (putH l i v) v := by
  rw [← hv]; rw [hv]; rw [← hv, getH_of (putH_dist i _ hd)]; rw [hv]; exact hm
theorem tf {a : Bool} (h : a = true) (k : a = false) : False := by rw [h] at k; cases k
theorem handle_facts (f b : List S) (x : Nd) (src : Nat) (hs : src < 12) (kind : Int) (v : Str) : HF f b x src kind v (handle f b x src kind v).1 (handle f b x src kind v).2 := by
  have h0 : ¬ ((src : Int) < 0 ∨ 12 ≤ (src : Int)) := by omega
  unfold handle
  rw [if_neg h0, Int.toNat_natCast]
  have same : kind ≠ 1 → kind ≠ 2 → kind ≠ 3 → HF f b x src kind v x [] := fun a1 a2 a3 => ⟨rfl, fun h => ⟨h, rfl⟩, fun h => ⟨h, rfl⟩, fun h => ⟨h, rfl⟩, fun h k => (tf h k).elim, fun h k => (tf h k).elim, fun h k => (tf h k).elim,
    fun o ho => by simp at ho, fun h hm j hj => .inl ⟨h, hm, rfl, hj⟩, fun h hm j hj => .inl ⟨h, hm, rfl, hj⟩, fun _ h => h, fun _ h => h, fun h => absurd h a2, fun h => absurd h a3, fun h => absurd h a1, fun h => h, fun h => h, fun _ h => h, fun _ h => h, fun _ h => h⟩
  by_cases k1 : kind = 1
  · subst k1
    rw [if_pos rfl]
    by_cases hE : x.hasE = true
    · rw [if_pos hE]
      exact ⟨rfl, fun h => ⟨h, rfl⟩, fun h => ⟨h, rfl⟩, fun h => ⟨h, rfl⟩, fun h k => (tf h k).elim, fun h k => (tf h k).elim, fun h k => (tf h k).elim,
        fun o ho => by simp at ho, fun h hm j hj => .inl ⟨h, hm, rfl, hj⟩, fun h hm j hj => .inl ⟨h, hm, rfl, hj⟩, fun _ h => h, fun _ h => h, fun h => by omega, fun h => by omega, fun _ => hE, fun h => h, fun h => h, fun _ h => h, fun _ h => h, fun _ h => h⟩
    · rw [if_neg hE]
      exact ⟨rfl, fun h => absurd h hE, fun h => ⟨h, rfl⟩, fun h => ⟨h, rfl⟩, fun _ _ => ⟨rfl, rfl, by simp⟩, fun h k => (tf h k).elim, fun h k => (tf h k).elim,
        fun o ho => by simp at ho; subst ho; exact ⟨rfl, rfl, .inl ⟨rfl, rfl, rfl⟩⟩, fun h hm j hj => .inl ⟨h, hm, rfl, hj⟩, fun h hm j hj => .inl ⟨h, hm, rfl, hj⟩, fun _ h => h, fun _ h => h, fun h => by omega, fun h => by omega, fun _ => rfl, fun h => h, fun h => h, fun _ h => h, fun _ h => h, fun _ h => h⟩
  rw [if_neg k1]
  by_cases k2 : kind = 2
  · subst k2
    rw [if_pos rfl]
    by_cases hk : knows x.echoes src = true
    · rw [if_pos hk]
      exact ⟨rfl, fun h => ⟨h, rfl⟩, fun h => ⟨h, rfl⟩, fun h => ⟨h, rfl⟩, fun h k => (tf h k).elim, fun h k => (tf h k).elim, fun h k => (tf h k).elim,
        fun o ho => by simp at ho, fun h hm j hj => .inl ⟨h, hm, rfl, hj⟩, fun h hm j hj => .inl ⟨h, hm, rfl, hj⟩, fun _ h => h, fun _ h => h, fun _ => hk, fun h => by omega, fun h => by omega, fun h => h, fun h => h, fun _ h => h, fun _ h => h, fun _ h => h⟩
    · rw [if_neg hk]
      obtain ⟨n1, g, n2, n3, n4⟩ := putH_new x.echoes (i := src) (by omega) v
      unfold rdy
      by_cases hc : (accB f (getH (putH x.echoes src v) v) && !x.hasR) = true
      · rw [if_pos hc]
        obtain ⟨c1, c2⟩ := Bool.and_eq_true_iff.1 hc
        have c2 : x.hasR = false := by simpa using c2
        exact ⟨rfl, fun h => ⟨h, rfl⟩, fun h => by simp [c2] at h, fun h => ⟨h, rfl⟩, fun h k => (tf h k).elim, fun _ _ => ⟨rfl, by simp, .inl ⟨rfl, g, n2, n3, by rw [n4]; exact c1⟩⟩, fun h k => (tf h k).elim,
          fun o ho => by simp at ho; subst ho; exact ⟨rfl, rfl, .inr ⟨rfl, rfl, rfl⟩⟩, fun h hm j hj => by rcases putH_mem (by omega) hm j hj with k | ⟨k1, k2⟩; exact .inl k; exact .inr ⟨k1, k2, rfl⟩, fun h hm j hj => .inl ⟨h, hm, rfl, hj⟩, fun _ h => knows_mono h, fun _ h => h, fun _ => knows_put _ (by omega) _, fun h => by omega, fun h => by omega, fun h => putH_dist _ _ h, fun h => h, fun _ _ _ _ _ => rfl, fun _ _ _ _ _ => rfl, fun _ h => h⟩
      · rw [if_neg hc]
        refine ⟨rfl, fun h => ⟨h, rfl⟩, fun h => ⟨h, rfl⟩, fun h => ⟨h, rfl⟩, fun h k => (tf h k).elim, fun h k => (tf h k).elim, fun h k => (tf h k).elim,
          fun o ho => by simp at ho, fun h hm j hj => by rcases putH_mem (by omega) hm j hj with k | ⟨k1, k2⟩; exact .inl k; exact .inr ⟨k1, k2, rfl⟩, fun h hm j hj => .inl ⟨h, hm, rfl, hj⟩, fun _ h => knows_mono h, fun _ h => h, fun _ => knows_put _ (by omega) _, fun h => by omega, fun h => by omega, fun h => putH_dist _ _ h, fun h => h, fun hd hx h hm ha => ?_, fun _ h => h, fun _ h => h⟩
        by_cases e : h.v = v
        · rw [put_set hd hm e] at ha
          rw [ha, Bool.true_and] at hc
          simpa using hc
        · exact hx h (putH_old hm e) ha
  rw [if_neg k2]
  by_cases k3 : kind = 3
  · subst k3
    rw [if_pos rfl]
    by_cases hk : knows x.readies src = true
    · rw [if_pos hk]
      exact ⟨rfl, fun h => ⟨h, rfl⟩, fun h => ⟨h, rfl⟩, fun h => ⟨h, rfl⟩, fun h k => (tf h k).elim, fun h k => (tf h k).elim, fun h k => (tf h k).elim,
        fun o ho => by simp at ho, fun h hm j hj => .inl ⟨h, hm, rfl, hj⟩, fun h hm j hj => .inl ⟨h, hm, rfl, hj⟩, fun _ h => h, fun _ h => h, fun h => by omega, fun _ => hk, fun h => by omega, fun h => h, fun h => h, fun _ h => h, fun _ h => h, fun _ h => h⟩
    · rw [if_neg hk]
      obtain ⟨n1, g, n2, n3, n4⟩ := putH_new x.readies (i := src) (by omega) v
      have hgs : DistH x.readies → ∀ h ∈ putH x.readies src v, h.v = v → h.s = getH (putH x.readies src v) v := fun hd h hm e => put_set hd hm e
      have hold : ∀ h ∈ putH x.readies src v, h.v ≠ v → h ∈ x.readies := fun h hm e => putH_old hm e
      have hkm : ∀ j, knows x.readies j = true → knows (putH x.readies src v) j = true := fun j h => knows_mono h
      have hkp : knows (putH x.readies src v) src = true := knows_put _ (by omega) _
      have hmm : ∀ h ∈ putH x.readies src v, ∀ j, h.s.getLsbD j = true → (∃ g ∈ x.readies, g.v = h.v ∧ g.s.getLsbD j = true) ∨ (j = src ∧ h.v = v ∧ (3 : Int) = 3) := fun h hm j hj => by
        rcases putH_mem (by omega) hm j hj with k | ⟨k1, k2⟩
        · exact .inl k
        · exact .inr ⟨k1, k2, rfl⟩
      have hdd : DistH x.readies → DistH (putH x.readies src v) := fun h => putH_dist _ _ h
      generalize putH x.readies src v = l at *
      generalize getH l v = s at *
      dsimp only
      obtain ⟨xid, xe, xhe, xr, xhr, xd, xhd, xes, xrs⟩ := x
      dsimp only at *
      unfold rdy
      dsimp only
      cases hp : posB b s <;> cases xhr <;> cases xhd <;> cases ha : accB f s <;> simp only [Bool.not_false, Bool.not_true, Bool.and_false, Bool.and_true, if_true, if_false, Bool.false_eq_true] <;>
      refine ⟨rfl, fun h => ⟨h, rfl⟩, fun h => by first | exact ⟨h, rfl⟩ | simp at h, fun h => by first | exact ⟨h, rfl⟩ | simp at h, fun h k => (tf h k).elim, fun h k => by first | exact absurd h Bool.false_ne_true | exact absurd k.symm Bool.false_ne_true | exact ⟨rfl, by simp, .inr ⟨rfl, g, n2, n3, by rw [n4]; exact hp⟩⟩, fun h k => by first | exact absurd h Bool.false_ne_true | exact absurd k.symm Bool.false_ne_true | exact ⟨rfl, rfl, g, n2, n3, by rw [n4]; exact ha⟩,
          fun o ho => by first | (simp at ho; done) | (simp at ho; subst ho; exact ⟨rfl, rfl, .inr ⟨rfl, rfl, rfl⟩⟩), fun h hm j hj => .inl ⟨h, hm, rfl, hj⟩, hmm, fun _ h => h, hkm, fun h => by omega, fun _ => hkp, fun h => by omega, fun h => h, hdd, fun _ hx h hm hh => by first | rfl | exact hx h hm hh, fun hd hx h hm hh => ?_, fun hd hx h hm hh => ?_⟩ <;>
      first
        | rfl
        | (by_cases e : h.v = v
           · rw [hgs hd h hm e] at hh; simp [hp, ha] at hh
           · exact hx h (hold h hm e) hh)
  · rw [if_neg k3]
    exact same k1 k2 k3
structure Inv (f b : List S) (n : Nat) (byz : S) (source : Nat) (X : Str) (st : St) : Prop where
  len : st.nodes.length = n
  ids : ∀ i, i < n → (ndA st i).id = (i : Int)
  fl : ∀ c ∈ st.flight, ∃ d s : Nat, c.dst = (d : Int) ∧ corr n byz d = true ∧ c.src = (s : Int) ∧ s < n ∧ (c.kind = 1 → s = source) ∧ (corr n byz s = true → (c.kind = 1 → c.v = X) ∧ (c.kind = 2 → (ndA st s).hasE = true ∧ (ndA st s).echoed = c.v) ∧ (c.kind = 3 → (ndA st s).hasR = true ∧ (ndA st s).readied = c.v))
  ech : ∀ i, i < n → ∀ h ∈ (ndA st i).echoes, ∀ j, h.s.getLsbD j = true → j < n ∧ (corr n byz j = true → (ndA st j).hasE = true ∧ (ndA st j).echoed = h.v)
  rea : ∀ i, i < n → ∀ h ∈ (ndA st i).readies, ∀ j, h.s.getLsbD j = true → j < n ∧ (corr n byz j = true → (ndA st j).hasR = true ∧ (ndA st j).readied = h.v)
  dE : ∀ i, i < n → DistH (ndA st i).echoes
  dR : ∀ i, i < n → DistH (ndA st i).readies
  qR : ∀ i, i < n → (ndA st i).hasR = true → ∃ q ∈ f, ∀ j, q.getLsbD j = true → corr n byz j = true → (ndA st j).hasE = true ∧ (ndA st j).echoed = (ndA st i).readied
  qD : ∀ i, i < n → (ndA st i).hasD = true → ∃ q ∈ f, ∀ j, q.getLsbD j = true → corr n byz j = true → (ndA st j).hasR = true ∧ (ndA st j).readied = (ndA st i).delivered
  sE : corr n byz source = true → ∀ i, i < n → (ndA st i).hasE = true → (ndA st i).echoed = X
  tS : corr n byz source = true → ∀ i, corr n byz i = true → (ndA st i).hasE = true ∨ ∃ c ∈ st.flight, c.kind = 1 ∧ c.dst = (i : Int)
  tE : ∀ k, corr n byz k = true → (ndA st k).hasE = true → ∀ i, corr n byz i = true → knows (ndA st i).echoes k = true ∨ ∃ c ∈ st.flight, c.kind = 2 ∧ c.src = (k : Int) ∧ c.dst = (i : Int)
  tR : ∀ k, corr n byz k = true → (ndA st k).hasR = true → ∀ i, corr n byz i = true → knows (ndA st i).readies k = true ∨ ∃ c ∈ st.flight, c.kind = 3 ∧ c.src = (k : Int) ∧ c.dst = (i : Int)
  gE : ∀ i, i < n → ∀ h ∈ (ndA st i).echoes, accB f h.s = true → (ndA st i).hasR = true
  gR : ∀ i, i < n → ∀ h ∈ (ndA st i).readies, posB b h.s = false → (ndA st i).hasR = true
  gD : ∀ i, i < n → ∀ h ∈ (ndA st i).readies, accB f h.s = true → (ndA st i).hasD = true
theorem corr_lt {i : Nat} (h : corr n byz i = true) : i < n := by simp only [corr, Bool.and_eq_true, decide_eq_true_eq] at h; exact h.1
theorem mem_corrL (i : Nat) : i ∈ corrL n byz ↔ corr n byz i = true := by
  unfold corrL; rw [List.mem_filter, List.mem_range]
  exact ⟨fun h => h.2, fun h => ⟨corr_lt h, h⟩⟩
theorem mem_toAll (c c' : Ct) : c' ∈ toAll n byz c ↔ ∃ i, corr n byz i = true ∧ c' = { c with dst := (i : Int) } := by
  unfold toAll; rw [List.mem_map]
  constructor
  · rintro ⟨i, hi, rfl⟩; exact ⟨i, (mem_corrL i).1 hi, rfl⟩
  · rintro ⟨i, hi, rfl⟩; exact ⟨i, (mem_corrL i).2 hi, rfl⟩
theorem mem_erase {l : List Ct} {k : Nat} (hk : k < l.length) {c' : Ct} (h : c' ∈ l) : c' = l.getD k ct0 ∨ c' ∈ l.eraseIdx k := by
  obtain ⟨m, hm, rfl⟩ := List.mem_iff_getElem.1 h
  by_cases e : m = k
  · subst e; left; simp [List.getD, hm]
  · right
    rw [List.mem_eraseIdx_iff_getElem]
    exact ⟨m, hm, e, rfl⟩
theorem accB_iff (f : List S) (s : S) : accB f s = true ↔ ∃ q ∈ f, sub9 q s = true := by simp [accB]
theorem bit_lt {s : S} {j : Nat} (h : s.getLsbD j = true) : j < 16 := BitVec.lt_of_getLsbD h
/-- a cast that a Byzantine server sends -/
def LieOk (n : Nat) (byz : S) (source : Nat) (c : Ct) : Prop := ∃ d s : Nat, c.dst = (d : Int) ∧ corr n byz d = true ∧ c.src = (s : Int) ∧ s < n ∧ corr n byz s = false ∧ (c.kind = 1 → s = source)
def startN (n : Nat) : List Nd := (List.range n).map fun (i : Nat) => { nd0 with id := (i : Int) }
def startS (n : Nat) (byz : S) (source : Nat) (X : Str) (d0 : Int) : St := ⟨startN n, if corr n byz source then toAll n byz ⟨1, source, d0, X⟩ else []⟩
theorem startN_at (n i : Nat) (h : i < n) (fl : List Ct) : ndA ⟨startN n, fl⟩ i = { nd0 with id := (i : Int) } := by simp [ndA, startN, List.getD, h]
/-- each two sets of f have a common member outside of each set of b -/
def Diss (f b : List S) : Prop := ∀ p ∈ f, ∀ q ∈ f, ∀ t ∈ b, ∃ j, p.getLsbD j = true ∧ q.getLsbD j = true ∧ t.getLsbD j = false
theorem corr_of {j : Nat} (h1 : j < n) (h2 : byz.getLsbD j = false) : corr n byz j = true := by simp [corr, h1, h2]
/-- if all of a quorum's members are known with one value, one entry of the list contains it -/
theorem one_entry {l : List Hd} {q : S} {v : Str} (hne : ∃ j, q.getLsbD j = true) (hd : DistH l) (h : ∀ j, q.getLsbD j = true → ∃ g ∈ l, g.v = v ∧ g.s.getLsbD j = true) : ∃ g ∈ l, g.v = v ∧ sub9 q g.s = true := by
  obtain ⟨j, hj⟩ := hne
  obtain ⟨g, hg, hv, _⟩ := h j hj
  refine ⟨g, hg, hv, (sub9_iff q g.s).2 fun i _ hi => ?_⟩
  obtain ⟨g', hg', hv', hb⟩ := h i hi
  have e1 := getH_of hd hg
  have e2 := getH_of hd hg'
  rw [hv] at e1
  rw [hv'] at e2
  rw [← e1, e2]; exact hb
def lieL (n : Nat) (byz : S) (source : Nat) (X Y : Str) : List Ct :=
  (List.range n).flatMap fun (s : Nat) => if corr n byz s then [] else
    [1, 2, 3].flatMap fun (k : Int) => if k = 1 ∧ s ≠ source then [] else
      [X, Y].flatMap fun v => (corrL n byz).map fun (d9 : Nat) => ⟨k, (s : Int), (d9 : Int), v⟩
theorem lieL_ok {c : Ct} {Y : Str} (h : c ∈ lieL n byz source X Y) : LieOk n byz source c := by
  unfold lieL at h
  obtain ⟨s, hs, h⟩ := List.mem_flatMap.1 h
  have hsn := List.mem_range.1 hs
  split at h
  · simp at h
  · rename_i hc
    obtain ⟨k, _, h⟩ := List.mem_flatMap.1 h
    split at h
    · simp at h
    · rename_i hk
      obtain ⟨v, _, h⟩ := List.mem_flatMap.1 h
      obtain ⟨d9, hto, rfl⟩ := List.mem_map.1 h
      exact ⟨d9, s, rfl, (mem_corrL d9).1 hto, rfl, hsn, by simpa using hc, fun (e : k = 1) => Classical.byContradiction fun h => hk ⟨e, h⟩⟩
def stepS (f b : List S) (n : Nat) (byz : S) (lies : List Ct) (st : St) (ch : Nat) : St :=
  if st.flight.length + lies.length = 0 then st
  else if ch % (st.flight.length + lies.length) < st.flight.length then deliv f b n byz st (ch % (st.flight.length + lies.length))
  else ⟨st.nodes, st.flight ++ [lies.getD (ch % (st.flight.length + lies.length) - st.flight.length) ct0]⟩
def runS (f b : List S) (n : Nat) (byz : S) (lies : List Ct) (st : St) (chs : List Nat) : St := chs.foldl (stepS f b n byz lies) st
def unS (x : Nd) : Nat := (if x.hasE then 0 else 1) + (if x.hasR then 0 else 1)
def measN (n : Nat) (l : List Nd) : Nat := n * (l.map unS).sum
def measS (n : Nat) (st : St) : Nat := st.flight.length + measN n st.nodes
def settleN (f b : List S) (n : Nat) (byz : S) : Nat → St → St
  | 0, st => st
  | k + 1, st => if st.flight.length = 0 then st else settleN f b n byz k (deliv f b n byz st 0)
def settleS (f b : List S) (n : Nat) (byz : S) (st : St) : St := settleN f b n byz (measS n st) st
theorem rdy_un (x : Nd) (is : Bool) (v : Str) : (rdy x is v).2.length + unS (rdy x is v).1 ≤ unS x := by
  unfold rdy
  split
  · rename_i h
    have := (Bool.and_eq_true_iff.1 h).2
    have h2 : x.hasR = false := by simpa using this
    simp [unS, h2]; omega
  · simp
theorem handle_un (f b : List S) (x : Nd) (src kind : Int) (v : Str) : (handle f b x src kind v).2.length + unS (handle f b x src kind v).1 ≤ unS x := by
  unfold handle
  split
  · simp
  · split
    · split
      · simp
      · rename_i h; simp [unS, h]
    · split
      · split
        · simp
        · have := rdy_un { x with echoes := putH x.echoes src.toNat v } (accB f (getH (putH x.echoes src.toNat v) v)) v
          exact Nat.le_trans this (Nat.le_refl _)
      · split
        · split
          · simp
          · have := rdy_un { x with readies := putH x.readies src.toNat v } (!posB b (getH (putH x.readies src.toNat v) v)) v
            dsimp only
            generalize rdy { x with readies := putH x.readies src.toNat v } (!posB b (getH (putH x.readies src.toNat v) v)) v = r at *
            refine Nat.le_trans ?_ (Nat.le_trans this (Nat.le_refl _))
            split
            · exact Nat.le_refl _
            · exact Nat.le_refl _
        · simp
theorem sum_set (l : List Nd) (d : Nat) (y : Nd) (h : d < l.length) : ((l.set d y).map unS).sum + unS (l.getD d nd0) = (l.map unS).sum + unS y := by
  induction l generalizing d with
  | nil => simp at h
  | cons a t ih =>
    cases d with
    | zero => simp [List.getD]; omega
    | succ d =>
      have := ih d (by simpa using h)
      simp only [List.getD, List.set_cons_succ, List.map_cons, List.sum_cons, List.getElem?_cons_succ] at *
      omega
theorem toAll_len (n : Nat) (byz : S) (c : Ct) : (toAll n byz c).length ≤ n := by
  unfold toAll corrL
  rw [List.length_map]
  exact Nat.le_trans (List.length_filter_le _ _) (by simp)
theorem flatMap_len (l : List Ct) (n : Nat) (byz : S) : (l.flatMap (toAll n byz)).length ≤ n * l.length := by
  induction l with
  | nil => simp
  | cons a t ih =>
    rw [List.flatMap_cons, List.length_append, List.length_cons, Nat.mul_succ]
    have := toAll_len n byz a
    omega
theorem deliv_meas {st : St} {k : Nat} (hk : k < st.flight.length) (hd : (st.flight.getD k ct0).dst.toNat < st.nodes.length) : measS n (deliv f b n byz st k) < measS n st := by
  unfold measS measN deliv
  dsimp only
  have h1 := handle_un f b (ndA st (st.flight.getD k ct0).dst.toNat) (st.flight.getD k ct0).src (st.flight.getD k ct0).kind (st.flight.getD k ct0).v
  have h2 := sum_set st.nodes (st.flight.getD k ct0).dst.toNat (handle f b (ndA st (st.flight.getD k ct0).dst.toNat) (st.flight.getD k ct0).src (st.flight.getD k ct0).kind (st.flight.getD k ct0).v).1 hd
  change _ + unS (ndA st _) = _ at h2
  generalize (handle f b (ndA st (st.flight.getD k ct0).dst.toNat) (st.flight.getD k ct0).src (st.flight.getD k ct0).kind (st.flight.getD k ct0).v) = r at *
  have h3 := flatMap_len r.2 n byz
  rw [List.length_append, List.length_eraseIdx, if_pos hk]
  generalize (r.2.flatMap (toAll n byz)).length = A at *
  generalize ((st.nodes.set (st.flight.getD k ct0).dst.toNat r.1).map unS).sum = B at *
  generalize (st.nodes.map unS).sum = C at *
  have h4 : r.2.length + B ≤ C := by omega
  have h5 := Nat.mul_le_mul_left n h4
  rw [Nat.mul_add] at h5
  omega
/-- casts go to nodes -/
def DstOk (n : Nat) (st : St) : Prop := st.nodes.length = n ∧ ∀ c ∈ st.flight, ∃ d : Nat, c.dst = (d : Int) ∧ d < n
theorem deliv_dst {st : St} (h : DstOk n st) (k : Nat) : DstOk n (deliv f b n byz st k) := by
  refine ⟨by simpa [deliv] using h.1, fun c hc => ?_⟩
  unfold deliv at hc
  dsimp only at hc
  rcases List.mem_append.1 hc with h1 | h1
  · exact h.2 c (List.mem_of_mem_eraseIdx h1)
  · obtain ⟨o, _, h2⟩ := List.mem_flatMap.1 h1
    obtain ⟨i, hi, rfl⟩ := (mem_toAll _ _).1 h2
    exact ⟨i, rfl, corr_lt hi⟩
theorem dst_at {st : St} (h : DstOk n st) {k : Nat} (hk : k < st.flight.length) : (st.flight.getD k ct0).dst.toNat < st.nodes.length := by
  obtain ⟨d, h1, h2⟩ := h.2 (st.flight.getD k ct0) (by simp [List.getD, hk])
  rw [h1, h.1]; simpa using h2
/-- more fuel changes nothing -/
theorem settleN_fuel : ∀ k j {st : St}, DstOk n st → measS n st ≤ k → k ≤ j → settleN f b n byz j st = settleN f b n byz k st
  | 0, 0, _, _, _, _ => rfl
  | 0, j + 1, st, _, h, _ => by
    have : st.flight.length = 0 := by unfold measS at h; omega
    unfold settleN
    rw [if_pos this]
  | k + 1, 0, _, _, _, h => by omega
  | k + 1, j + 1, st, hd, h, hj => by
    unfold settleN
    split
    · rfl
    · rename_i h0
      have := deliv_meas (f := f) (b := b) (byz := byz) (n := n) (k := 0) (by omega) (dst_at hd (k := 0) (by omega))
      exact settleN_fuel k j (deliv_dst hd 0) (by omega) (by omega)
theorem settleS_step {st : St} (hd : DstOk n st) (h0 : 0 < st.flight.length) : settleS f b n byz st = settleS f b n byz (deliv f b n byz st 0) := by
  have hm := deliv_meas (f := f) (b := b) (byz := byz) (n := n) (k := 0) h0 (dst_at hd (k := 0) h0)
  unfold settleS
  obtain ⟨m, hm2⟩ : ∃ m, measS n st = m + 1 := ⟨measS n st - 1, by omega⟩
  rw [hm2, settleN, if_neg (by omega)]
  exact settleN_fuel _ _ (deliv_dst hd 0) (Nat.le_refl _) (by omega)
theorem settleS_end {st : St} (h0 : st.flight.length = 0) : settleS f b n byz st = st := by
  unfold settleS
  cases measS n st with
  | zero => rfl
  | succ m => rw [settleN, if_pos h0]
def memL (s : S) : List Nat := (List.range 16).filter fun i => s.getLsbD i
theorem mem_memL (s : S) (i : Nat) : i ∈ memL s ↔ s.getLsbD i = true := by
  unfold memL; rw [List.mem_filter, List.mem_range]
  exact ⟨fun h => h.2, fun h => ⟨bit_lt h, h⟩⟩
def sayL (A : S) (kind : Int) (src : Nat) (v : Str) : List Ct := (memL A).map fun (d9 : Nat) => ⟨kind, (src : Int), (d9 : Int), v⟩
def pushL (A p byz : S) (source : Nat) (v : Str) : List Ct := sayL A 1 source v ++ ([2, 3].flatMap fun (k : Int) => (memL (p &&& byz)).flatMap fun i => sayL A k i v)
/-- a cast that a side delivers -/
def inA (A byz : S) (c : Ct) : Bool := (decide (0 ≤ c.dst) && A.getLsbD c.dst.toNat) && (decide (0 ≤ c.src) && (A ||| byz).getLsbD c.src.toNat)
def idxL (P : Ct → Bool) : List Ct → Option Nat
  | [] => none
  | c :: t => if P c then some 0 else (idxL P t).map (· + 1)
theorem idxL_some {P : Ct → Bool} : ∀ {l : List Ct} {k : Nat}, idxL P l = some k → k < l.length ∧ P (l.getD k ct0) = true
  | [], _, h => by simp [idxL] at h
  | c :: t, k, h => by
    unfold idxL at h
    split at h
    · rename_i hp
      obtain rfl := Option.some.inj h
      exact ⟨by simp, by simpa [List.getD] using hp⟩
    · obtain ⟨m, h1, rfl⟩ := Option.map_eq_some_iff.1 h
      obtain ⟨h2, h3⟩ := idxL_some h1
      exact ⟨by simpa using h2, by simpa [List.getD] using h3⟩
theorem idxL_none {P : Ct → Bool} : ∀ {l : List Ct}, idxL P l = none → ∀ c ∈ l, P c = false
  | [], _, c, hc => by simp at hc
  | a :: t, h, c, hc => by
    unfold idxL at h
    split at h
    · cases h
    · rename_i hp
      have := Option.map_eq_none_iff.1 h
      rcases List.mem_cons.1 hc with rfl | hc
      · simpa using hp
      · exact idxL_none this c hc
def playN (f b : List S) (n : Nat) (byz A : S) : Nat → St → St
  | 0, st => st
  | k + 1, st => match idxL (inA A byz) st.flight with
    | none => st
    | some i => playN f b n byz A k (deliv f b n byz st i)
def playS (f b : List S) (n : Nat) (byz A : S) (st : St) : St := playN f b n byz A (measS n st) st
theorem playN_done {A : S} : ∀ k {st : St}, DstOk n st → measS n st ≤ k → idxL (inA A byz) (playN f b n byz A k st).flight = none
  | 0, st, _, h => by
    have : st.flight.length = 0 := by unfold measS at h; omega
    have e := List.eq_nil_of_length_eq_zero this
    unfold playN
    rw [e]; rfl
  | k + 1, st, hd, h => by
    unfold playN
    cases e : idxL (inA A byz) st.flight with
    | none => exact e
    | some i =>
      have hi := (idxL_some e).1
      have := deliv_meas (f := f) (b := b) (byz := byz) (n := n) (k := i) hi (dst_at hd hi)
      exact playN_done k (deliv_dst hd i) (by omega)
theorem playN_fuel {A : S} : ∀ k j {st : St}, DstOk n st → measS n st ≤ k → k ≤ j → playN f b n byz A j st = playN f b n byz A k st
  | 0, 0, _, _, _, _ => rfl
  | 0, j + 1, st, _, h, _ => by
    have : st.flight.length = 0 := by unfold measS at h; omega
    have e := List.eq_nil_of_length_eq_zero this
    unfold playN
    rw [e]; rfl
  | k + 1, 0, _, _, _, h => by omega
  | k + 1, j + 1, st, hd, h, hj => by
    unfold playN
    cases e : idxL (inA A byz) st.flight with
    | none => rfl
    | some i =>
      have hi := (idxL_some e).1
      have := deliv_meas (f := f) (b := b) (byz := byz) (n := n) (k := i) hi (dst_at hd hi)
      exact playN_fuel k j (deliv_dst hd i) (by omega) (by omega)
theorem playS_step {A : S} {st : St} (hd : DstOk n st) {i : Nat} (h0 : idxL (inA A byz) st.flight = some i) : playS f b n byz A st = playS f b n byz A (deliv f b n byz st i) := by
  have hi := (idxL_some h0).1
  have hm := deliv_meas (f := f) (b := b) (byz := byz) (n := n) (k := i) hi (dst_at hd hi)
  unfold playS
  obtain ⟨m, hm2⟩ : ∃ m, measS n st = m + 1 := ⟨measS n st - 1, by omega⟩
  rw [hm2, playN, h0]
  exact playN_fuel _ _ (deliv_dst hd i) (Nat.le_refl _) (by omega)
theorem playS_end {A : S} {st : St} (h0 : idxL (inA A byz) st.flight = none) : playS f b n byz A st = st := by
  unfold playS
  cases measS n st with
  | zero => rfl
  | succ m => rw [playN, h0]
def sideS (f b : List S) (n : Nat) (byz : S) (source : Nat) (st : St) (A p : S) (v : Str) : St := playS f b n byz A ⟨st.nodes, st.flight ++ pushL A p byz source v⟩

theorem rdy_vals (x : Nd) (is : Bool) (v : Str) : (∀ o ∈ (rdy x is v).2, o.v = v) ∧ (rdy x is v).1.echoes = x.echoes ∧ (rdy x is v).1.readies = x.readies := by
  unfold rdy
  split
  · exact ⟨fun o ho => by obtain rfl := List.mem_singleton.1 ho; rfl, rfl, rfl⟩
  · exact ⟨fun o ho => by simp at ho, rfl, rfl⟩
theorem handle_vals (f b : List S) (x : Nd) (src kind : Int) (v : Str) : (∀ o ∈ (handle f b x src kind v).2, o.v = v) ∧
    (∀ h ∈ (handle f b x src kind v).1.echoes, (∃ g ∈ x.echoes, g.v = h.v) ∨ h.v = v) ∧ (∀ h ∈ (handle f b x src kind v).1.readies, (∃ g ∈ x.readies, g.v = h.v) ∨ h.v = v) := by
  have same : ∀ l : List Hd, ∀ h ∈ l, (∃ g ∈ l, g.v = h.v) ∨ h.v = v := fun l h hm => .inl ⟨h, hm, rfl⟩
  have putv : ∀ (l : List Hd) (i : Nat), ∀ h ∈ putH l i v, (∃ g ∈ l, g.v = h.v) ∨ h.v = v := fun l i h hm => (putH_vals l i v h.v).1 ⟨h, hm, rfl⟩
  have nil : ∀ o ∈ ([] : List Ct), o.v = v := fun o ho => by simp at ho
  unfold handle
  split
  · exact ⟨nil, same _, same _⟩
  · split
    · split
      · exact ⟨nil, same _, same _⟩
      · exact ⟨fun o ho => by obtain rfl := List.mem_singleton.1 ho; rfl, same _, same _⟩
    · split
      · split
        · exact ⟨nil, same _, same _⟩
        · obtain ⟨h1, h2, h3⟩ := rdy_vals { x with echoes := putH x.echoes src.toNat v } (accB f (getH (putH x.echoes src.toNat v) v)) v
          exact ⟨h1, by rw [h2]; exact putv _ _, by rw [h3]; exact same _⟩
      · split
        · split
          · exact ⟨nil, same _, same _⟩
          · obtain ⟨h1, h2, h3⟩ := rdy_vals { x with readies := putH x.readies src.toNat v } (!posB b (getH (putH x.readies src.toNat v) v)) v
            dsimp only
            generalize rdy { x with readies := putH x.readies src.toNat v } (!posB b (getH (putH x.readies src.toNat v) v)) v = r at *
            refine ⟨h1, ?_, ?_⟩
            · have : ∀ q : Bool, (if q = true then { r.1 with hasD := true, delivered := v } else r.1).echoes = r.1.echoes := fun q => by cases q <;> rfl
              rw [this, h2]; exact same _
            · have : ∀ q : Bool, (if q = true then { r.1 with hasD := true, delivered := v } else r.1).readies = r.1.readies := fun q => by cases q <;> rfl
              rw [this, h3]; exact putv _ _
        · exact ⟨nil, same _, same _⟩
/-- the state of one side while it plays -/
structure SInv (f b : List S) (n : Nat) (byz A p : S) (v : Str) (st : St) : Prop where
  dst : DstOk n st
  ids : ∀ i, i < n → (ndA st i).id = (i : Int)
  fl : ∀ c ∈ st.flight, inA A byz c = true → c.v = v
  ech : ∀ i, A.getLsbD i = true → ∀ h ∈ (ndA st i).echoes, h.v = v
  rea : ∀ i, A.getLsbD i = true → ∀ h ∈ (ndA st i).readies, h.v = v
  dE : ∀ i, A.getLsbD i = true → DistH (ndA st i).echoes
  dR : ∀ i, A.getLsbD i = true → DistH (ndA st i).readies
  vD : ∀ i, A.getLsbD i = true → (ndA st i).hasD = true → (ndA st i).delivered = v
  tS : ∀ i, A.getLsbD i = true → (ndA st i).hasE = true ∨ ∃ c ∈ st.flight, c.kind = 1 ∧ c.dst = (i : Int) ∧ inA A byz c = true
  tE : ∀ k, p.getLsbD k = true → (A.getLsbD k = true → (ndA st k).hasE = true) → ∀ i, A.getLsbD i = true → knows (ndA st i).echoes k = true ∨ ∃ c ∈ st.flight, c.kind = 2 ∧ c.src = (k : Int) ∧ c.dst = (i : Int)
  tR : ∀ k, p.getLsbD k = true → (A.getLsbD k = true → (ndA st k).hasR = true) → ∀ i, A.getLsbD i = true → knows (ndA st i).readies k = true ∨ ∃ c ∈ st.flight, c.kind = 3 ∧ c.src = (k : Int) ∧ c.dst = (i : Int)
  gE : ∀ i, A.getLsbD i = true → ∀ h ∈ (ndA st i).echoes, accB f h.s = true → (ndA st i).hasR = true
  gD : ∀ i, A.getLsbD i = true → ∀ h ∈ (ndA st i).readies, accB f h.s = true → (ndA st i).hasD = true
/-- what a side leaves alone -/
structure Apart (n : Nat) (byz A : S) (st0 st : St) : Prop where
  len : st.nodes.length = st0.nodes.length
  nodes : ∀ i, A.getLsbD i = false → ndA st i = ndA st0 i
  flight : ∀ c ∈ st.flight, c ∈ st0.flight ∨ ∃ i : Nat, c.src = (i : Int) ∧ A.getLsbD i = true ∧ i < n
theorem inA_iff {A byz : S} {c : Ct} : inA A byz c = true ↔ ∃ d s : Nat, c.dst = (d : Int) ∧ A.getLsbD d = true ∧ c.src = (s : Int) ∧ (A.getLsbD s = true ∨ byz.getLsbD s = true) := by
  unfold inA
  simp only [Bool.and_eq_true, decide_eq_true_eq, BitVec.getLsbD_or, Bool.or_eq_true]
  constructor
  · rintro ⟨⟨h1, h2⟩, h3, h4⟩
    exact ⟨c.dst.toNat, c.src.toNat, by omega, h2, by omega, h4⟩
  · rintro ⟨d, s, h1, h2, h3, h4⟩
    rw [h1, h3]; simpa using ⟨h2, h4⟩
theorem side_step (hn : n ≤ 8) {A p : S} {v : Str} (hA : ∀ j, A.getLsbD j = true → j < n ∧ byz.getLsbD j = false) (hB : ∀ j, byz.getLsbD j = true → j < n) {st : St} (I : SInv f b n byz A p v st) {k : Nat} (hi : idxL (inA A byz) st.flight = some k) :
    SInv f b n byz A p v (deliv f b n byz st k) ∧ Apart n byz A st (deliv f b n byz st k) := by
  obtain ⟨hk, hin⟩ := idxL_some hi
  have hmem : st.flight.getD k ct0 ∈ st.flight := by simp [List.getD, hk]
  have hdst' := deliv_dst (f := f) (b := b) (byz := byz) I.dst k
  obtain ⟨d, s, hd, hAd, hs, hAs⟩ := inA_iff.1 hin
  have hdn := (hA d hAd).1
  have hsn : s < n := by rcases hAs with h | h; exact (hA s h).1; exact hB s h
  have hcv := I.fl _ hmem hin
  have H := handle_facts f b (ndA st d) s (by omega) (st.flight.getD k ct0).kind (st.flight.getD k ct0).v
  obtain ⟨V1, V2, V3⟩ := handle_vals f b (ndA st d) s (st.flight.getD k ct0).kind (st.flight.getD k ct0).v
  have hE : ∀ c', c' ∈ st.flight → c' = st.flight.getD k ct0 ∨ c' ∈ st.flight.eraseIdx k := fun c' h => mem_erase hk h
  have hE2 : ∀ c', c' ∈ st.flight.eraseIdx k → c' ∈ st.flight := fun c' h => List.mem_of_mem_eraseIdx h
  revert hdst'
  unfold deliv
  dsimp only
  rw [hd, hs, Int.toNat_natCast]
  have hidx := I.ids d hdn
  generalize st.flight.getD k ct0 = c at *
  generalize st.flight.eraseIdx k = rest at *
  generalize (handle f b (ndA st d) (s : Int) c.kind c.v).2 = out at *
  generalize (handle f b (ndA st d) (s : Int) c.kind c.v).1 = y at *
  have hnd : ∀ i, ndA ⟨st.nodes.set d y, rest ++ out.flatMap (toAll n byz)⟩ i = if i = d then y else ndA st i := fun i => by
    unfold ndA
    dsimp only
    have hlen := I.dst.1
    simp only [List.getD, List.getElem?_set]
    by_cases e : d = i
    · subst e; simp [hlen, hdn]
    · simp [e, Ne.symm e]
  generalize hst : (⟨st.nodes.set d y, rest ++ out.flatMap (toAll n byz)⟩ : St) = st' at *
  have hfl : ∀ c', c' ∈ st'.flight ↔ c' ∈ rest ∨ ∃ o ∈ out, ∃ i, corr n byz i = true ∧ c' = { o with dst := (i : Int) } := fun c' => by
    subst hst
    simp only [List.mem_append, List.mem_flatMap, mem_toAll]
  have hlen' : st'.nodes.length = st.nodes.length := by subst hst; simp
  clear hst
  intro hdst'
  have hnd1 : ndA st' d = y := by rw [hnd, if_pos rfl]
  have hnd2 : ∀ i, i ≠ d → ndA st' i = ndA st i := fun i hi => by rw [hnd, if_neg hi]
  have mE : ∀ i, (ndA st i).hasE = true → (ndA st' i).hasE = true := fun i h => by
    by_cases e : i = d
    · subst e; rw [hnd1]; exact (H.mE h).1
    · rw [hnd2 i e]; exact h
  have hcA : ∀ i, A.getLsbD i = true → corr n byz i = true := fun i h => corr_of (hA i h).1 (hA i h).2
  refine ⟨⟨hdst', ?_, ?_, ?_, ?_, ?_, ?_, ?_, ?_, ?_, ?_, ?_, ?_⟩, hlen', ?_, ?_⟩
  · intro i hi
    by_cases e : i = d
    · subst e; rw [hnd1, H.id, hidx]
    · rw [hnd2 i e]; exact I.ids i hi
  · intro c' hc' hin'
    rcases (hfl c').1 hc' with h | ⟨o, ho, i, hi, rfl⟩
    · exact I.fl c' (hE2 c' h) hin'
    · exact (V1 o ho).trans hcv
  · intro i hi h hm
    by_cases e : i = d
    · subst e
      rw [hnd1] at hm
      rcases V2 h hm with ⟨g, hg, hv⟩ | hv
      · rw [← hv]; exact I.ech i hi g hg
      · rw [hv]; exact hcv
    · rw [hnd2 i e] at hm; exact I.ech i hi h hm
  · intro i hi h hm
    by_cases e : i = d
    · subst e
      rw [hnd1] at hm
      rcases V3 h hm with ⟨g, hg, hv⟩ | hv
      · rw [← hv]; exact I.rea i hi g hg
      · rw [hv]; exact hcv
    · rw [hnd2 i e] at hm; exact I.rea i hi h hm
  · intro i hi
    by_cases e : i = d
    · subst e; rw [hnd1]; exact H.dE (I.dE i hi)
    · rw [hnd2 i e]; exact I.dE i hi
  · intro i hi
    by_cases e : i = d
    · subst e; rw [hnd1]; exact H.dR (I.dR i hi)
    · rw [hnd2 i e]; exact I.dR i hi
  · intro i hi hr
    by_cases e : i = d
    · subst e
      rw [hnd1] at hr ⊢
      by_cases hx : (ndA st i).hasD = true
      · rw [(H.mD hx).2]; exact I.vD i hi hx
      · rw [(H.nD hr (by simpa using hx)).1]; exact hcv
    · rw [hnd2 i e] at hr ⊢; exact I.vD i hi hr
  · intro i hi
    rcases I.tS i hi with h | ⟨c', h1, h2, h3, h4⟩
    · exact .inl (mE i h)
    · rcases hE c' h1 with rfl | h5
      · have : i = d := by have := h3.symm.trans hd; omega
        subst this
        left; rw [hnd1]; exact H.s1 h2
      · exact .inr ⟨c', (hfl c').2 (.inl h5), h2, h3, h4⟩
  · intro k' hk' hh i hi
    have old : (A.getLsbD k' = true → (ndA st k').hasE = true) → knows (ndA st' i).echoes k' = true ∨ ∃ c ∈ st'.flight, c.kind = 2 ∧ c.src = (k' : Int) ∧ c.dst = (i : Int) := fun h => by
      rcases I.tE k' hk' h i hi with h1 | ⟨c', h1, h2, h3, h4⟩
      · left
        by_cases e : i = d
        · subst e; rw [hnd1]; exact H.kE k' h1
        · rw [hnd2 i e]; exact h1
      · rcases hE c' h1 with rfl | h5
        · have e1 : i = d := by have := h4.symm.trans hd; omega
          have e2 : k' = s := by have := h3.symm.trans hs; omega
          subst e1 e2
          left; rw [hnd1]; exact H.kE2 h2
        · exact .inr ⟨c', (hfl c').2 (.inl h5), h2, h3, h4⟩
    by_cases hx : A.getLsbD k' = true → (ndA st k').hasE = true
    · exact old hx
    · have hx1 : A.getLsbD k' = true := Classical.byContradiction fun h => hx fun g => absurd g h
      have hx2 : ¬ (ndA st k').hasE = true := fun h => hx fun _ => h
      have hh := hh hx1
      by_cases e : k' = d
      · subst e
        rw [hnd1] at hh
        obtain ⟨_, _, n3⟩ := H.nE hh (by simpa using hx2)
        exact .inr ⟨_, (hfl _).2 (.inr ⟨_, n3, i, hcA i hi, rfl⟩), rfl, hidx, rfl⟩
      · rw [hnd2 k' e] at hh; exact absurd hh hx2
  · intro k' hk' hh i hi
    have old : (A.getLsbD k' = true → (ndA st k').hasR = true) → knows (ndA st' i).readies k' = true ∨ ∃ c ∈ st'.flight, c.kind = 3 ∧ c.src = (k' : Int) ∧ c.dst = (i : Int) := fun h => by
      rcases I.tR k' hk' h i hi with h1 | ⟨c', h1, h2, h3, h4⟩
      · left
        by_cases e : i = d
        · subst e; rw [hnd1]; exact H.kR k' h1
        · rw [hnd2 i e]; exact h1
      · rcases hE c' h1 with rfl | h5
        · have e1 : i = d := by have := h4.symm.trans hd; omega
          have e2 : k' = s := by have := h3.symm.trans hs; omega
          subst e1 e2
          left; rw [hnd1]; exact H.kR2 h2
        · exact .inr ⟨c', (hfl c').2 (.inl h5), h2, h3, h4⟩
    by_cases hx : A.getLsbD k' = true → (ndA st k').hasR = true
    · exact old hx
    · have hx1 : A.getLsbD k' = true := Classical.byContradiction fun h => hx fun g => absurd g h
      have hx2 : ¬ (ndA st k').hasR = true := fun h => hx fun _ => h
      have hh := hh hx1
      by_cases e : k' = d
      · subst e
        rw [hnd1] at hh
        obtain ⟨_, n3, _⟩ := H.nR hh (by simpa using hx2)
        exact .inr ⟨_, (hfl _).2 (.inr ⟨_, n3, i, hcA i hi, rfl⟩), rfl, hidx, rfl⟩
      · rw [hnd2 k' e] at hh; exact absurd hh hx2
  · intro i hi
    by_cases e : i = d
    · subst e; rw [hnd1]; exact H.gE (I.dE i hi) (I.gE i hi)
    · rw [hnd2 i e]; exact I.gE i hi
  · intro i hi
    by_cases e : i = d
    · subst e; rw [hnd1]; exact H.gD (I.dR i hi) (I.gD i hi)
    · rw [hnd2 i e]; exact I.gD i hi
  · intro i hi
    exact hnd2 i fun e => by rw [e, hAd] at hi; cases hi
  · intro c' hc'
    rcases (hfl c').1 hc' with h | ⟨o, ho, i, hi, rfl⟩
    · exact .inl (hE2 c' h)
    · exact .inr ⟨d, (H.out o ho).1.trans hidx, hAd, hdn⟩
theorem Apart.refl (n : Nat) (byz A : S) (st : St) : Apart n byz A st st := ⟨rfl, fun _ _ => rfl, fun _ hc => .inl hc⟩
theorem Apart.trans {A : S} {a b' c : St} (h : Apart n byz A a b') (k : Apart n byz A b' c) : Apart n byz A a c :=
  ⟨k.len.trans h.len, fun i hi => (k.nodes i hi).trans (h.nodes i hi), fun x hx => (k.flight x hx).elim (h.flight x) .inr⟩
theorem play_inv (hn : n ≤ 8) {A p : S} {v : Str} (hA : ∀ j, A.getLsbD j = true → j < n ∧ byz.getLsbD j = false) (hB : ∀ j, byz.getLsbD j = true → j < n) : ∀ k {st : St}, SInv f b n byz A p v st →
    SInv f b n byz A p v (playN f b n byz A k st) ∧ Apart n byz A st (playN f b n byz A k st)
  | 0, st, I => ⟨I, Apart.refl _ _ _ _⟩
  | k + 1, st, I => by
    unfold playN
    cases e : idxL (inA A byz) st.flight with
    | none => exact ⟨I, Apart.refl _ _ _ _⟩
    | some i =>
      obtain ⟨h1, h2⟩ := side_step hn hA hB I e
      obtain ⟨h3, h4⟩ := play_inv hn hA hB k h1
      exact ⟨h3, h2.trans h4⟩
/-- all nodes of a side deliver its value -/
theorem side_all {A p : S} {v : Str} (hp : p ∈ f) (hne : ∃ j, p.getLsbD j = true) (hpA : ∀ j, p.getLsbD j = true → A.getLsbD j = true ∨ byz.getLsbD j = true) {st : St} (I : SInv f b n byz A p v st) (hS : idxL (inA A byz) st.flight = none) :
    ∀ i, A.getLsbD i = true → (ndA st i).hasD = true ∧ (ndA st i).delivered = v := by
  have hno := idxL_none hS
  have allE : ∀ i, A.getLsbD i = true → (ndA st i).hasE = true := fun i hi => by
    rcases I.tS i hi with h | ⟨c, h1, _, _, h4⟩
    · exact h
    · rw [hno c h1] at h4; cases h4
  have kE : ∀ k, p.getLsbD k = true → ∀ i, A.getLsbD i = true → knows (ndA st i).echoes k = true := fun k hk i hi => by
    rcases I.tE k hk (allE k) i hi with h | ⟨c, h1, _, h3, h4⟩
    · exact h
    · have := hno c h1
      rw [inA_iff.2 ⟨i, k, h4, hi, h3, hpA k hk⟩] at this; cases this
  have allR : ∀ i, A.getLsbD i = true → (ndA st i).hasR = true := fun i hi => by
    obtain ⟨g, hg, _, hs⟩ := one_entry (v := v) hne (I.dE i hi) fun j hj => by
      obtain ⟨g, hg, hb⟩ := (knows_iff _ _).1 (kE j hj i hi)
      exact ⟨g, hg, I.ech i hi g hg, hb⟩
    exact I.gE i hi g hg ((accB_iff _ _).2 ⟨p, hp, hs⟩)
  have kR : ∀ k, p.getLsbD k = true → ∀ i, A.getLsbD i = true → knows (ndA st i).readies k = true := fun k hk i hi => by
    rcases I.tR k hk (allR k) i hi with h | ⟨c, h1, _, h3, h4⟩
    · exact h
    · have := hno c h1
      rw [inA_iff.2 ⟨i, k, h4, hi, h3, hpA k hk⟩] at this; cases this
  intro i hi
  obtain ⟨g, hg, _, hs⟩ := one_entry (v := v) hne (I.dR i hi) fun j hj => by
    obtain ⟨g, hg, hb⟩ := (knows_iff _ _).1 (kR j hj i hi)
    exact ⟨g, hg, I.rea i hi g hg, hb⟩
  have hd := I.gD i hi g hg ((accB_iff _ _).2 ⟨p, hp, hs⟩)
  exact ⟨hd, I.vD i hi hd⟩
theorem mem_sayL {A : S} {kind : Int} {src : Nat} {v : Str} {c : Ct} : c ∈ sayL A kind src v ↔ ∃ d9, A.getLsbD d9 = true ∧ c = ⟨kind, (src : Int), (d9 : Int), v⟩ := by
  unfold sayL; rw [List.mem_map]
  constructor
  · rintro ⟨d9, h, rfl⟩; exact ⟨d9, (mem_memL A d9).1 h, rfl⟩
  · rintro ⟨d9, h, rfl⟩; exact ⟨d9, (mem_memL A d9).2 h, rfl⟩
theorem mem_pushL {A p : S} {v : Str} {c : Ct} : c ∈ pushL A p byz source v ↔ (∃ d9, A.getLsbD d9 = true ∧ c = ⟨1, (source : Int), (d9 : Int), v⟩) ∨
    ∃ k : Int, (k = 2 ∨ k = 3) ∧ ∃ i, p.getLsbD i = true ∧ byz.getLsbD i = true ∧ ∃ d9, A.getLsbD d9 = true ∧ c = ⟨k, (i : Int), (d9 : Int), v⟩ := by
  unfold pushL
  rw [List.mem_append, mem_sayL, List.mem_flatMap]
  refine or_congr Iff.rfl ?_
  constructor
  · rintro ⟨k, hk, h⟩
    obtain ⟨i, hi, h⟩ := List.mem_flatMap.1 h
    have h1 := (mem_memL _ i).1 hi
    rw [BitVec.getLsbD_and, Bool.and_eq_true] at h1
    exact ⟨k, by simpa using hk, i, h1.1, h1.2, mem_sayL.1 h⟩
  · rintro ⟨k, hk, i, h1, h2, h⟩
    exact ⟨k, by simpa using hk, List.mem_flatMap.2 ⟨i, (mem_memL _ i).2 (by rw [BitVec.getLsbD_and, h1, h2]; rfl), mem_sayL.2 h⟩⟩
/-- one side: its nodes deliver, the others stay as they were -/
theorem side_core (hn : n ≤ 8) {A p : S} {v : Str} (hA : ∀ j, A.getLsbD j = true → j < n ∧ byz.getLsbD j = false) (hB : ∀ j, byz.getLsbD j = true → j < n) (hsrc : byz.getLsbD source = true)
    (hp : p ∈ f) (hne : ∃ j, p.getLsbD j = true) (hpA : ∀ j, p.getLsbD j = true → A.getLsbD j = true ∨ byz.getLsbD j = true)
    {st : St} (hd : DstOk n st) (hid : ∀ i, i < n → (ndA st i).id = (i : Int)) (hfresh : ∀ i, A.getLsbD i = true → ndA st i = { nd0 with id := (i : Int) }) (hfl : ∀ c ∈ st.flight, inA A byz c = false) :
    DstOk n (sideS f b n byz source st A p v) ∧ (∀ i, i < n → (ndA (sideS f b n byz source st A p v) i).id = (i : Int)) ∧ (∀ i, A.getLsbD i = true → (ndA (sideS f b n byz source st A p v) i).hasD = true ∧ (ndA (sideS f b n byz source st A p v) i).delivered = v) ∧
      (∀ i, A.getLsbD i = false → ndA (sideS f b n byz source st A p v) i = ndA st i) ∧
      (∀ c ∈ (sideS f b n byz source st A p v).flight, c ∈ st.flight ∨ (∃ i : Nat, c.src = (i : Int) ∧ A.getLsbD i = true) ∨ ∃ i : Nat, c.dst = (i : Int) ∧ A.getLsbD i = true) := by
  have hnd : ∀ i, ndA ⟨st.nodes, st.flight ++ pushL A p byz source v⟩ i = ndA st i := fun _ => rfl
  have hmem : ∀ c, c ∈ (⟨st.nodes, st.flight ++ pushL A p byz source v⟩ : St).flight ↔ c ∈ st.flight ∨ c ∈ pushL A p byz source v := fun c => List.mem_append
  have hdst : DstOk n ⟨st.nodes, st.flight ++ pushL A p byz source v⟩ := ⟨hd.1, fun c hc => by
    rcases (hmem c).1 hc with h | h
    · exact hd.2 c h
    · rcases mem_pushL.1 h with ⟨d9, h1, rfl⟩ | ⟨_, _, _, _, _, d9, h1, rfl⟩
      · exact ⟨d9, rfl, (hA d9 h1).1⟩
      · exact ⟨d9, rfl, (hA d9 h1).1⟩⟩
  have I : SInv f b n byz A p v ⟨st.nodes, st.flight ++ pushL A p byz source v⟩ := by
    refine ⟨hdst, hid, ?_, ?_, ?_, ?_, ?_, ?_, ?_, ?_, ?_, ?_, ?_⟩
    · intro c hc hin
      rcases (hmem c).1 hc with h | h
      · rw [hfl c h] at hin; cases hin
      · rcases mem_pushL.1 h with ⟨d9, h1, rfl⟩ | ⟨_, _, _, _, _, d9, h1, rfl⟩ <;> rfl
    · intro i hi h hm; rw [hnd, hfresh i hi] at hm; simp [nd0] at hm
    · intro i hi h hm; rw [hnd, hfresh i hi] at hm; simp [nd0] at hm
    · intro i hi; rw [hnd, hfresh i hi]; exact List.Pairwise.nil
    · intro i hi; rw [hnd, hfresh i hi]; exact List.Pairwise.nil
    · intro i hi h; rw [hnd, hfresh i hi] at h; simp [nd0] at h
    · intro i hi
      exact .inr ⟨⟨1, source, i, v⟩, (hmem _).2 (.inr (mem_pushL.2 (.inl ⟨i, hi, rfl⟩))), rfl, rfl, inA_iff.2 ⟨i, source, rfl, hi, rfl, .inr hsrc⟩⟩
    · intro k hk h i hi
      rcases hpA k hk with h1 | h1
      · have h2 := h h1
        rw [hnd, hfresh k h1] at h2; simp [nd0] at h2
      · exact .inr ⟨⟨2, k, i, v⟩, (hmem _).2 (.inr (mem_pushL.2 (.inr ⟨2, .inl rfl, k, hk, h1, i, hi, rfl⟩))), rfl, rfl, rfl⟩
    · intro k hk h i hi
      rcases hpA k hk with h1 | h1
      · have h2 := h h1
        rw [hnd, hfresh k h1] at h2; simp [nd0] at h2
      · exact .inr ⟨⟨3, k, i, v⟩, (hmem _).2 (.inr (mem_pushL.2 (.inr ⟨3, .inr rfl, k, hk, h1, i, hi, rfl⟩))), rfl, rfl, rfl⟩
    · intro i hi h hm; rw [hnd, hfresh i hi] at hm; simp [nd0] at hm
    · intro i hi h hm; rw [hnd, hfresh i hi] at hm; simp [nd0] at hm
  obtain ⟨I2, J⟩ := play_inv (b := b) hn hA hB (measS n ⟨st.nodes, st.flight ++ pushL A p byz source v⟩) I
  have hS := playN_done (f := f) (b := b) (byz := byz) (A := A) (measS n ⟨st.nodes, st.flight ++ pushL A p byz source v⟩) hdst (Nat.le_refl _)
  refine ⟨I2.dst, I2.ids, side_all hp hne hpA I2 hS, fun i hi => J.nodes i hi, fun c hc => ?_⟩
  rcases J.flight c hc with h | ⟨i, h1, h2, _⟩
  · rcases (hmem c).1 h with h | h
    · exact .inl h
    · rcases mem_pushL.1 h with ⟨d9, h1, rfl⟩ | ⟨_, _, _, _, _, d9, h1, rfl⟩
      · exact .inr (.inr ⟨d9, rfl, h1⟩)
      · exact .inr (.inr ⟨d9, rfl, h1⟩)
  · exact .inr (.inl ⟨i, h1, h2⟩)
/-- two sides -/
theorem sides_core (hn : n ≤ 8) {A B p q : S} {v w : Str} (hA : ∀ j, A.getLsbD j = true → j < n ∧ byz.getLsbD j = false) (hB : ∀ j, B.getLsbD j = true → j < n ∧ byz.getLsbD j = false) (hAB : ∀ j, A.getLsbD j = true → B.getLsbD j = false)
    (hZ : ∀ j, byz.getLsbD j = true → j < n) (hsrc : byz.getLsbD source = true) (hp : p ∈ f) (hq : q ∈ f) (hpn : ∃ j, p.getLsbD j = true) (hqn : ∃ j, q.getLsbD j = true)
    (hpA : ∀ j, p.getLsbD j = true → A.getLsbD j = true ∨ byz.getLsbD j = true) (hqB : ∀ j, q.getLsbD j = true → B.getLsbD j = true ∨ byz.getLsbD j = true) :
    ∀ st, st = sideS f b n byz source (sideS f b n byz source ⟨startN n, []⟩ A p v) B q w → st.nodes.length = n ∧ (∀ i, i < n → (ndA st i).id = (i : Int)) ∧ (∀ i, A.getLsbD i = true → (ndA st i).hasD = true ∧ (ndA st i).delivered = v) ∧ (∀ i, B.getLsbD i = true → (ndA st i).hasD = true ∧ (ndA st i).delivered = w) := by
  rintro st rfl
  have hs0 : ∀ i, i < n → ndA ⟨startN n, []⟩ i = { nd0 with id := (i : Int) } := fun i h => startN_at n i h _
  obtain ⟨a1, a2, a3, a4, a5⟩ := side_core (b := b) (source := source) (v := v) hn hA hZ hsrc hp hpn hpA (st := ⟨startN n, []⟩) ⟨by simp [startN], fun c hc => by simp at hc⟩ (fun i hi => by rw [hs0 i hi]) (fun i hi => hs0 i (hA i hi).1) (fun _ hc => by simp at hc)
  have hdis : ∀ j, B.getLsbD j = true → A.getLsbD j = false := fun j hj => by
    cases h : A.getLsbD j with
    | false => rfl
    | true => rw [hAB j h] at hj; cases hj
  obtain ⟨b1, b2, b3, b4, b5⟩ := side_core (b := b) (source := source) (v := w) hn hB hZ hsrc hq hqn hqB a1 a2 (fun i hi => by rw [a4 i (hdis i hi), hs0 i (hB i hi).1]) (fun c hc => by
    cases h : inA B byz c with
    | false => rfl
    | true =>
      obtain ⟨d, s, h1, h2, h3, h4⟩ := inA_iff.1 h
      rcases a5 c hc with h5 | ⟨i, h5, h6⟩ | ⟨i, h5, h6⟩
      · simp at h5
      · have : i = s := by have := h5.symm.trans h3; omega
        subst this
        rcases h4 with h4 | h4
        · rw [hdis i h4] at h6; cases h6
        · rw [(hA i h6).2] at h4; cases h4
      · have : i = d := by have := h5.symm.trans h1; omega
        subst this
        rw [hdis i h2] at h6; cases h6)
  exact ⟨b1.1, b2, fun i hi => by rw [b4 i (hAB i hi)]; exact a3 i hi, b3⟩
end
end Go.Proofs.YtbcfkgolhklkaaaDoor
namespace Go.Proofs.YtbcfkgolhklkaaaDoor

theorem countP_drop {α : Type} (p q : α → Bool) (i : α) : ∀ (L : List α), (∀ j ∈ L, q j = true → p j = true) → i ∈ L → p i = true → q i = false → L.countP q + 1 ≤ L.countP p
  | [], _, h, _, _ => by simp at h
  | a :: t, hm, h, hp, hq => by
    have hle : ∀ t : List α, (∀ j ∈ t, q j = true → p j = true) → t.countP q ≤ t.countP p := fun t ht => List.countP_mono_left fun j hj => ht j hj
    have hm' : ∀ j ∈ t, q j = true → p j = true := fun j hj => hm j (by simp [hj])
    simp only [List.countP_cons]
    rcases List.mem_cons.1 h with rfl | h
    · simp only [hp, hq, if_true, Bool.false_eq_true, if_false]
      have := hle t hm'
      omega
    · have ih := countP_drop p q i t hm' h hp hq
      have ha := hm a (by simp)
      cases hqa : q a
      · simp only [Bool.false_eq_true, if_false]; omega
      · rw [ha hqa]; simp only [if_true]; omega
def potH (l : List Hd) : Nat := l.length + (List.range 16).countP fun i => !knows l i
theorem putH_len (i : Nat) (v : Str) : ∀ l : List Hd, (putH l i v).length ≤ l.length + 1
  | [] => by simp [putH]
  | h :: t => by
    have := putH_len i v t
    simp only [putH]
    split
    · simp
    · simp only [List.length_cons]; omega
theorem potH_put {l : List Hd} {i : Nat} (hi : i < 16) (v : Str) (hk : knows l i = false) : potH (putH l i v) ≤ potH l := by
  have h1 := putH_len i v l
  have h2 := countP_drop (fun j => !knows l j) (fun j => !knows (putH l i v) j) i (List.range 16) (fun j _ hj => by
    cases hl : knows l j with
    | false => rfl
    | true => rw [knows_mono hl] at hj; cases hj) (List.mem_range.2 hi) (by rw [hk]; rfl) (by rw [knows_put l hi v]; rfl)
  unfold potH
  omega
def SmallN (x : Nd) : Prop := potH x.echoes ≤ 100 ∧ potH x.readies ≤ 100
theorem SmallN.len {x : Nd} (h : SmallN x) : x.echoes.length ≤ 100 ∧ x.readies.length ≤ 100 := by
  obtain ⟨h1, h2⟩ := h
  unfold potH at h1 h2
  exact ⟨by omega, by omega⟩
theorem small_of {x : Nd} (h1 : x.echoes.length ≤ 80) (h2 : x.readies.length ≤ 80) : SmallN x := by
  have a1 := List.countP_le_length (p := fun i => !knows x.echoes i) (l := List.range 16)
  have a2 := List.countP_le_length (p := fun i => !knows x.readies i) (l := List.range 16)
  rw [List.length_range] at a1 a2
  exact ⟨by unfold potH; omega, by unfold potH; omega⟩
theorem rdy_small {x : Nd} (is : Bool) (v : Str) (h : SmallN x) : SmallN (rdy x is v).1 := by
  unfold rdy; split <;> exact h
theorem handle_small (f b : List S) {x : Nd} (src kind : Int) (v : Str) (h : SmallN x) : SmallN (handle f b x src kind v).1 := by
  unfold handle
  split
  · exact h
  rename_i hs
  have hs16 : src.toNat < 16 := by omega
  split
  · split <;> exact h
  split
  · split
    · exact h
    · rename_i hk
      exact rdy_small _ _ ⟨Nat.le_trans (potH_put hs16 v (by simpa using hk)) h.1, h.2⟩
  split
  · split
    · exact h
    · rename_i hk
      have h2 : SmallN (rdy { x with readies := putH x.readies src.toNat v } (!posB b (getH (putH x.readies src.toNat v) v)) v).1 := rdy_small _ _ ⟨h.1, Nat.le_trans (potH_put hs16 v (by simpa using hk)) h.2⟩
      dsimp only
      split
      · exact h2
      · exact h2
  · exact h
def SmallS (st : St) : Prop := ∀ x ∈ st.nodes, SmallN x
theorem small_at {st : St} (h : SmallS st) (i : Nat) : SmallN (ndA st i) := by
  unfold ndA
  by_cases hi : i < st.nodes.length
  · rw [List.getD, List.getElem?_eq_getElem hi]; exact h _ (List.getElem_mem hi)
  · rw [List.getD, List.getElem?_eq_none (by omega)]
    exact small_of (by simp [nd0]) (by simp [nd0])
theorem deliv_small {f b : List S} {n : Nat} {byz : S} {st : St} (h : SmallS st) (k : Nat) : SmallS (deliv f b n byz st k) := by
  intro x hx
  unfold deliv at hx
  dsimp only at hx
  rcases List.mem_or_eq_of_mem_set hx with hx | rfl
  · exact h x hx
  · exact handle_small _ _ _ _ _ (small_at h _)
def honB (byz : S) (x : Nd) : Bool := decide (0 ≤ x.id ∧ x.id < 16) && byz.getLsbD x.id.toNat
def honL (byz : S) (l : List Nd) : List Nd := l.filter fun x => !honB byz x
def delL (byz : S) (l : List Nd) : List Str := ((honL byz l).filter fun x => x.hasD).map fun x => x.delivered
def consB (l : List Str) : Bool := match l with | [] => true | x :: t => (x :: t).all fun y => decide (y = x)
end Go.Proofs.YtbcfkgolhklkaaaDoor
