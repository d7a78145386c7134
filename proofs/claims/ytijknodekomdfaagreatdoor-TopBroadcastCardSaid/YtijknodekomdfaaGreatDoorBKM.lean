/- Texts joined into one, what is needed of them (a program of ours). -/
import Derived.Test.YtijknodekomdfaaGreatDoorBKA
namespace Go.Proofs.YtijknodekomdfaaGreatDoor
def sub9 (y x : S) : Bool := y &&& ~~~x == 0#16
theorem sub9_iff (y x : S) : sub9 y x = true ↔ ∀ i, i < 16 → y.getLsbD i = true → x.getLsbD i = true := by
  unfold sub9
  rw [beq_iff_eq]
  constructor
  · intro h i hi hy
    have := congrArg (fun z : S => z.getLsbD i) h
    simp [hy, hi] at this
    exact this
  · intro h
    apply BitVec.eq_of_getLsbD_eq
    intro i hi
    simp only [BitVec.getLsbD_and, BitVec.getLsbD_not, hi, decide_true, Bool.true_and, BitVec.getLsbD_zero]
    cases hy : y.getLsbD i with
    | false => rfl
    | true => rw [h i hi hy]; rfl
abbrev Str := ByteArray
structure Hd where
  v : Str
  s : S
structure Ct where
  kind : Int
  src : Int
  dst : Int
  v : Str
structure Nd where
  id : Int
  echoed : Str
  hasE : Bool
  readied : Str
  hasR : Bool
  delivered : Str
  hasD : Bool
  echoes : List Hd
  readies : List Hd
structure St where
  nodes : List Nd
  flight : List Ct
def knows (l : List Hd) (i : Nat) : Bool := l.any fun h => h.s.getLsbD i
def putH : List Hd → Nat → Str → List Hd
  | [], i, v => [⟨v, 1#16 <<< i⟩]
  | h :: t, i, v => if h.v = v then ⟨h.v, h.s ||| 1#16 <<< i⟩ :: t else h :: putH t i v
def getH : List Hd → Str → S
  | [], _ => 0#16
  | h :: t, v => if h.v = v then h.s else getH t v
def accB (f : List S) (s : S) : Bool := f.any fun q => sub9 q s
def posB (b : List S) (s : S) : Bool := b.any fun t => sub9 s t
def rdy (x : Nd) (is : Bool) (v : Str) : Nd × List Ct := if is && !x.hasR then ({ x with hasR := true, readied := v }, [⟨3, x.id, -1, v⟩]) else (x, [])
def handle (f b : List S) (x : Nd) (src kind : Int) (v : Str) : Nd × List Ct :=
  if src < 0 ∨ 12 ≤ src then (x, [])
  else if kind = 1 then (if x.hasE then (x, []) else ({ x with hasE := true, echoed := v }, [⟨2, x.id, -1, v⟩]))
  else if kind = 2 then (if knows x.echoes src.toNat then (x, []) else
    rdy { x with echoes := putH x.echoes src.toNat v } (accB f (getH (putH x.echoes src.toNat v) v)) v)
  else if kind = 3 then (if knows x.readies src.toNat then (x, []) else
    let s := getH (putH x.readies src.toNat v) v
    let r := rdy { x with readies := putH x.readies src.toNat v } (!posB b s) v
    (if !r.1.hasD && accB f s then { r.1 with hasD := true, delivered := v } else r.1, r.2))
  else (x, [])
def corr (n : Nat) (byz : S) (i : Nat) : Bool := decide (i < n) && !byz.getLsbD i
def corrL (n : Nat) (byz : S) : List Nat := (List.range n).filter (corr n byz)
def toAll (n : Nat) (byz : S) (c : Ct) : List Ct := (corrL n byz).map fun (i : Nat) => { c with dst := (i : Int) }
def nd0 : Nd := ⟨0, ByteArray.empty, false, ByteArray.empty, false, ByteArray.empty, false, [], []⟩
def ct0 : Ct := ⟨0, 0, 0, ByteArray.empty⟩
def ndA (st : St) (i : Nat) : Nd := st.nodes.getD i nd0
def deliv (f b : List S) (n : Nat) (byz : S) (st : St) (k : Nat) : St :=
  let c := st.flight.getD k ct0
  let r := handle f b (ndA st c.dst.toNat) c.src c.kind c.v
  ⟨st.nodes.set c.dst.toNat r.1, st.flight.eraseIdx k ++ r.2.flatMap (toAll n byz)⟩

section
variable {f b : List S} {n : Nat} {byz : S} {source : Nat} {X : Str}
theorem knows_iff (l : List Hd) (i : Nat) : knows l i = true ↔ ∃ h ∈ l, h.s.getLsbD i = true := by simp [knows]
theorem one_bit (i j : Nat) (hi : i < 16) : (1#16 <<< i).getLsbD j = decide (j = i) := by
  rw [BitVec.getLsbD_shiftLeft]
  by_cases hj : j = i
  · subst hj; simp [hi]
  · by_cases h : j < i
    · simp [h, hj]
    · have : j - i ≠ 0 := by omega
      simp [BitVec.getLsbD_one, hj, this]
/-- who is in the list behind a put -/
theorem putH_mem {l : List Hd} {i : Nat} (hi : i < 16) {v : Str} {h : Hd} (hm : h ∈ putH l i v) : ∀ j, h.s.getLsbD j = true → (∃ g ∈ l, g.v = h.v ∧ g.s.getLsbD j = true) ∨ (j = i ∧ h.v = v) := by
  induction l with
  | nil =>
    simp only [putH, List.mem_singleton] at hm
    subst hm
    intro j hj
    rw [one_bit i j hi] at hj
    exact .inr ⟨of_decide_eq_true hj, rfl⟩
  | cons a t ih =>
    simp only [putH] at hm
    intro j hj
    split at hm
    · rename_i e
      rcases List.mem_cons.1 hm with rfl | hm
      · simp only [BitVec.getLsbD_or, Bool.or_eq_true] at hj
        rcases hj with hj | hj
        · exact .inl ⟨a, by simp, rfl, hj⟩
        · rw [one_bit i j hi] at hj
          exact .inr ⟨of_decide_eq_true hj, e⟩
      · exact .inl ⟨h, by simp [hm], rfl, hj⟩
    · rcases List.mem_cons.1 hm with rfl | hm
      · exact .inl ⟨h, by simp, rfl, hj⟩
      · rcases ih hm j hj with ⟨g, hg, k⟩ | k
        · exact .inl ⟨g, by simp [hg], k⟩
        · exact .inr k
theorem putH_keep {l : List Hd} {i : Nat} {v : Str} {g : Hd} (hg : g ∈ l) : ∃ h ∈ putH l i v, h.v = g.v ∧ ∀ j, g.s.getLsbD j = true → h.s.getLsbD j = true := by
  induction l with
  | nil => simp at hg
  | cons a t ih =>
    simp only [putH]
    rcases List.mem_cons.1 hg with rfl | hg
    · split
      · exact ⟨_, List.mem_cons_self, rfl, fun j hj => by simp [hj]⟩
      · exact ⟨g, by simp, rfl, fun j hj => hj⟩
    · split
      · exact ⟨g, by simp [hg], rfl, fun j hj => hj⟩
      · obtain ⟨h, h1, h2⟩ := ih hg
        exact ⟨h, by simp [h1], h2⟩
theorem putH_new (l : List Hd) {i : Nat} (hi : i < 16) (v : Str) : (getH (putH l i v) v).getLsbD i = true ∧ ∃ h ∈ putH l i v, h.v = v ∧ h.s = getH (putH l i v) v := by
  induction l with
  | nil => simp [putH, getH, one_bit i i hi]
  | cons a t ih =>
    simp only [putH]
    split
    · rename_i e
      simp only [getH, e, if_pos]
      exact ⟨by rw [BitVec.getLsbD_or, one_bit i i hi]; simp, ⟨_, List.mem_cons_self, rfl, rfl⟩⟩
    · rename_i e
      simp only [getH, if_neg e]
      obtain ⟨h1, h, h2, h3⟩ := ih
      exact ⟨h1, h, by simp [h2], h3⟩
/-- the values of a list are distinct -/
def DistH (l : List Hd) : Prop := l.Pairwise fun a b => a.v ≠ b.v
theorem putH_vals (l : List Hd) (i : Nat) (v w : Str) : (∃ h ∈ putH l i v, h.v = w) ↔ (∃ h ∈ l, h.v = w) ∨ w = v := by
  induction l with
  | nil => simp [putH, eq_comm]
  | cons a t ih =>
    simp only [putH]
    split
    · rename_i e
      subst e
      simp only [List.mem_cons, exists_eq_or_imp]
      constructor
      · rintro (h | h)
        · exact .inl (.inl h)
        · exact .inl (.inr h)
      · rintro ((h | h) | h)
        · exact .inl h
        · exact .inr h
        · exact .inl h.symm
    · simp only [List.mem_cons, exists_eq_or_imp, ih, or_assoc]
theorem putH_dist {l : List Hd} (i : Nat) (v : Str) (h : DistH l) : DistH (putH l i v) := by
  induction l with
  | nil => simp [putH, DistH]
  | cons a t ih =>
    unfold DistH at *
    rw [List.pairwise_cons] at h
    simp only [putH]
    split
    · rw [List.pairwise_cons]; exact ⟨fun x hx => h.1 x hx, h.2⟩
    · rename_i e
      rw [List.pairwise_cons]
      refine ⟨fun x hx => ?_, ih h.2⟩
      rcases (putH_vals t i v x.v).1 ⟨x, hx, rfl⟩ with ⟨y, hy, k⟩ | k
      · rw [← k]; exact h.1 y hy
      · rw [k]; exact e
theorem getH_of {l : List Hd} (h : DistH l) {g : Hd} (hg : g ∈ l) : getH l g.v = g.s := by
  induction l with
  | nil => simp at hg
  | cons a t ih =>
    unfold DistH at h
    rw [List.pairwise_cons] at h
    rcases List.mem_cons.1 hg with rfl | hg
    · simp [getH]
    · rw [getH, if_neg (h.1 g hg)]; exact ih h.2 hg
theorem putH_old {l : List Hd} {i : Nat} {v : Str} {h : Hd} (hm : h ∈ putH l i v) (hv : h.v ≠ v) : h ∈ l := by
  induction l with
  | nil => simp only [putH, List.mem_singleton] at hm; subst hm; exact absurd rfl hv
  | cons a t ih =>
    simp only [putH] at hm
    split at hm
    · rename_i e
      rcases List.mem_cons.1 hm with rfl | hm
      · exact absurd e hv
      · simp [hm]
    · rcases List.mem_cons.1 hm with rfl | hm
      · simp
      · simp [ih hm]
/-- what handling a cast does to a node -/
structure HF (f b : List S) (x : Nd) (src : Nat) (kind : Int) (v : Str) (y : Nd) (out : List Ct) : Prop where
  id : y.id = x.id
  mE : x.hasE = true → y.hasE = true ∧ y.echoed = x.echoed
  mR : x.hasR = true → y.hasR = true ∧ y.readied = x.readied
  mD : x.hasD = true → y.hasD = true ∧ y.delivered = x.delivered
  nE : y.hasE = true → x.hasE = false → kind = 1 ∧ y.echoed = v ∧ ⟨2, x.id, -1, v⟩ ∈ out
  nR : y.hasR = true → x.hasR = false → y.readied = v ∧ ⟨3, x.id, -1, v⟩ ∈ out ∧ ((kind = 2 ∧ ∃ h ∈ y.echoes, h.v = v ∧ accB f h.s = true) ∨ (kind = 3 ∧ ∃ h ∈ y.readies, h.v = v ∧ posB b h.s = false))
  nD : y.hasD = true → x.hasD = false → y.delivered = v ∧ kind = 3 ∧ ∃ h ∈ y.readies, h.v = v ∧ accB f h.s = true
  out : ∀ o ∈ out, o.src = x.id ∧ o.dst = -1 ∧ ((o.kind = 2 ∧ y.hasE = true ∧ y.echoed = o.v) ∨ (o.kind = 3 ∧ y.hasR = true ∧ y.readied = o.v))
  eE : ∀ h ∈ y.echoes, ∀ j, h.s.getLsbD j = true → (∃ g ∈ x.echoes, g.v = h.v ∧ g.s.getLsbD j = true) ∨ (j = src ∧ h.v = v ∧ kind = 2)
  eR : ∀ h ∈ y.readies, ∀ j, h.s.getLsbD j = true → (∃ g ∈ x.readies, g.v = h.v ∧ g.s.getLsbD j = true) ∨ (j = src ∧ h.v = v ∧ kind = 3)
  kE : ∀ j, knows x.echoes j = true → knows y.echoes j = true
  kR : ∀ j, knows x.readies j = true → knows y.readies j = true
  kE2 : kind = 2 → knows y.echoes src = true
  kR2 : kind = 3 → knows y.readies src = true
  s1 : kind = 1 → y.hasE = true
  dE : DistH x.echoes → DistH y.echoes
  dR : DistH x.readies → DistH y.readies
  gE : DistH x.echoes → (∀ h ∈ x.echoes, accB f h.s = true → x.hasR = true) → ∀ h ∈ y.echoes, accB f h.s = true → y.hasR = true
  gR : DistH x.readies → (∀ h ∈ x.readies, posB b h.s = false → x.hasR = true) → ∀ h ∈ y.readies, posB b h.s = false → y.hasR = true
  gD : DistH x.readies → (∀ h ∈ x.readies, accB f h.s = true → x.hasD = true) → ∀ h ∈ y.readies, accB f h.s = true → y.hasD = true
theorem knows_put (l : List Hd) {i : Nat} (hi : i < 16) (v : Str) : knows (putH l i v) i = true := by
  obtain ⟨h1, h, h2, h3, h4⟩ := putH_new l hi v
  rw [knows_iff]; exact ⟨h, h2, by rw [h4]; exact h1⟩
theorem knows_mono {l : List Hd} {i j : Nat} {v : Str} (h : knows l j = true) : knows (putH l i v) j = true := by
  rw [knows_iff] at *
  obtain ⟨g, h1, h2⟩ := h
  obtain ⟨h, h3, h4, h5⟩ := putH_keep (i := i) (v := v) h1
  exact ⟨h, h3, h5 j h2⟩
theorem put_set {l : List Hd} (hd : DistH l) {i : Nat} {v : Str} {h : Hd} (hm : h ∈ putH l i v) (hv : h.v = v) : h.s = getH (putH l i v) v := by
  rw [← hv]; rw [hv]; rw [← hv, getH_of (putH_dist i _ hd)]; rw [hv]; exact hm
theorem tf {a : Bool} (h : a = true) (k : a = false) : False := by rw [h] at k; cases k
theorem handle_facts (f b : List S) (x : Nd) (src : Nat) (hs : src < 12) (kind : Int) (v : Str) : HF f b x src kind v (handle f b x src kind v).1 (handle f b x src kind v).2 := by
  have h0 : ¬ ((src : Int) < 0 ∨ 12 ≤ (src : Int)) := by omega
  unfold handle
  rw [if_neg h0, Int.toNat_natCast]
  have same : kind ≠ 1 → kind ≠ 2 → kind ≠ 3 → HF f b x src kind v x [] := fun a1 a2 a3 => ⟨rfl, fun h => ⟨h, rfl⟩, fun h => ⟨h, rfl⟩, fun h => ⟨h, rfl⟩, fun h k => (tf h k).elim, fun h k => (tf h k).elim, fun h k => (tf h k).elim,
    fun o ho => by simp at ho, fun h hm j hj => .inl ⟨h, hm, rfl, hj⟩, fun h hm j hj => .inl ⟨h, hm, rfl, hj⟩, fun _ h => h, fun _ h => h, fun h => absurd h a2, fun h => absurd h a3, fun h => absurd h a1, fun h => h, fun h => h, fun _ h => h, fun _ h => h, fun _ h => h⟩
  by_cases k1 : kind = 1
  · subst k1
    rw [if_pos rfl]
    by_cases hE : x.hasE = true
    · rw [if_pos hE]
      exact ⟨rfl, fun h => ⟨h, rfl⟩, fun h => ⟨h, rfl⟩, fun h => ⟨h, rfl⟩, fun h k => (tf h k).elim, fun h k => (tf h k).elim, fun h k => (tf h k).elim,
        fun o ho => by simp at ho, fun h hm j hj => .inl ⟨h, hm, rfl, hj⟩, fun h hm j hj => .inl ⟨h, hm, rfl, hj⟩, fun _ h => h, fun _ h => h, fun h => by omega, fun h => by omega, fun _ => hE, fun h => h, fun h => h, fun _ h => h, fun _ h => h, fun _ h => h⟩
    · rw [if_neg hE]
      exact ⟨rfl, fun h => absurd h hE, fun h => ⟨h, rfl⟩, fun h => ⟨h, rfl⟩, fun _ _ => ⟨rfl, rfl, by simp⟩, fun h k => (tf h k).elim, fun h k => (tf h k).elim,
        fun o ho => by simp at ho; subst ho; exact ⟨rfl, rfl, .inl ⟨rfl, rfl, rfl⟩⟩, fun h hm j hj => .inl ⟨h, hm, rfl, hj⟩, fun h hm j hj => .inl ⟨h, hm, rfl, hj⟩, fun _ h => h, fun _ h => h, fun h => by omega, fun h => by omega, fun _ => rfl, fun h => h, fun h => h, fun _ h => h, fun _ h => h, fun _ h => h⟩
  rw [if_neg k1]
  by_cases k2 : kind = 2
  · subst k2
    rw [if_pos rfl]
    by_cases hk : knows x.echoes src = true
    · rw [if_pos hk]
      exact ⟨rfl, fun h => ⟨h, rfl⟩, fun h => ⟨h, rfl⟩, fun h => ⟨h, rfl⟩, fun h k => (tf h k).elim, fun h k => (tf h k).elim, fun h k => (tf h k).elim,
        fun o ho => by simp at ho, fun h hm j hj => .inl ⟨h, hm, rfl, hj⟩, fun h hm j hj => .inl ⟨h, hm, rfl, hj⟩, fun _ h => h, fun _ h => h, fun _ => hk, fun h => by omega, fun h => by omega, fun h => h, fun h => h, fun _ h => h, fun _ h => h, fun _ h => h⟩
    · rw [if_neg hk]
      obtain ⟨n1, g, n2, n3, n4⟩ := putH_new x.echoes (i := src) (by omega) v
      unfold rdy
      by_cases hc : (accB f (getH (putH x.echoes src v) v) && !x.hasR) = true
      · rw [if_pos hc]
        obtain ⟨c1, c2⟩ := Bool.and_eq_true_iff.1 hc
        have c2 : x.hasR = false := by simpa using c2
        exact ⟨rfl, fun h => ⟨h, rfl⟩, fun h => by simp [c2] at h, fun h => ⟨h, rfl⟩, fun h k => (tf h k).elim, fun _ _ => ⟨rfl, by simp, .inl ⟨rfl, g, n2, n3, by rw [n4]; exact c1⟩⟩, fun h k => (tf h k).elim,
          fun o ho => by simp at ho; subst ho; exact ⟨rfl, rfl, .inr ⟨rfl, rfl, rfl⟩⟩, fun h hm j hj => by rcases putH_mem (by omega) hm j hj with k | ⟨k1, k2⟩; exact .inl k; exact .inr ⟨k1, k2, rfl⟩, fun h hm j hj => .inl ⟨h, hm, rfl, hj⟩, fun _ h => knows_mono h, fun _ h => h, fun _ => knows_put _ (by omega) _, fun h => by omega, fun h => by omega, fun h => putH_dist _ _ h, fun h => h, fun _ _ _ _ _ => rfl, fun _ _ _ _ _ => rfl, fun _ h => h⟩
      · rw [if_neg hc]
        refine ⟨rfl, fun h => ⟨h, rfl⟩, fun h => ⟨h, rfl⟩, fun h => ⟨h, rfl⟩, fun h k => (tf h k).elim, fun h k => (tf h k).elim, fun h k => (tf h k).elim,
          fun o ho => by simp at ho, fun h hm j hj => by rcases putH_mem (by omega) hm j hj with k | ⟨k1, k2⟩; exact .inl k; exact .inr ⟨k1, k2, rfl⟩, fun h hm j hj => .inl ⟨h, hm, rfl, hj⟩, fun _ h => knows_mono h, fun _ h => h, fun _ => knows_put _ (by omega) _, fun h => by omega, fun h => by omega, fun h => putH_dist _ _ h, fun h => h, fun hd hx h hm ha => ?_, fun _ h => h, fun _ h => h⟩
        by_cases e : h.v = v
        · rw [put_set hd hm e] at ha
          rw [ha, Bool.true_and] at hc
          simpa using hc
        · exact hx h (putH_old hm e) ha
  rw [if_neg k2]
  by_cases k3 : kind = 3
  · subst k3
    rw [if_pos rfl]
    by_cases hk : knows x.readies src = true
    · rw [if_pos hk]
      exact ⟨rfl, fun h => ⟨h, rfl⟩, fun h => ⟨h, rfl⟩, fun h => ⟨h, rfl⟩, fun h k => (tf h k).elim, fun h k => (tf h k).elim, fun h k => (tf h k).elim,
        fun o ho => by simp at ho, fun h hm j hj => .inl ⟨h, hm, rfl, hj⟩, fun h hm j hj => .inl ⟨h, hm, rfl, hj⟩, fun _ h => h, fun _ h => h, fun h => by omega, fun _ => hk, fun h => by omega, fun h => h, fun h => h, fun _ h => h, fun _ h => h, fun _ h => h⟩
    · rw [if_neg hk]
      obtain ⟨n1, g, n2, n3, n4⟩ := putH_new x.readies (i := src) (by omega) v
      have hgs : DistH x.readies → ∀ h ∈ putH x.readies src v, h.v = v → h.s = getH (putH x.readies src v) v := fun hd h hm e => put_set hd hm e
      have hold : ∀ h ∈ putH x.readies src v, h.v ≠ v → h ∈ x.readies := fun h hm e => putH_old hm e
      have hkm : ∀ j, knows x.readies j = true → knows (putH x.readies src v) j = true := fun j h => knows_mono h
      have hkp : knows (putH x.readies src v) src = true := knows_put _ (by omega) _
      have hmm : ∀ h ∈ putH x.readies src v, ∀ j, h.s.getLsbD j = true → (∃ g ∈ x.readies, g.v = h.v ∧ g.s.getLsbD j = true) ∨ (j = src ∧ h.v = v ∧ (3 : Int) = 3) := fun h hm j hj => by
        rcases putH_mem (by omega) hm j hj with k | ⟨k1, k2⟩
        · exact .inl k
        · exact .inr ⟨k1, k2, rfl⟩
      have hdd : DistH x.readies → DistH (putH x.readies src v) := fun h => putH_dist _ _ h
      generalize putH x.readies src v = l at *
      generalize getH l v = s at *
      dsimp only
      obtain ⟨xid, xe, xhe, xr, xhr, xd, xhd, xes, xrs⟩ := x
      dsimp only at *
      unfold rdy
      dsimp only
      cases hp : posB b s <;> cases xhr <;> cases xhd <;> cases ha : accB f s <;> simp only [Bool.not_false, Bool.not_true, Bool.and_false, Bool.and_true, if_true, if_false, Bool.false_eq_true] <;>
      refine ⟨rfl, fun h => ⟨h, rfl⟩, fun h => by first | exact ⟨h, rfl⟩ | simp at h, fun h => by first | exact ⟨h, rfl⟩ | simp at h, fun h k => (tf h k).elim, fun h k => by first | exact absurd h Bool.false_ne_true | exact absurd k.symm Bool.false_ne_true | exact ⟨rfl, by simp, .inr ⟨rfl, g, n2, n3, by rw [n4]; exact hp⟩⟩, fun h k => by first | exact absurd h Bool.false_ne_true | exact absurd k.symm Bool.false_ne_true | exact ⟨rfl, rfl, g, n2, n3, by rw [n4]; exact ha⟩,
          fun o ho => by first | (simp at ho; done) | (simp at ho; subst ho; exact ⟨rfl, rfl, .inr ⟨rfl, rfl, rfl⟩⟩), fun h hm j hj => .inl ⟨h, hm, rfl, hj⟩, hmm, fun _ h => h, hkm, fun h => by omega, fun _ => hkp, fun h => by omega, fun h => h, hdd, fun _ hx h hm hh => by first | rfl | exact hx h hm hh, fun hd hx h hm hh => ?_, fun hd hx h hm hh => ?_⟩ <;>
      first
        | rfl
        | (by_cases e : h.v = v
           · rw [hgs hd h hm e] at hh; simp [hp, ha] at hh
           · exact hx h (hold h hm e) hh)
  · rw [if_neg k3]
    exact same k1 k2 k3
structure Inv (f b : List S) (n : Nat) (byz : S) (source : Nat) (X : Str) (st : St) : Prop where
  len : st.nodes.length = n
  ids : ∀ i, i < n → (ndA st i).id = (i : Int)
  fl : ∀ c ∈ st.flight, ∃ d s : Nat, c.dst = (d : Int) ∧ corr n byz d = true ∧ c.src = (s : Int) ∧ s < n ∧ (c.kind = 1 → s = source) ∧ (corr n byz s = true → (c.kind = 1 → c.v = X) ∧ (c.kind = 2 → (ndA st s).hasE = true ∧ (ndA st s).echoed = c.v) ∧ (c.kind = 3 → (ndA st s).hasR = true ∧ (ndA st s).readied = c.v))
  ech : ∀ i, i < n → ∀ h ∈ (ndA st i).echoes, ∀ j, h.s.getLsbD j = true → j < n ∧ (corr n byz j = true → (ndA st j).hasE = true ∧ (ndA st j).echoed = h.v)
  rea : ∀ i, i < n → ∀ h ∈ (ndA st i).readies, ∀ j, h.s.getLsbD j = true → j < n ∧ (corr n byz j = true → (ndA st j).hasR = true ∧ (ndA st j).readied = h.v)
  dE : ∀ i, i < n → DistH (ndA st i).echoes
  dR : ∀ i, i < n → DistH (ndA st i).readies
  qR : ∀ i, i < n → (ndA st i).hasR = true → ∃ q ∈ f, ∀ j, q.getLsbD j = true → corr n byz j = true → (ndA st j).hasE = true ∧ (ndA st j).echoed = (ndA st i).readied
  qD : ∀ i, i < n → (ndA st i).hasD = true → ∃ q ∈ f, ∀ j, q.getLsbD j = true → corr n byz j = true → (ndA st j).hasR = true ∧ (ndA st j).readied = (ndA st i).delivered
  sE : corr n byz source = true → ∀ i, i < n → (ndA st i).hasE = true → (ndA st i).echoed = X
  tS : corr n byz source = true → ∀ i, corr n byz i = true → (ndA st i).hasE = true ∨ ∃ c ∈ st.flight, c.kind = 1 ∧ c.dst = (i : Int)
  tE : ∀ k, corr n byz k = true → (ndA st k).hasE = true → ∀ i, corr n byz i = true → knows (ndA st i).echoes k = true ∨ ∃ c ∈ st.flight, c.kind = 2 ∧ c.src = (k : Int) ∧ c.dst = (i : Int)
  tR : ∀ k, corr n byz k = true → (ndA st k).hasR = true → ∀ i, corr n byz i = true → knows (ndA st i).readies k = true ∨ ∃ c ∈ st.flight, c.kind = 3 ∧ c.src = (k : Int) ∧ c.dst = (i : Int)
  gE : ∀ i, i < n → ∀ h ∈ (ndA st i).echoes, accB f h.s = true → (ndA st i).hasR = true
  gR : ∀ i, i < n → ∀ h ∈ (ndA st i).readies, posB b h.s = false → (ndA st i).hasR = true
  gD : ∀ i, i < n → ∀ h ∈ (ndA st i).readies, accB f h.s = true → (ndA st i).hasD = true
theorem corr_lt {i : Nat} (h : corr n byz i = true) : i < n := by simp only [corr, Bool.and_eq_true, decide_eq_true_eq] at h; exact h.1
theorem mem_corrL (i : Nat) : i ∈ corrL n byz ↔ corr n byz i = true := by
  unfold corrL; rw [List.mem_filter, List.mem_range]
  exact ⟨fun h => h.2, fun h => ⟨corr_lt h, h⟩⟩
theorem mem_toAll (c c' : Ct) : c' ∈ toAll n byz c ↔ ∃ i, corr n byz i = true ∧ c' = { c with dst := (i : Int) } := by
  unfold toAll; rw [List.mem_map]
  constructor
  · rintro ⟨i, hi, rfl⟩; exact ⟨i, (mem_corrL i).1 hi, rfl⟩
  · rintro ⟨i, hi, rfl⟩; exact ⟨i, (mem_corrL i).2 hi, rfl⟩
theorem mem_erase {l : List Ct} {k : Nat} (hk : k < l.length) {c' : Ct} (h : c' ∈ l) : c' = l.getD k ct0 ∨ c' ∈ l.eraseIdx k := by
  obtain ⟨m, hm, rfl⟩ := List.mem_iff_getElem.1 h
  by_cases e : m = k
  · subst e; left; simp [List.getD, hm]
  · right
    rw [List.mem_eraseIdx_iff_getElem]
    exact ⟨m, hm, e, rfl⟩
theorem accB_iff (f : List S) (s : S) : accB f s = true ↔ ∃ q ∈ f, sub9 q s = true := by simp [accB]
theorem posB_false (b : List S) (s : S) : posB b s = false ↔ ∀ t ∈ b, sub9 s t = false := by simp [posB]
theorem bit_lt {s : S} {j : Nat} (h : s.getLsbD j = true) : j < 16 := BitVec.lt_of_getLsbD h
theorem sub9_false {s t : S} (h : sub9 s t = false) : ∃ j, s.getLsbD j = true ∧ t.getLsbD j = false := by
  apply Classical.byContradiction
  intro hn
  have : sub9 s t = true := (sub9_iff s t).2 fun i _ hi => by
    cases ht : t.getLsbD i with
    | true => rfl
    | false => exact absurd ⟨i, hi, ht⟩ hn
  rw [this] at h; cases h
theorem deliv_inv (hn : n ≤ 8) (hT : ∃ t ∈ b, sub9 byz t = true) {st : St} (I : Inv f b n byz source X st) {k : Nat} (hk : k < st.flight.length) : Inv f b n byz source X (deliv f b n byz st k) := by
  have hmem : st.flight.getD k ct0 ∈ st.flight := by simp [List.getD, hk]
  obtain ⟨d, s, hd, hcd, hs, hsn, c1, c2⟩ := I.fl _ hmem
  have hdn := corr_lt hcd
  have H := handle_facts f b (ndA st d) s (by omega) (st.flight.getD k ct0).kind (st.flight.getD k ct0).v
  have hE : ∀ c', c' ∈ st.flight → c' = st.flight.getD k ct0 ∨ c' ∈ st.flight.eraseIdx k := fun c' h => mem_erase hk h
  have hE2 : ∀ c', c' ∈ st.flight.eraseIdx k → c' ∈ st.flight := fun c' h => List.mem_of_mem_eraseIdx h
  unfold deliv
  dsimp only
  rw [hd, hs, Int.toNat_natCast]
  have hidx := I.ids d hdn
  generalize st.flight.getD k ct0 = c at *
  generalize st.flight.eraseIdx k = rest at *
  generalize (handle f b (ndA st d) (s : Int) c.kind c.v).2 = out at *
  generalize (handle f b (ndA st d) (s : Int) c.kind c.v).1 = y at *
  have hnd : ∀ i, ndA ⟨st.nodes.set d y, rest ++ out.flatMap (toAll n byz)⟩ i = if i = d then y else ndA st i := fun i => by
    unfold ndA
    dsimp only
    have hlen := I.len
    simp only [List.getD, List.getElem?_set]
    by_cases e : d = i
    · subst e; simp [hlen, hdn]
    · simp [e, Ne.symm e]
  generalize hst : (⟨st.nodes.set d y, rest ++ out.flatMap (toAll n byz)⟩ : St) = st' at *
  have hfl : ∀ c', c' ∈ st'.flight ↔ c' ∈ rest ∨ ∃ o ∈ out, ∃ i, corr n byz i = true ∧ c' = { o with dst := (i : Int) } := fun c' => by
    subst hst
    simp only [List.mem_append, List.mem_flatMap, mem_toAll]
  have hlen' : st'.nodes.length = n := by subst hst; simpa using I.len
  clear hst
  have hnd1 : ndA st' d = y := by rw [hnd, if_pos rfl]
  have hnd2 : ∀ i, i ≠ d → ndA st' i = ndA st i := fun i hi => by rw [hnd, if_neg hi]
  have mE : ∀ i, (ndA st i).hasE = true → (ndA st' i).hasE = true ∧ (ndA st' i).echoed = (ndA st i).echoed := fun i h => by
    by_cases e : i = d
    · subst e; rw [hnd1]; exact H.mE h
    · rw [hnd2 i e]; exact ⟨h, rfl⟩
  have mR : ∀ i, (ndA st i).hasR = true → (ndA st' i).hasR = true ∧ (ndA st' i).readied = (ndA st i).readied := fun i h => by
    by_cases e : i = d
    · subst e; rw [hnd1]; exact H.mR h
    · rw [hnd2 i e]; exact ⟨h, rfl⟩
  have mE' : ∀ i v, (ndA st i).hasE = true ∧ (ndA st i).echoed = v → (ndA st' i).hasE = true ∧ (ndA st' i).echoed = v := fun i v h => ⟨(mE i h.1).1, (mE i h.1).2.trans h.2⟩
  have mR' : ∀ i v, (ndA st i).hasR = true ∧ (ndA st i).readied = v → (ndA st' i).hasR = true ∧ (ndA st' i).readied = v := fun i v h => ⟨(mR i h.1).1, (mR i h.1).2.trans h.2⟩
  have ech' : ∀ i, i < n → ∀ h ∈ (ndA st' i).echoes, ∀ j, h.s.getLsbD j = true → j < n ∧ (corr n byz j = true → (ndA st' j).hasE = true ∧ (ndA st' j).echoed = h.v) := fun i hi h hm j hj => by
    by_cases e : i = d
    · subst e
      rw [hnd1] at hm
      rcases H.eE h hm j hj with ⟨g, hg, hv, hb⟩ | ⟨e1, e2, e3⟩
      · obtain ⟨h1, h2⟩ := I.ech i hi g hg j hb
        exact ⟨h1, fun h3 => mE' j _ (by rw [← hv]; exact h2 h3)⟩
      · subst e1
        exact ⟨hsn, fun h3 => mE' j _ (by rw [e2]; exact (c2 h3).2.1 e3)⟩
    · rw [hnd2 i e] at hm
      obtain ⟨h1, h2⟩ := I.ech i hi h hm j hj
      exact ⟨h1, fun h3 => mE' j _ (h2 h3)⟩
  have reaO : ∀ h ∈ y.readies, ∀ j, h.s.getLsbD j = true → j < n ∧ (corr n byz j = true → (ndA st j).hasR = true ∧ (ndA st j).readied = h.v) := fun h hm j hj => by
    rcases H.eR h hm j hj with ⟨g, hg, hv, hb⟩ | ⟨e1, e2, e3⟩
    · obtain ⟨h1, h2⟩ := I.rea d hdn g hg j hb
      exact ⟨h1, fun h3 => by rw [← hv]; exact h2 h3⟩
    · subst e1
      exact ⟨hsn, fun h3 => by rw [e2]; exact (c2 h3).2.2 e3⟩
  have rea' : ∀ i, i < n → ∀ h ∈ (ndA st' i).readies, ∀ j, h.s.getLsbD j = true → j < n ∧ (corr n byz j = true → (ndA st' j).hasR = true ∧ (ndA st' j).readied = h.v) := fun i hi h hm j hj => by
    by_cases e : i = d
    · subst e
      rw [hnd1] at hm
      obtain ⟨h1, h2⟩ := reaO h hm j hj
      exact ⟨h1, fun h3 => mR' j _ (h2 h3)⟩
    · rw [hnd2 i e] at hm
      obtain ⟨h1, h2⟩ := I.rea i hi h hm j hj
      exact ⟨h1, fun h3 => mR' j _ (h2 h3)⟩
  have qRo : ∀ i, i < n → (ndA st i).hasR = true → ∃ q ∈ f, ∀ j, q.getLsbD j = true → corr n byz j = true → (ndA st' j).hasE = true ∧ (ndA st' j).echoed = (ndA st i).readied := fun i hi hr => by
    obtain ⟨q, hq, h1⟩ := I.qR i hi hr
    exact ⟨q, hq, fun j hj hc => mE' j _ (h1 j hj hc)⟩
  constructor
  · exact hlen'
  · intro i hi
    by_cases e : i = d
    · subst e; rw [hnd1, H.id, hidx]
    · rw [hnd2 i e]; exact I.ids i hi
  · intro c' hc'
    rcases (hfl c').1 hc' with h | ⟨o, ho, i, hi, rfl⟩
    · obtain ⟨d', s', a1, a2, a3, a4, a5, a6⟩ := I.fl c' (hE2 c' h)
      exact ⟨d', s', a1, a2, a3, a4, a5, fun hc => ⟨(a6 hc).1, fun h2 => mE' s' _ ((a6 hc).2.1 h2), fun h3 => mR' s' _ ((a6 hc).2.2 h3)⟩⟩
    · obtain ⟨o1, _, o3⟩ := H.out o ho
      refine ⟨i, d, rfl, hi, o1.trans hidx, hdn, ?_, fun _ => ⟨?_, ?_, ?_⟩⟩
      · intro (h1 : o.kind = 1); rcases o3 with o3 | o3 <;> (rw [o3.1] at h1; omega)
      · intro (h1 : o.kind = 1); rcases o3 with o3 | o3 <;> (rw [o3.1] at h1; omega)
      · intro (h1 : o.kind = 2)
        rcases o3 with o3 | o3
        · rw [hnd1]; exact o3.2
        · rw [o3.1] at h1; omega
      · intro (h1 : o.kind = 3)
        rcases o3 with o3 | o3
        · rw [o3.1] at h1; omega
        · rw [hnd1]; exact o3.2
  · exact ech'
  · exact rea'
  · intro i hi
    by_cases e : i = d
    · subst e; rw [hnd1]; exact H.dE (I.dE i hi)
    · rw [hnd2 i e]; exact I.dE i hi
  · intro i hi
    by_cases e : i = d
    · subst e; rw [hnd1]; exact H.dR (I.dR i hi)
    · rw [hnd2 i e]; exact I.dR i hi
  · intro i hi hr
    by_cases e : i = d
    · subst e
      rw [hnd1] at hr ⊢
      by_cases hx : (ndA st i).hasR = true
      · rw [(H.mR hx).2]; exact qRo i hi hx
      · obtain ⟨n1, _, n3⟩ := H.nR hr (by simpa using hx)
        rw [n1]
        rcases n3 with ⟨_, h, hm, hv, ha⟩ | ⟨_, h, hm, hv, hp⟩
        · obtain ⟨q, hq, hqs⟩ := (accB_iff _ _).1 ha
          refine ⟨q, hq, fun j hj hc => ?_⟩
          have := (ech' i hi h (by rw [hnd1]; exact hm) j ((sub9_iff q h.s).1 hqs j (bit_lt hj) hj)).2 hc
          rw [hv] at this; exact this
        · obtain ⟨t, ht, hbt⟩ := hT
          obtain ⟨j, hj, hjt⟩ := sub9_false ((posB_false b h.s).1 hp t ht)
          obtain ⟨hjn, h2⟩ := reaO h hm j hj
          have hcj : corr n byz j = true := by
            unfold corr
            cases hb : byz.getLsbD j with
            | false => simp [hjn]
            | true => rw [(sub9_iff byz t).1 hbt j (bit_lt hb) hb] at hjt; cases hjt
          obtain ⟨h3, h4⟩ := h2 hcj
          have := qRo j hjn h3
          rw [h4, hv] at this; exact this
    · rw [hnd2 i e] at hr ⊢; exact qRo i hi hr
  · intro i hi hr
    have old : (ndA st i).hasD = true → ∃ q ∈ f, ∀ j, q.getLsbD j = true → corr n byz j = true → (ndA st' j).hasR = true ∧ (ndA st' j).readied = (ndA st i).delivered := fun h => by
      obtain ⟨q, hq, h1⟩ := I.qD i hi h
      exact ⟨q, hq, fun j hj hc => mR' j _ (h1 j hj hc)⟩
    by_cases e : i = d
    · subst e
      rw [hnd1] at hr ⊢
      by_cases hx : (ndA st i).hasD = true
      · rw [(H.mD hx).2]; exact old hx
      · obtain ⟨n1, _, h, hm, hv, ha⟩ := H.nD hr (by simpa using hx)
        rw [n1]
        obtain ⟨q, hq, hqs⟩ := (accB_iff _ _).1 ha
        refine ⟨q, hq, fun j hj hc => ?_⟩
        have := (rea' i hi h (by rw [hnd1]; exact hm) j ((sub9_iff q h.s).1 hqs j (bit_lt hj) hj)).2 hc
        rw [hv] at this; exact this
    · rw [hnd2 i e] at hr ⊢; exact old hr
  · intro hcs i hi hr
    by_cases e : i = d
    · subst e
      rw [hnd1] at hr ⊢
      by_cases hx : (ndA st i).hasE = true
      · rw [(H.mE hx).2]; exact I.sE hcs i hi hx
      · obtain ⟨n1, n2, _⟩ := H.nE hr (by simpa using hx)
        rw [n2]
        have := c1 n1
        subst this
        exact (c2 hcs).1 n1
    · rw [hnd2 i e] at hr ⊢; exact I.sE hcs i hi hr
  · intro hcs i hi
    rcases I.tS hcs i hi with h | ⟨c', h1, h2, h3⟩
    · exact .inl (mE i h).1
    · rcases hE c' h1 with rfl | h4
      · have : i = d := by have := h3.symm.trans hd; omega
        subst this
        left; rw [hnd1]; exact H.s1 h2
      · exact .inr ⟨c', (hfl c').2 (.inl h4), h2, h3⟩
  · intro k' hk' hh i hi
    have old : (ndA st k').hasE = true → knows (ndA st' i).echoes k' = true ∨ ∃ c ∈ st'.flight, c.kind = 2 ∧ c.src = (k' : Int) ∧ c.dst = (i : Int) := fun h => by
      rcases I.tE k' hk' h i hi with h1 | ⟨c', h1, h2, h3, h4⟩
      · left
        by_cases e : i = d
        · subst e; rw [hnd1]; exact H.kE k' h1
        · rw [hnd2 i e]; exact h1
      · rcases hE c' h1 with rfl | h5
        · have e1 : i = d := by have := h4.symm.trans hd; omega
          have e2 : k' = s := by have := h3.symm.trans hs; omega
          subst e1 e2
          left; rw [hnd1]; exact H.kE2 h2
        · exact .inr ⟨c', (hfl c').2 (.inl h5), h2, h3, h4⟩
    by_cases hx : (ndA st k').hasE = true
    · exact old hx
    · by_cases e : k' = d
      · subst e
        rw [hnd1] at hh
        obtain ⟨_, _, n3⟩ := H.nE hh (by simpa using hx)
        exact .inr ⟨_, (hfl _).2 (.inr ⟨_, n3, i, hi, rfl⟩), rfl, hidx, rfl⟩
      · rw [hnd2 k' e] at hh; exact absurd hh hx
  · intro k' hk' hh i hi
    have old : (ndA st k').hasR = true → knows (ndA st' i).readies k' = true ∨ ∃ c ∈ st'.flight, c.kind = 3 ∧ c.src = (k' : Int) ∧ c.dst = (i : Int) := fun h => by
      rcases I.tR k' hk' h i hi with h1 | ⟨c', h1, h2, h3, h4⟩
      · left
        by_cases e : i = d
        · subst e; rw [hnd1]; exact H.kR k' h1
        · rw [hnd2 i e]; exact h1
      · rcases hE c' h1 with rfl | h5
        · have e1 : i = d := by have := h4.symm.trans hd; omega
          have e2 : k' = s := by have := h3.symm.trans hs; omega
          subst e1 e2
          left; rw [hnd1]; exact H.kR2 h2
        · exact .inr ⟨c', (hfl c').2 (.inl h5), h2, h3, h4⟩
    by_cases hx : (ndA st k').hasR = true
    · exact old hx
    · by_cases e : k' = d
      · subst e
        rw [hnd1] at hh
        obtain ⟨_, n3, _⟩ := H.nR hh (by simpa using hx)
        exact .inr ⟨_, (hfl _).2 (.inr ⟨_, n3, i, hi, rfl⟩), rfl, hidx, rfl⟩
      · rw [hnd2 k' e] at hh; exact absurd hh hx
  · intro i hi
    by_cases e : i = d
    · subst e; rw [hnd1]; exact H.gE (I.dE i hi) (I.gE i hi)
    · rw [hnd2 i e]; exact I.gE i hi
  · intro i hi
    by_cases e : i = d
    · subst e; rw [hnd1]; exact H.gR (I.dR i hi) (I.gR i hi)
    · rw [hnd2 i e]; exact I.gR i hi
  · intro i hi
    by_cases e : i = d
    · subst e; rw [hnd1]; exact H.gD (I.dR i hi) (I.gD i hi)
    · rw [hnd2 i e]; exact I.gD i hi
/-- a cast that a Byzantine server sends -/
def LieOk (n : Nat) (byz : S) (source : Nat) (c : Ct) : Prop := ∃ d s : Nat, c.dst = (d : Int) ∧ corr n byz d = true ∧ c.src = (s : Int) ∧ s < n ∧ corr n byz s = false ∧ (c.kind = 1 → s = source)
theorem lie_inv {st : St} (I : Inv f b n byz source X st) {c : Ct} (hc : LieOk n byz source c) : Inv f b n byz source X ⟨st.nodes, st.flight ++ [c]⟩ where
  len := I.len
  ids := I.ids
  fl := fun c' h => by
    rcases List.mem_append.1 h with h | h
    · exact I.fl c' h
    · obtain rfl := List.mem_singleton.1 h
      obtain ⟨d, s, h1, h2, h3, h4, h5, h6⟩ := hc
      exact ⟨d, s, h1, h2, h3, h4, h6, fun h => by rw [h5] at h; cases h⟩
  ech := I.ech
  rea := I.rea
  dE := I.dE
  dR := I.dR
  qR := I.qR
  qD := I.qD
  sE := I.sE
  tS := fun h i hi => (I.tS h i hi).imp id fun ⟨c', h1, h2⟩ => ⟨c', List.mem_append_left _ h1, h2⟩
  tE := fun k hk h i hi => (I.tE k hk h i hi).imp id fun ⟨c', h1, h2⟩ => ⟨c', List.mem_append_left _ h1, h2⟩
  tR := fun k hk h i hi => (I.tR k hk h i hi).imp id fun ⟨c', h1, h2⟩ => ⟨c', List.mem_append_left _ h1, h2⟩
  gE := I.gE
  gR := I.gR
  gD := I.gD
def startN (n : Nat) : List Nd := (List.range n).map fun (i : Nat) => { nd0 with id := (i : Int) }
def startS (n : Nat) (byz : S) (source : Nat) (X : Str) (d0 : Int) : St := ⟨startN n, if corr n byz source then toAll n byz ⟨1, source, d0, X⟩ else []⟩
theorem startN_at (n i : Nat) (h : i < n) (fl : List Ct) : ndA ⟨startN n, fl⟩ i = { nd0 with id := (i : Int) } := by simp [ndA, startN, List.getD, h]
theorem start_inv (hsn : source < n) (d0 : Int) : Inv f b n byz source X (startS n byz source X d0) := by
  have hat : ∀ i, i < n → ndA (startS n byz source X d0) i = { nd0 with id := (i : Int) } := fun i h => startN_at n i h _
  have hfl : ∀ c ∈ (startS n byz source X d0).flight, corr n byz source = true ∧ ∃ i, corr n byz i = true ∧ c = ⟨1, source, i, X⟩ := fun c h => by
    unfold startS at h
    dsimp only at h
    split at h
    · rename_i hc
      obtain ⟨i, hi, rfl⟩ := (mem_toAll _ _).1 h
      exact ⟨hc, i, hi, rfl⟩
    · simp at h
  constructor
  · simp [startS, startN]
  · intro i hi; rw [hat i hi]
  · intro c hc
    obtain ⟨h1, i, h2, rfl⟩ := hfl c hc
    exact ⟨i, source, rfl, h2, rfl, hsn, fun _ => rfl, fun _ => ⟨fun _ => rfl, fun h => by simp at h, fun h => by simp at h⟩⟩
  · intro i hi h hm; rw [hat i hi] at hm; simp [nd0] at hm
  · intro i hi h hm; rw [hat i hi] at hm; simp [nd0] at hm
  · intro i hi; rw [hat i hi]; exact List.Pairwise.nil
  · intro i hi; rw [hat i hi]; exact List.Pairwise.nil
  · intro i hi h; rw [hat i hi] at h; simp [nd0] at h
  · intro i hi h; rw [hat i hi] at h; simp [nd0] at h
  · intro _ i hi h; rw [hat i hi] at h; simp [nd0] at h
  · intro hc i hi
    right
    refine ⟨⟨1, source, i, X⟩, ?_, rfl, rfl⟩
    unfold startS
    dsimp only
    rw [if_pos hc]
    exact (mem_toAll _ _).2 ⟨i, hi, rfl⟩
  · intro k hk h; rw [hat k (corr_lt hk)] at h; simp [nd0] at h
  · intro k hk h; rw [hat k (corr_lt hk)] at h; simp [nd0] at h
  · intro i hi h hm; rw [hat i hi] at hm; simp [nd0] at hm
  · intro i hi h hm; rw [hat i hi] at hm; simp [nd0] at hm
  · intro i hi h hm; rw [hat i hi] at hm; simp [nd0] at hm

/-- each two sets of f have a common member outside of each set of b -/
def Diss (f b : List S) : Prop := ∀ p ∈ f, ∀ q ∈ f, ∀ t ∈ b, ∃ j, p.getLsbD j = true ∧ q.getLsbD j = true ∧ t.getLsbD j = false
def Ins (n : Nat) (f : List S) : Prop := ∀ q ∈ f, ∀ j, q.getLsbD j = true → j < n
def Avl (f b : List S) : Prop := ∀ t ∈ b, ∃ q ∈ f, ∀ j, q.getLsbD j = true → t.getLsbD j = false
theorem corr_of {j : Nat} (h1 : j < n) (h2 : byz.getLsbD j = false) : corr n byz j = true := by simp [corr, h1, h2]
theorem out_byz {t : S} (h : sub9 byz t = true) {j : Nat} (hj : t.getLsbD j = false) : byz.getLsbD j = false := by
  cases hb : byz.getLsbD j with
  | false => rfl
  | true => rw [(sub9_iff byz t).1 h j (bit_lt hb) hb] at hj; cases hj
theorem cons_core (hD : Diss f b) (hI : Ins n f) (hT : ∃ t ∈ b, sub9 byz t = true) {st : St} (I : Inv f b n byz source X st) {i j : Nat} (hi : i < n) (hj : j < n) (h1 : (ndA st i).hasD = true) (h2 : (ndA st j).hasD = true) : (ndA st i).delivered = (ndA st j).delivered := by
  obtain ⟨p, hp, k1⟩ := I.qD i hi h1
  obtain ⟨q, hq, k2⟩ := I.qD j hj h2
  obtain ⟨t, ht, hb⟩ := hT
  obtain ⟨m, m1, m2, m3⟩ := hD p hp q hq t ht
  have hc := corr_of (hI p hp m m1) (out_byz hb m3)
  exact (k1 m m1 hc).2.symm.trans (k2 m m2 hc).2
theorem ready_core (hD : Diss f b) (hI : Ins n f) (hT : ∃ t ∈ b, sub9 byz t = true) {st : St} (I : Inv f b n byz source X st) {i j : Nat} (hi : i < n) (hj : j < n) (h1 : (ndA st i).hasR = true) (h2 : (ndA st j).hasR = true) : (ndA st i).readied = (ndA st j).readied := by
  obtain ⟨p, hp, k1⟩ := I.qR i hi h1
  obtain ⟨q, hq, k2⟩ := I.qR j hj h2
  obtain ⟨t, ht, hb⟩ := hT
  obtain ⟨m, m1, m2, m3⟩ := hD p hp q hq t ht
  have hc := corr_of (hI p hp m m1) (out_byz hb m3)
  exact (k1 m m1 hc).2.symm.trans (k2 m m2 hc).2
/-- if all of a quorum's members are known with one value, one entry of the list contains it -/
theorem one_entry {l : List Hd} {q : S} {v : Str} (hne : ∃ j, q.getLsbD j = true) (hd : DistH l) (h : ∀ j, q.getLsbD j = true → ∃ g ∈ l, g.v = v ∧ g.s.getLsbD j = true) : ∃ g ∈ l, g.v = v ∧ sub9 q g.s = true := by
  obtain ⟨j, hj⟩ := hne
  obtain ⟨g, hg, hv, _⟩ := h j hj
  refine ⟨g, hg, hv, (sub9_iff q g.s).2 fun i _ hi => ?_⟩
  obtain ⟨g', hg', hv', hb⟩ := h i hi
  have e1 := getH_of hd hg
  have e2 := getH_of hd hg'
  rw [hv] at e1
  rw [hv'] at e2
  rw [← e1, e2]; exact hb
theorem total_core (hD : Diss f b) (hA : Avl f b) (hI : Ins n f) (hT : ∃ t ∈ b, sub9 byz t = true) {st : St} (I : Inv f b n byz source X st) (hS : st.flight = [])
    (h : ∃ i, corr n byz i = true ∧ (ndA st i).hasR = true ∧ (∃ q ∈ f, ∀ j, q.getLsbD j = true → corr n byz j = true → (ndA st j).hasR = true)) : ∀ j, corr n byz j = true → (ndA st j).hasD = true := by
  obtain ⟨t, ht, hbt⟩ := hT
  obtain ⟨i, hci, hri, q, hq, hall⟩ := h
  have kR : ∀ k, corr n byz k = true → (ndA st k).hasR = true → ∀ i, corr n byz i = true → ∃ g ∈ (ndA st i).readies, g.v = (ndA st k).readied ∧ g.s.getLsbD k = true := fun k hk hr i hi => by
    rcases I.tR k hk hr i hi with h1 | ⟨c, h1, _⟩
    · obtain ⟨g, hg, hb⟩ := (knows_iff _ _).1 h1
      obtain ⟨_, h2⟩ := I.rea i (corr_lt hi) g hg k hb
      exact ⟨g, hg, (h2 hk).2.symm, hb⟩
    · rw [hS] at h1; simp at h1
  have hT' : ∃ t ∈ b, sub9 byz t = true := ⟨t, ht, hbt⟩
  -- all ready
  have allR : ∀ j, corr n byz j = true → (ndA st j).hasR = true := fun j hj => by
    -- a member of q outside of byz
    obtain ⟨m, m1, _, m3⟩ := hD q hq q hq t ht
    have hcm := corr_of (hI q hq m m1) (out_byz hbt m3)
    obtain ⟨g, hg, hgv, hgb⟩ := kR m hcm (hall m m1 hcm) j hj
    refine I.gR j (corr_lt hj) g hg ((posB_false b g.s).2 fun t' ht' => ?_)
    obtain ⟨q', hq', hq't⟩ := hA t' ht'
    obtain ⟨p, p1, p2, p3⟩ := hD q hq q' hq' t ht
    have hcp := corr_of (hI q hq p p1) (out_byz hbt p3)
    obtain ⟨g', hg', hgv', hgb'⟩ := kR p hcp (hall p p1 hcp) j hj
    have ev : (ndA st p).readied = (ndA st m).readied := ready_core hD hI hT' I (corr_lt hcp) (corr_lt hcm) (hall p p1 hcp) (hall m m1 hcm)
    have e1 := getH_of (I.dR j (corr_lt hj)) hg
    have e2 := getH_of (I.dR j (corr_lt hj)) hg'
    rw [hgv] at e1
    rw [hgv', ev] at e2
    have hgp : g.s.getLsbD p = true := by rw [← e1, e2]; exact hgb'
    cases hsub : sub9 g.s t' with
    | false => rfl
    | true =>
      have := (sub9_iff g.s t').1 hsub p (bit_lt hgp) hgp
      rw [hq't p p2] at this; cases this
  intro j hj
  obtain ⟨q', hq', hq't⟩ := hA t ht
  obtain ⟨m, m1, _, m3⟩ := hD q' hq' q' hq' t ht
  have hcq : ∀ p, q'.getLsbD p = true → corr n byz p = true := fun p hp => corr_of (hI q' hq' p hp) (out_byz hbt (hq't p hp))
  obtain ⟨g, hg, _, hs⟩ := one_entry (v := (ndA st m).readied) ⟨m, m1⟩ (I.dR j (corr_lt hj)) fun p hp => by
    obtain ⟨g, hg, hv, hb⟩ := kR p (hcq p hp) (allR p (hcq p hp)) j hj
    exact ⟨g, hg, hv.trans (ready_core hD hI hT' I (corr_lt (hcq p hp)) (corr_lt (hcq m m1)) (allR p (hcq p hp)) (allR m (hcq m m1))), hb⟩
  exact I.gD j (corr_lt hj) g hg ((accB_iff _ _).2 ⟨q', hq', hs⟩)
theorem total_all (hD : Diss f b) (hA : Avl f b) (hI : Ins n f) (hT : ∃ t ∈ b, sub9 byz t = true) {st : St} (I : Inv f b n byz source X st) (hS : st.flight = [])
    {i : Nat} (hi : i < n) (h : (ndA st i).hasD = true) : ∀ j, corr n byz j = true → (ndA st j).hasD = true := by
  obtain ⟨q, hq, hall⟩ := I.qD i hi h
  obtain ⟨t, ht, hbt⟩ := hT
  obtain ⟨m, m1, _, m3⟩ := hD q hq q hq t ht
  have hcm := corr_of (hI q hq m m1) (out_byz hbt m3)
  exact total_core hD hA hI ⟨t, ht, hbt⟩ I hS ⟨m, hcm, (hall m m1 hcm).1, q, hq, fun j hj hc => (hall j hj hc).1⟩
/-- with a correct source all correct nodes deliver its value -/
theorem source_all (hD : Diss f b) (hA : Avl f b) (hI : Ins n f) (hT : ∃ t ∈ b, sub9 byz t = true) {st : St} (I : Inv f b n byz source X st) (hS : st.flight = [])
    (hc : corr n byz source = true) : ∀ j, corr n byz j = true → (ndA st j).hasD = true ∧ (ndA st j).delivered = X := by
  obtain ⟨t, ht, hbt⟩ := hT
  have hT' : ∃ t ∈ b, sub9 byz t = true := ⟨t, ht, hbt⟩
  have allE : ∀ j, corr n byz j = true → (ndA st j).hasE = true ∧ (ndA st j).echoed = X := fun j hj => by
    rcases I.tS hc j hj with h | ⟨c, h1, _⟩
    · exact ⟨h, I.sE hc j (corr_lt hj) h⟩
    · rw [hS] at h1; simp at h1
  obtain ⟨q', hq', hq't⟩ := hA t ht
  obtain ⟨m, m1, _, m3⟩ := hD q' hq' q' hq' t ht
  have hcq : ∀ p, q'.getLsbD p = true → corr n byz p = true := fun p hp => corr_of (hI q' hq' p hp) (out_byz hbt (hq't p hp))
  have allR : ∀ j, corr n byz j = true → (ndA st j).hasR = true := fun j hj => by
    obtain ⟨g, hg, _, hs⟩ := one_entry (v := X) ⟨m, m1⟩ (I.dE j (corr_lt hj)) fun p hp => by
      have hcp := hcq p hp
      rcases I.tE p hcp (allE p hcp).1 j hj with h1 | ⟨c, h1, _⟩
      · obtain ⟨g, hg, hb⟩ := (knows_iff _ _).1 h1
        obtain ⟨_, h2⟩ := I.ech j (corr_lt hj) g hg p hb
        exact ⟨g, hg, (h2 hcp).2.symm.trans (allE p hcp).2, hb⟩
      · rw [hS] at h1; simp at h1
    exact I.gE j (corr_lt hj) g hg ((accB_iff _ _).2 ⟨q', hq', hs⟩)
  have vR : ∀ j, corr n byz j = true → (ndA st j).readied = X := fun j hj => by
    obtain ⟨q, hq, h1⟩ := I.qR j (corr_lt hj) (allR j hj)
    obtain ⟨p, p1, _, p3⟩ := hD q hq q hq t ht
    have hcp := corr_of (hI q hq p p1) (out_byz hbt p3)
    exact (h1 p p1 hcp).2.symm.trans (allE p hcp).2
  intro j hj
  have hd := total_core hD hA hI hT' I hS ⟨m, hcq m m1, allR m (hcq m m1), q', hq', fun p _ hp => allR p hp⟩ j hj
  refine ⟨hd, ?_⟩
  obtain ⟨q, hq, h1⟩ := I.qD j (corr_lt hj) hd
  obtain ⟨p, p1, _, p3⟩ := hD q hq q hq t ht
  have hcp := corr_of (hI q hq p p1) (out_byz hbt p3)
  exact (h1 p p1 hcp).2.symm.trans (vR p hcp)
def lieL (n : Nat) (byz : S) (source : Nat) (X Y : Str) : List Ct :=
  (List.range n).flatMap fun (s : Nat) => if corr n byz s then [] else
    [1, 2, 3].flatMap fun (k : Int) => if k = 1 ∧ s ≠ source then [] else
      [X, Y].flatMap fun v => (corrL n byz).map fun (d9 : Nat) => ⟨k, (s : Int), (d9 : Int), v⟩
theorem lieL_ok {c : Ct} {Y : Str} (h : c ∈ lieL n byz source X Y) : LieOk n byz source c := by
  unfold lieL at h
  obtain ⟨s, hs, h⟩ := List.mem_flatMap.1 h
  have hsn := List.mem_range.1 hs
  split at h
  · simp at h
  · rename_i hc
    obtain ⟨k, _, h⟩ := List.mem_flatMap.1 h
    split at h
    · simp at h
    · rename_i hk
      obtain ⟨v, _, h⟩ := List.mem_flatMap.1 h
      obtain ⟨d9, hto, rfl⟩ := List.mem_map.1 h
      exact ⟨d9, s, rfl, (mem_corrL d9).1 hto, rfl, hsn, by simpa using hc, fun (e : k = 1) => Classical.byContradiction fun h => hk ⟨e, h⟩⟩
def stepS (f b : List S) (n : Nat) (byz : S) (lies : List Ct) (st : St) (ch : Nat) : St :=
  if st.flight.length + lies.length = 0 then st
  else if ch % (st.flight.length + lies.length) < st.flight.length then deliv f b n byz st (ch % (st.flight.length + lies.length))
  else ⟨st.nodes, st.flight ++ [lies.getD (ch % (st.flight.length + lies.length) - st.flight.length) ct0]⟩
theorem step_inv (hn : n ≤ 8) (hT : ∃ t ∈ b, sub9 byz t = true) {Y : Str} {st : St} (I : Inv f b n byz source X st) (ch : Nat) : Inv f b n byz source X (stepS f b n byz (lieL n byz source X Y) st ch) := by
  unfold stepS
  split
  · exact I
  · rename_i h0
    split
    · rename_i h1
      exact deliv_inv hn hT I h1
    · rename_i h1
      refine lie_inv I (lieL_ok (X := X) (Y := Y) ?_)
      have h2 := Nat.mod_lt ch (Nat.pos_of_ne_zero h0)
      generalize lieL n byz source X Y = l at *
      have h3 : ch % (st.flight.length + l.length) - st.flight.length < l.length := by omega
      simp [List.getD, h3]
def runS (f b : List S) (n : Nat) (byz : S) (lies : List Ct) (st : St) (chs : List Nat) : St := chs.foldl (stepS f b n byz lies) st
theorem run_inv (hn : n ≤ 8) (hT : ∃ t ∈ b, sub9 byz t = true) {Y : Str} : ∀ (chs : List Nat) {st : St}, Inv f b n byz source X st → Inv f b n byz source X (runS f b n byz (lieL n byz source X Y) st chs)
  | [], _, I => I
  | c :: r, _, I => run_inv hn hT r (step_inv hn hT I c)

def unS (x : Nd) : Nat := (if x.hasE then 0 else 1) + (if x.hasR then 0 else 1)
def measN (n : Nat) (l : List Nd) : Nat := n * (l.map unS).sum
def measS (n : Nat) (st : St) : Nat := st.flight.length + measN n st.nodes
def settleN (f b : List S) (n : Nat) (byz : S) : Nat → St → St
  | 0, st => st
  | k + 1, st => if st.flight.length = 0 then st else settleN f b n byz k (deliv f b n byz st 0)
def settleS (f b : List S) (n : Nat) (byz : S) (st : St) : St := settleN f b n byz (measS n st) st
theorem rdy_un (x : Nd) (is : Bool) (v : Str) : (rdy x is v).2.length + unS (rdy x is v).1 ≤ unS x := by
  unfold rdy
  split
  · rename_i h
    have := (Bool.and_eq_true_iff.1 h).2
    have h2 : x.hasR = false := by simpa using this
    simp [unS, h2]; omega
  · simp
theorem handle_un (f b : List S) (x : Nd) (src kind : Int) (v : Str) : (handle f b x src kind v).2.length + unS (handle f b x src kind v).1 ≤ unS x := by
  unfold handle
  split
  · simp
  · split
    · split
      · simp
      · rename_i h; simp [unS, h]
    · split
      · split
        · simp
        · have := rdy_un { x with echoes := putH x.echoes src.toNat v } (accB f (getH (putH x.echoes src.toNat v) v)) v
          exact Nat.le_trans this (Nat.le_refl _)
      · split
        · split
          · simp
          · have := rdy_un { x with readies := putH x.readies src.toNat v } (!posB b (getH (putH x.readies src.toNat v) v)) v
            dsimp only
            generalize rdy { x with readies := putH x.readies src.toNat v } (!posB b (getH (putH x.readies src.toNat v) v)) v = r at *
            refine Nat.le_trans ?_ (Nat.le_trans this (Nat.le_refl _))
            split
            · exact Nat.le_refl _
            · exact Nat.le_refl _
        · simp
theorem sum_set (l : List Nd) (d : Nat) (y : Nd) (h : d < l.length) : ((l.set d y).map unS).sum + unS (l.getD d nd0) = (l.map unS).sum + unS y := by
  induction l generalizing d with
  | nil => simp at h
  | cons a t ih =>
    cases d with
    | zero => simp [List.getD]; omega
    | succ d =>
      have := ih d (by simpa using h)
      simp only [List.getD, List.set_cons_succ, List.map_cons, List.sum_cons, List.getElem?_cons_succ] at *
      omega
theorem toAll_len (n : Nat) (byz : S) (c : Ct) : (toAll n byz c).length ≤ n := by
  unfold toAll corrL
  rw [List.length_map]
  exact Nat.le_trans (List.length_filter_le _ _) (by simp)
theorem flatMap_len (l : List Ct) (n : Nat) (byz : S) : (l.flatMap (toAll n byz)).length ≤ n * l.length := by
  induction l with
  | nil => simp
  | cons a t ih =>
    rw [List.flatMap_cons, List.length_append, List.length_cons, Nat.mul_succ]
    have := toAll_len n byz a
    omega
theorem deliv_meas {st : St} {k : Nat} (hk : k < st.flight.length) (hd : (st.flight.getD k ct0).dst.toNat < st.nodes.length) : measS n (deliv f b n byz st k) < measS n st := by
  unfold measS measN deliv
  dsimp only
  have h1 := handle_un f b (ndA st (st.flight.getD k ct0).dst.toNat) (st.flight.getD k ct0).src (st.flight.getD k ct0).kind (st.flight.getD k ct0).v
  have h2 := sum_set st.nodes (st.flight.getD k ct0).dst.toNat (handle f b (ndA st (st.flight.getD k ct0).dst.toNat) (st.flight.getD k ct0).src (st.flight.getD k ct0).kind (st.flight.getD k ct0).v).1 hd
  change _ + unS (ndA st _) = _ at h2
  generalize (handle f b (ndA st (st.flight.getD k ct0).dst.toNat) (st.flight.getD k ct0).src (st.flight.getD k ct0).kind (st.flight.getD k ct0).v) = r at *
  have h3 := flatMap_len r.2 n byz
  rw [List.length_append, List.length_eraseIdx, if_pos hk]
  generalize (r.2.flatMap (toAll n byz)).length = A at *
  generalize ((st.nodes.set (st.flight.getD k ct0).dst.toNat r.1).map unS).sum = B at *
  generalize (st.nodes.map unS).sum = C at *
  have h4 : r.2.length + B ≤ C := by omega
  have h5 := Nat.mul_le_mul_left n h4
  rw [Nat.mul_add] at h5
  omega
/-- casts go to nodes -/
def DstOk (n : Nat) (st : St) : Prop := st.nodes.length = n ∧ ∀ c ∈ st.flight, ∃ d : Nat, c.dst = (d : Int) ∧ d < n
theorem deliv_dst {st : St} (h : DstOk n st) (k : Nat) : DstOk n (deliv f b n byz st k) := by
  refine ⟨by simpa [deliv] using h.1, fun c hc => ?_⟩
  unfold deliv at hc
  dsimp only at hc
  rcases List.mem_append.1 hc with h1 | h1
  · exact h.2 c (List.mem_of_mem_eraseIdx h1)
  · obtain ⟨o, _, h2⟩ := List.mem_flatMap.1 h1
    obtain ⟨i, hi, rfl⟩ := (mem_toAll _ _).1 h2
    exact ⟨i, rfl, corr_lt hi⟩
theorem dst_at {st : St} (h : DstOk n st) {k : Nat} (hk : k < st.flight.length) : (st.flight.getD k ct0).dst.toNat < st.nodes.length := by
  obtain ⟨d, h1, h2⟩ := h.2 (st.flight.getD k ct0) (by simp [List.getD, hk])
  rw [h1, h.1]; simpa using h2
theorem settleN_done : ∀ k {st : St}, DstOk n st → measS n st ≤ k → (settleN f b n byz k st).flight = []
  | 0, st, _, h => by
    have : st.flight.length = 0 := by unfold measS at h; omega
    exact List.eq_nil_of_length_eq_zero this
  | k + 1, st, hd, h => by
    unfold settleN
    split
    · rename_i h0; exact List.eq_nil_of_length_eq_zero h0
    · rename_i h0
      have := deliv_meas (f := f) (b := b) (byz := byz) (n := n) (k := 0) (by omega) (dst_at hd (k := 0) (by omega))
      exact settleN_done k (deliv_dst hd 0) (by omega)
/-- more fuel changes nothing -/
theorem settleN_fuel : ∀ k j {st : St}, DstOk n st → measS n st ≤ k → k ≤ j → settleN f b n byz j st = settleN f b n byz k st
  | 0, 0, _, _, _, _ => rfl
  | 0, j + 1, st, _, h, _ => by
    have : st.flight.length = 0 := by unfold measS at h; omega
    unfold settleN
    rw [if_pos this]
  | k + 1, 0, _, _, _, h => by omega
  | k + 1, j + 1, st, hd, h, hj => by
    unfold settleN
    split
    · rfl
    · rename_i h0
      have := deliv_meas (f := f) (b := b) (byz := byz) (n := n) (k := 0) (by omega) (dst_at hd (k := 0) (by omega))
      exact settleN_fuel k j (deliv_dst hd 0) (by omega) (by omega)
theorem settleS_step {st : St} (hd : DstOk n st) (h0 : 0 < st.flight.length) : settleS f b n byz st = settleS f b n byz (deliv f b n byz st 0) := by
  have hm := deliv_meas (f := f) (b := b) (byz := byz) (n := n) (k := 0) h0 (dst_at hd (k := 0) h0)
  unfold settleS
  obtain ⟨m, hm2⟩ : ∃ m, measS n st = m + 1 := ⟨measS n st - 1, by omega⟩
  rw [hm2, settleN, if_neg (by omega)]
  exact settleN_fuel _ _ (deliv_dst hd 0) (Nat.le_refl _) (by omega)
theorem settleS_end {st : St} (h0 : st.flight.length = 0) : settleS f b n byz st = st := by
  unfold settleS
  cases measS n st with
  | zero => rfl
  | succ m => rw [settleN, if_pos h0]
theorem inv_dst {st : St} (I : Inv f b n byz source X st) : DstOk n st := ⟨I.len, fun c hc => by
  obtain ⟨d, _, h1, h2, _⟩ := I.fl c hc
  exact ⟨d, h1, corr_lt h2⟩⟩
theorem settleN_inv (hn : n ≤ 8) (hT : ∃ t ∈ b, sub9 byz t = true) : ∀ k {st : St}, Inv f b n byz source X st → Inv f b n byz source X (settleN f b n byz k st)
  | 0, _, I => I
  | k + 1, st, I => by
    unfold settleN
    split
    · exact I
    · exact settleN_inv hn hT k (deliv_inv hn hT I (by omega))
theorem settleS_inv (hn : n ≤ 8) (hT : ∃ t ∈ b, sub9 byz t = true) {st : St} (I : Inv f b n byz source X st) : Inv f b n byz source X (settleS f b n byz st) ∧ (settleS f b n byz st).flight = [] :=
  ⟨settleN_inv hn hT _ I, settleN_done _ (inv_dst I) (Nat.le_refl _)⟩
def memL (s : S) : List Nat := (List.range 16).filter fun i => s.getLsbD i
theorem mem_memL (s : S) (i : Nat) : i ∈ memL s ↔ s.getLsbD i = true := by
  unfold memL; rw [List.mem_filter, List.mem_range]
  exact ⟨fun h => h.2, fun h => ⟨bit_lt h, h⟩⟩
def sayL (A : S) (kind : Int) (src : Nat) (v : Str) : List Ct := (memL A).map fun (d9 : Nat) => ⟨kind, (src : Int), (d9 : Int), v⟩
def pushL (A p byz : S) (source : Nat) (v : Str) : List Ct := sayL A 1 source v ++ ([2, 3].flatMap fun (k : Int) => (memL (p &&& byz)).flatMap fun i => sayL A k i v)
/-- a cast that a side delivers -/
def inA (A byz : S) (c : Ct) : Bool := (decide (0 ≤ c.dst) && A.getLsbD c.dst.toNat) && (decide (0 ≤ c.src) && (A ||| byz).getLsbD c.src.toNat)
def idxL (P : Ct → Bool) : List Ct → Option Nat
  | [] => none
  | c :: t => if P c then some 0 else (idxL P t).map (· + 1)
theorem idxL_some {P : Ct → Bool} : ∀ {l : List Ct} {k : Nat}, idxL P l = some k → k < l.length ∧ P (l.getD k ct0) = true
  | [], _, h => by simp [idxL] at h
  | c :: t, k, h => by
    unfold idxL at h
    split at h
    · rename_i hp
      obtain rfl := Option.some.inj h
      exact ⟨by simp, by simpa [List.getD] using hp⟩
    · obtain ⟨m, h1, rfl⟩ := Option.map_eq_some_iff.1 h
      obtain ⟨h2, h3⟩ := idxL_some h1
      exact ⟨by simpa using h2, by simpa [List.getD] using h3⟩
def playN (f b : List S) (n : Nat) (byz A : S) : Nat → St → St
  | 0, st => st
  | k + 1, st => match idxL (inA A byz) st.flight with
    | none => st
    | some i => playN f b n byz A k (deliv f b n byz st i)
def playS (f b : List S) (n : Nat) (byz A : S) (st : St) : St := playN f b n byz A (measS n st) st
theorem playN_fuel {A : S} : ∀ k j {st : St}, DstOk n st → measS n st ≤ k → k ≤ j → playN f b n byz A j st = playN f b n byz A k st
  | 0, 0, _, _, _, _ => rfl
  | 0, j + 1, st, _, h, _ => by
    have : st.flight.length = 0 := by unfold measS at h; omega
    have e := List.eq_nil_of_length_eq_zero this
    unfold playN
    rw [e]; rfl
  | k + 1, 0, _, _, _, h => by omega
  | k + 1, j + 1, st, hd, h, hj => by
    unfold playN
    cases e : idxL (inA A byz) st.flight with
    | none => rfl
    | some i =>
      have hi := (idxL_some e).1
      have := deliv_meas (f := f) (b := b) (byz := byz) (n := n) (k := i) hi (dst_at hd hi)
      exact playN_fuel k j (deliv_dst hd i) (by omega) (by omega)
theorem playS_step {A : S} {st : St} (hd : DstOk n st) {i : Nat} (h0 : idxL (inA A byz) st.flight = some i) : playS f b n byz A st = playS f b n byz A (deliv f b n byz st i) := by
  have hi := (idxL_some h0).1
  have hm := deliv_meas (f := f) (b := b) (byz := byz) (n := n) (k := i) hi (dst_at hd hi)
  unfold playS
  obtain ⟨m, hm2⟩ : ∃ m, measS n st = m + 1 := ⟨measS n st - 1, by omega⟩
  rw [hm2, playN, h0]
  exact playN_fuel _ _ (deliv_dst hd i) (Nat.le_refl _) (by omega)
theorem playS_end {A : S} {st : St} (h0 : idxL (inA A byz) st.flight = none) : playS f b n byz A st = st := by
  unfold playS
  cases measS n st with
  | zero => rfl
  | succ m => rw [playN, h0]
def sideS (f b : List S) (n : Nat) (byz : S) (source : Nat) (st : St) (A p : S) (v : Str) : St := playS f b n byz A ⟨st.nodes, st.flight ++ pushL A p byz source v⟩

theorem rdy_vals (x : Nd) (is : Bool) (v : Str) : (∀ o ∈ (rdy x is v).2, o.v = v) ∧ (rdy x is v).1.echoes = x.echoes ∧ (rdy x is v).1.readies = x.readies := by
  unfold rdy
  split
  · exact ⟨fun o ho => by obtain rfl := List.mem_singleton.1 ho; rfl, rfl, rfl⟩
  · exact ⟨fun o ho => by simp at ho, rfl, rfl⟩
/-- the state of one side while it plays -/
structure SInv (f b : List S) (n : Nat) (byz A p : S) (v : Str) (st : St) : Prop where
  dst : DstOk n st
  ids : ∀ i, i < n → (ndA st i).id = (i : Int)
  fl : ∀ c ∈ st.flight, inA A byz c = true → c.v = v
  ech : ∀ i, A.getLsbD i = true → ∀ h ∈ (ndA st i).echoes, h.v = v
  rea : ∀ i, A.getLsbD i = true → ∀ h ∈ (ndA st i).readies, h.v = v
  dE : ∀ i, A.getLsbD i = true → DistH (ndA st i).echoes
  dR : ∀ i, A.getLsbD i = true → DistH (ndA st i).readies
  vD : ∀ i, A.getLsbD i = true → (ndA st i).hasD = true → (ndA st i).delivered = v
  tS : ∀ i, A.getLsbD i = true → (ndA st i).hasE = true ∨ ∃ c ∈ st.flight, c.kind = 1 ∧ c.dst = (i : Int) ∧ inA A byz c = true
  tE : ∀ k, p.getLsbD k = true → (A.getLsbD k = true → (ndA st k).hasE = true) → ∀ i, A.getLsbD i = true → knows (ndA st i).echoes k = true ∨ ∃ c ∈ st.flight, c.kind = 2 ∧ c.src = (k : Int) ∧ c.dst = (i : Int)
  tR : ∀ k, p.getLsbD k = true → (A.getLsbD k = true → (ndA st k).hasR = true) → ∀ i, A.getLsbD i = true → knows (ndA st i).readies k = true ∨ ∃ c ∈ st.flight, c.kind = 3 ∧ c.src = (k : Int) ∧ c.dst = (i : Int)
  gE : ∀ i, A.getLsbD i = true → ∀ h ∈ (ndA st i).echoes, accB f h.s = true → (ndA st i).hasR = true
  gD : ∀ i, A.getLsbD i = true → ∀ h ∈ (ndA st i).readies, accB f h.s = true → (ndA st i).hasD = true
/-- what a side leaves alone -/
structure Apart (n : Nat) (byz A : S) (st0 st : St) : Prop where
  len : st.nodes.length = st0.nodes.length
  nodes : ∀ i, A.getLsbD i = false → ndA st i = ndA st0 i
  flight : ∀ c ∈ st.flight, c ∈ st0.flight ∨ ∃ i : Nat, c.src = (i : Int) ∧ A.getLsbD i = true ∧ i < n
theorem Apart.refl (n : Nat) (byz A : S) (st : St) : Apart n byz A st st := ⟨rfl, fun _ _ => rfl, fun _ hc => .inl hc⟩
theorem Apart.trans {A : S} {a b' c : St} (h : Apart n byz A a b') (k : Apart n byz A b' c) : Apart n byz A a c :=
  ⟨k.len.trans h.len, fun i hi => (k.nodes i hi).trans (h.nodes i hi), fun x hx => (k.flight x hx).elim (h.flight x) .inr⟩
theorem mem_sayL {A : S} {kind : Int} {src : Nat} {v : Str} {c : Ct} : c ∈ sayL A kind src v ↔ ∃ d9, A.getLsbD d9 = true ∧ c = ⟨kind, (src : Int), (d9 : Int), v⟩ := by
  unfold sayL; rw [List.mem_map]
  constructor
  · rintro ⟨d9, h, rfl⟩; exact ⟨d9, (mem_memL A d9).1 h, rfl⟩
  · rintro ⟨d9, h, rfl⟩; exact ⟨d9, (mem_memL A d9).2 h, rfl⟩
theorem mem_pushL {A p : S} {v : Str} {c : Ct} : c ∈ pushL A p byz source v ↔ (∃ d9, A.getLsbD d9 = true ∧ c = ⟨1, (source : Int), (d9 : Int), v⟩) ∨
    ∃ k : Int, (k = 2 ∨ k = 3) ∧ ∃ i, p.getLsbD i = true ∧ byz.getLsbD i = true ∧ ∃ d9, A.getLsbD d9 = true ∧ c = ⟨k, (i : Int), (d9 : Int), v⟩ := by
  unfold pushL
  rw [List.mem_append, mem_sayL, List.mem_flatMap]
  refine or_congr Iff.rfl ?_
  constructor
  · rintro ⟨k, hk, h⟩
    obtain ⟨i, hi, h⟩ := List.mem_flatMap.1 h
    have h1 := (mem_memL _ i).1 hi
    rw [BitVec.getLsbD_and, Bool.and_eq_true] at h1
    exact ⟨k, by simpa using hk, i, h1.1, h1.2, mem_sayL.1 h⟩
  · rintro ⟨k, hk, i, h1, h2, h⟩
    exact ⟨k, by simpa using hk, List.mem_flatMap.2 ⟨i, (mem_memL _ i).2 (by rw [BitVec.getLsbD_and, h1, h2]; rfl), mem_sayL.2 h⟩⟩
end
end Go.Proofs.YtijknodekomdfaaGreatDoor
namespace Go.Proofs.YtijknodekomdfaaGreatDoor

theorem countP_drop {α : Type} (p q : α → Bool) (i : α) : ∀ (L : List α), (∀ j ∈ L, q j = true → p j = true) → i ∈ L → p i = true → q i = false → L.countP q + 1 ≤ L.countP p
  | [], _, h, _, _ => by simp at h
  | a :: t, hm, h, hp, hq => by
    have hle : ∀ t : List α, (∀ j ∈ t, q j = true → p j = true) → t.countP q ≤ t.countP p := fun t ht => List.countP_mono_left fun j hj => ht j hj
    have hm' : ∀ j ∈ t, q j = true → p j = true := fun j hj => hm j (by simp [hj])
    simp only [List.countP_cons]
    rcases List.mem_cons.1 h with rfl | h
    · simp only [hp, hq, if_true, Bool.false_eq_true, if_false]
      have := hle t hm'
      omega
    · have ih := countP_drop p q i t hm' h hp hq
      have ha := hm a (by simp)
      cases hqa : q a
      · simp only [Bool.false_eq_true, if_false]; omega
      · rw [ha hqa]; simp only [if_true]; omega
def potH (l : List Hd) : Nat := l.length + (List.range 16).countP fun i => !knows l i
theorem putH_len (i : Nat) (v : Str) : ∀ l : List Hd, (putH l i v).length ≤ l.length + 1
  | [] => by simp [putH]
  | h :: t => by
    have := putH_len i v t
    simp only [putH]
    split
    · simp
    · simp only [List.length_cons]; omega
theorem potH_put {l : List Hd} {i : Nat} (hi : i < 16) (v : Str) (hk : knows l i = false) : potH (putH l i v) ≤ potH l := by
  have h1 := putH_len i v l
  have h2 := countP_drop (fun j => !knows l j) (fun j => !knows (putH l i v) j) i (List.range 16) (fun j _ hj => by
    cases hl : knows l j with
    | false => rfl
    | true => rw [knows_mono hl] at hj; cases hj) (List.mem_range.2 hi) (by rw [hk]; rfl) (by rw [knows_put l hi v]; rfl)
  unfold potH
  omega
def SmallN (x : Nd) : Prop := potH x.echoes ≤ 100 ∧ potH x.readies ≤ 100
theorem SmallN.len {x : Nd} (h : SmallN x) : x.echoes.length ≤ 100 ∧ x.readies.length ≤ 100 := by
  obtain ⟨h1, h2⟩ := h
  unfold potH at h1 h2
  exact ⟨by omega, by omega⟩
theorem small_of {x : Nd} (h1 : x.echoes.length ≤ 80) (h2 : x.readies.length ≤ 80) : SmallN x := by
  have a1 := List.countP_le_length (p := fun i => !knows x.echoes i) (l := List.range 16)
  have a2 := List.countP_le_length (p := fun i => !knows x.readies i) (l := List.range 16)
  rw [List.length_range] at a1 a2
  exact ⟨by unfold potH; omega, by unfold potH; omega⟩
theorem rdy_small {x : Nd} (is : Bool) (v : Str) (h : SmallN x) : SmallN (rdy x is v).1 := by
  unfold rdy; split <;> exact h
theorem handle_small (f b : List S) {x : Nd} (src kind : Int) (v : Str) (h : SmallN x) : SmallN (handle f b x src kind v).1 := by
  unfold handle
  split
  · exact h
  rename_i hs
  have hs16 : src.toNat < 16 := by omega
  split
  · split <;> exact h
  split
  · split
    · exact h
    · rename_i hk
      exact rdy_small _ _ ⟨Nat.le_trans (potH_put hs16 v (by simpa using hk)) h.1, h.2⟩
  split
  · split
    · exact h
    · rename_i hk
      have h2 : SmallN (rdy { x with readies := putH x.readies src.toNat v } (!posB b (getH (putH x.readies src.toNat v) v)) v).1 := rdy_small _ _ ⟨h.1, Nat.le_trans (potH_put hs16 v (by simpa using hk)) h.2⟩
      dsimp only
      split
      · exact h2
      · exact h2
  · exact h
def SmallS (st : St) : Prop := ∀ x ∈ st.nodes, SmallN x
theorem small_at {st : St} (h : SmallS st) (i : Nat) : SmallN (ndA st i) := by
  unfold ndA
  by_cases hi : i < st.nodes.length
  · rw [List.getD, List.getElem?_eq_getElem hi]; exact h _ (List.getElem_mem hi)
  · rw [List.getD, List.getElem?_eq_none (by omega)]
    exact small_of (by simp [nd0]) (by simp [nd0])
theorem deliv_small {f b : List S} {n : Nat} {byz : S} {st : St} (h : SmallS st) (k : Nat) : SmallS (deliv f b n byz st k) := by
  intro x hx
  unfold deliv at hx
  dsimp only at hx
  rcases List.mem_or_eq_of_mem_set hx with hx | rfl
  · exact h x hx
  · exact handle_small _ _ _ _ _ (small_at h _)
def honB (byz : S) (x : Nd) : Bool := decide (0 ≤ x.id ∧ x.id < 16) && byz.getLsbD x.id.toNat
def honL (byz : S) (l : List Nd) : List Nd := l.filter fun x => !honB byz x
def delL (byz : S) (l : List Nd) : List Str := ((honL byz l).filter fun x => x.hasD).map fun x => x.delivered
def consB (l : List Str) : Bool := match l with | [] => true | x :: t => (x :: t).all fun y => decide (y = x)
def totB (byz : S) (l : List Nd) : Bool := decide ((delL byz l).length = 0) || decide ((delL byz l).length = (honL byz l).length)
end Go.Proofs.YtijknodekomdfaaGreatDoor
