/- What a slice reads as, for a slice value that is not written out; what of memory a call keeps; sets of servers as bit vectors. Plain laws, no program. -/
import Derived.WalkKit
import Derived.Lib.Hide
import Derived.WalkLawsBesides
import Derived.Deep.QuietTactic
import Derived.BigQuiet
namespace Go.Proofs.YtbiggfbbccpcmaaDoor
open Go.RowKit Go.Lib

/-! ### sets -/
abbrev S := BitVec 16
/-- a set as a number of Go's -/
def sv (x : S) : Int := x.toNat
theorem sv_bound (x : S) : 0 ≤ sv x ∧ sv x < 65536 := by unfold sv; have := x.isLt; omega
theorem sv_inj {x y : S} : sv x = sv y ↔ x = y := by
  unfold sv; constructor
  · intro h; exact BitVec.eq_of_toNat_eq (by omega)
  · rintro rfl; rfl
theorem sv_zero : sv 0#16 = 0 := rfl
theorem sv_lit (n : Nat) (h : n < 65536) : sv (BitVec.ofNat 16 n) = (n : Int) := by
  unfold sv; rw [BitVec.toNat_ofNat, Nat.mod_eq_of_lt (by omega)]
@[go_sem] theorem sv_and (x y : S) : bits .and .u16 (sv x) (sv y) = sv (x &&& y) := by
  unfold sv; rw [u16_and_nat _ _ x.isLt y.isLt]; rfl
@[go_sem] theorem sv_or (x y : S) : bits .or .u16 (sv x) (sv y) = sv (x ||| y) := by
  unfold sv; rw [u16_or_nat _ _ x.isLt y.isLt]; rfl
@[go_sem] theorem sv_andNot (x y : S) : bits .andNot .u16 (sv x) (sv y) = sv (x &&& ~~~y) := by
  unfold sv; rw [u16_andNot_nat _ _ x.isLt y.isLt]; simp
@[go_sem] theorem sv_beq (x y : S) : (sv x == sv y) = (x == y) := by
  rw [Bool.eq_iff_iff]; simp [sv_inj]
@[go_sem] theorem sv_beq0 (x : S) : (sv x == 0) = (x == 0#16) := by rw [← sv_zero, sv_beq]
@[go_sem] theorem sv_bne (x y : S) : (sv x != sv y) = (x != y) := by unfold bne; rw [sv_beq]
@[go_sem] theorem sv_bne0 (x : S) : (sv x != 0) = (x != 0#16) := by unfold bne; rw [sv_beq0]
theorem wrap_sv (n : Int) : IntKind.u16.wrap n = sv (BitVec.ofInt 16 n) := by
  rw [IntKind.wrap_u16]; unfold sv; rw [BitVec.toNat_ofInt]; omega
@[go_sem] theorem sv_shl1 (n : Nat) : IntKind.u16.wrap (2 ^ n) = sv (1#16 <<< n) := by
  rw [IntKind.wrap_u16]; unfold sv
  rw [BitVec.toNat_shiftLeft, Nat.shiftLeft_eq]
  simp
@[go_sem] theorem sv_shl (x : S) (n : Nat) : IntKind.u16.wrap (sv x * 2 ^ n) = sv (x <<< n) := by
  rw [IntKind.wrap_u16]; unfold sv
  rw [BitVec.toNat_shiftLeft, Nat.shiftLeft_eq]
  simp
@[go_sem] theorem sv_shr (x : S) (n : Nat) : sv x / 2 ^ n = sv (x >>> n) := by
  unfold sv
  rw [BitVec.toNat_ushiftRight, Nat.shiftRight_eq_div_pow]
  simp
@[go_sem] theorem sv_sub1 (x : S) : IntKind.u16.wrap (sv x - 1) = sv (x - 1#16) := by
  rw [IntKind.wrap_u16]; unfold sv
  have := x.isLt
  rw [BitVec.toNat_sub]; simp; omega
/-- the set of the first n servers -/
def fullS (n : Nat) : S := (1#16 <<< n) - 1#16
/-- a set as a value -/
def vs (x : S) : Value := .int .u16 (sv x)
/-- a list of sets as cells -/
def sl (l : List S) : List Value := l.map (fun x => .int .u16 (sv x))
def at_ (l : List S) (i : Nat) : S := l.getD i 0#16
@[simp] theorem length_sl (l : List S) : (sl l).length = l.length := by simp [sl]
theorem sl_at (l : List S) (i : Nat) (h : i < l.length) : (sl l)[i]? = some (.int .u16 (sv (at_ l i))) := by simp [sl, at_, h, List.getD]
theorem drop_at (l : List S) (i : Nat) (h : i < l.length) : l.drop i = at_ l i :: l.drop (i + 1) := by
  rw [List.drop_eq_getElem_cons h]; simp [at_, List.getD, h]
theorem take_at (l : List S) (i : Nat) (h : i < l.length) : l.take (i + 1) = l.take i ++ [at_ l i] := by
  rw [List.take_succ_eq_append_getElem h]; simp [at_, List.getD, h]
theorem sl_append (l m : List S) : sl (l ++ m) = sl l ++ sl m := by simp [sl]
theorem sl_drop (l : List S) (i : Nat) : sl (l.drop i) = (sl l).drop i := by simp [sl, List.map_drop]
theorem sl_take (l : List S) (i : Nat) : sl (l.take i) = (sl l).take i := by simp [sl, List.map_take]

/-! ### what a call keeps: all that lay there -/
def Keeps (w w' : World) : Prop := Below w.heap.size w w'
theorem Keeps.refl (w : World) : Keeps w w := Below.refl _ _
theorem Keeps.below {w w' : World} (h : Keeps w w') : Below w.heap.size w w' := h
theorem Keeps.size {w w' : World} (h : Keeps w w') : w.heap.size ≤ w'.heap.size := Below.size h
theorem Keeps.trans {a b c : World} (h : Keeps a b) (k : Keeps b c) : Keeps a c := Below.trans h (Below.mono k h.size)
theorem Keeps.drewN {a b : World} (h : Keeps a b) (n : Nat) : Keeps a (b.drewN n) := by
  have h' : Below a.heap.size a b := h
  exact ⟨h'.os, h'.tape, h'.output, h'.size, h'.block⟩
theorem Keeps.drew {a b : World} (h : Keeps a b) : Keeps a b.drew := Below.drew h
theorem Keeps.alloc {a b : World} (h : Keeps a b) (o : Obj) : Keeps a (b.alloc o) := Below.alloc h h.size o
theorem Keeps.cell {w w' : World} (h : Keeps w w') {p : Addr} {v : Value} (hc : w.cell? p = some v) : w'.cell? p = some v :=
  (Below.cell h (World.block_lt_of_cell? w p hc)).trans hc
theorem Keeps.own {w w' : World} (h : Keeps w w') {B : Nat} {e : TypeId} {sz : Nat} {v : Value} {n : Nat} {xs : List Value} (ho : w.ownsRow B e sz v n xs) : w'.ownsRow B e sz v n xs := by
  refine ⟨ho.1, ?_⟩
  rcases ho.2 with h1 | ⟨g, cap, cur, rfl, hb, hg, r⟩
  · exact .inl h1
  · exact .inr ⟨g, cap, cur, rfl, hb, by rw [Below.block h g (Array.getElem?_eq_some_iff.1 hg).1]; exact hg, r⟩
/-- below a mark -/
theorem Keeps.at {a b c : World} {B : Nat} (h : Below B a b) (k : Keeps b c) (hB : B ≤ b.heap.size) : Below B a c := h.trans (k.below.mono hB)

/-! ### a slice whose address is not written out -/
def adr (a : Option Addr) (j : Nat) : Addr := (a.getD ⟨0, 0, none⟩).add j
def subs (a : Option Addr) (c i s : Nat) : Option Addr := if c = i then a else a.map (·.add (i * s))
theorem add_add (x : Addr) (i j : Nat) : (x.add i).add j = x.add (i + j) := by
  unfold Addr.add
  by_cases hi : i = 0
  · subst hi; simp
  · by_cases hj : j = 0
    · subst hj; simp [hi]
    · simp [hi, hj, Nat.add_assoc]
@[go_sem] theorem adr_add (a : Option Addr) (i j : Nat) : (adr a i).add j = adr a (i + j) := add_add _ _ _
@[go_sem] theorem adr_some (g o k : Nat) : adr (some ⟨g, o, none⟩) k = ⟨g, o + k, none⟩ := Addr.add_lit _ _ _
theorem adr_sub {a : Option Addr} {c i s j : Nat} (h : c ≠ i) (ha : a.isSome = true) : adr (subs a c i s) j = adr a (i * s + j) := by
  obtain ⟨x, rfl⟩ := Option.isSome_iff_exists.1 ha
  simp [adr, subs, h, add_add]
section
variable {P : Program} (w : World)
@[go_sem] theorem run_indexAt_abs (t : TypeId) (a : Option Addr) (len cap : Nat) (k : IntKind) (i : Int) (h : P.underlying t = some (.slice (P.elem t))) (ha : a.isSome = true) :
    (Instr.indexAt t (.slice a len cap) (.int k i)).run P w =
      if 0 ≤ i ∧ i < len then ((sizeOf (P.elem t)).run P w).andThen fun s w => .ok (.pointer (some (adr a (i.toNat * s)))) w
      else (boundsPanic k i len .index).run P w := by
  obtain ⟨x, rfl⟩ := Option.isSome_iff_exists.1 ha
  rw [run_indexAt_slice _ _ _ _ _ _ _ h]; rfl
@[go_sem high] theorem run_slice_l_abs (t : TypeId) (a : Option Addr) (len cap : Nat) (ht : P.underlying t = some (.slice (P.elem t))) (kl : IntKind) (l : Int) (h0 : 0 ≤ l) (h1 : l ≤ len) :
    (Instr.slice t (.slice a len cap) (some (.int kl l)) none none).run P w =
      ((sizeOf (P.elem t)).run P w).andThen fun s w => .ok (.slice (subs a cap l.toNat s) (len - l.toNat) (cap - l.toNat)) w := by
  rw [run_slice_l (ht := ht) (h0 := h0) (h1 := h1)]; rfl
end
/-- The slice reads as these cells. -/
structure Rd (w : World) (a : Option Addr) (n c sz : Nat) (xs : List Value) : Prop where
  len : xs.length = n * sz
  nc : n ≤ c
  cm : c ≤ maxLen
  isSome : 0 < n → a.isSome = true
  cell : ∀ j u, xs[j]? = some u → w.cell? (adr a j) = some u
theorem Rd.keep {w w' : World} {a : Option Addr} {n c sz : Nat} {xs : List Value} (h : Rd w a n c sz xs) (k : Keeps w w') : Rd w' a n c sz xs :=
  ⟨h.len, h.nc, h.cm, h.isSome, fun j u hu => k.cell (h.cell j u hu)⟩
theorem Rd.drop {w : World} {a : Option Addr} {n c sz : Nat} {xs : List Value} (h : Rd w a n c sz xs) {i : Nat} (hi : i ≤ n) : Rd w (subs a c i sz) (n - i) (c - i) sz (xs.drop (i * sz)) := by
  refine ⟨by rw [List.length_drop, h.len, Nat.sub_mul], by have := h.nc; omega, by have := h.cm; omega, fun h0 => ?_, fun j u hu => ?_⟩
  · have := h.isSome (by omega)
    unfold subs
    split
    · exact this
    · simpa using this
  · rw [List.getElem?_drop] at hu
    have hj := (List.getElem?_eq_some_iff.1 hu).1
    rw [h.len] at hj
    have hin : i ≠ n := by
      rintro rfl
      omega
    rw [adr_sub (by have := h.nc; omega) (h.isSome (by omega))]
    exact h.cell _ _ hu
theorem Rd.small {w : World} {a : Option Addr} {n c sz : Nat} {xs : List Value} (h : Rd w a n c sz xs) : n ≤ 9223372036854775807 := by
  have := h.nc; have := h.cm; unfold maxLen at this; omega
theorem own_rd {w : World} {B : Nat} {e : TypeId} {sz : Nat} {v : Value} {n : Nat} {xs : List Value} (h : w.ownsRow B e sz v n xs) : ∃ a c, v = .slice a n c ∧ Rd w a n c sz xs := by
  obtain ⟨h1, h2⟩ := h
  have h0 : w.ownsRow B e sz v n xs := ⟨h1, h2⟩
  rcases h2 with ⟨rfl, rfl⟩ | ⟨g, cap, cur, rfl, hb, hg, hnc, hcm, hcs, htake⟩
  · refine ⟨_, _, rfl, h1, Nat.le_refl _, by decide, fun h => absurd h (by omega), fun j u hu => ?_⟩
    have hx : xs = [] := List.eq_nil_of_length_eq_zero (by simpa using h1)
    subst hx
    simp at hu
  · exact ⟨_, _, rfl, h1, hnc, hcm, fun _ => rfl, fun j u hu => h0.cells rfl j u hu⟩
/-- sets: the cell at an index -/
theorem Rd.at {w : World} {a : Option Addr} {n c : Nat} {l : List S} (h : Rd w a n c 1 (sl l)) {i : Nat} (hi : i < n) : w.cell? (adr a i) = some (.int .u16 (sv (at_ l i))) :=
  h.cell i _ (sl_at l i (by have := h.len; simp at this; omega))
theorem Rd.lenS {w : World} {a : Option Addr} {n c : Nat} {l : List S} (h : Rd w a n c 1 (sl l)) : l.length = n := by have := h.len; simpa using this
theorem at_drop (l : List S) (i j : Nat) : at_ (l.drop i) j = at_ l (i + j) := by simp [at_, List.getD]
theorem Rd.dropS {w : World} {a : Option Addr} {n c : Nat} {l : List S} (h : Rd w a n c 1 (sl l)) {i : Nat} (hi : i ≤ n) : Rd w (subs a c i 1) (n - i) (c - i) 1 (sl (l.drop i)) := by
  have := h.drop hi; rw [Nat.mul_one, ← sl_drop] at this; exact this
theorem Rd.at_sub {w : World} {a : Option Addr} {n c : Nat} {l : List S} (h : Rd w a n c 1 (sl l)) {i j : Nat} (hi : i ≤ n) (hj : j < n - i) : w.cell? (adr (subs a c i 1) j) = some (.int .u16 (sv (at_ l (i + j)))) := by
  rw [← at_drop]; exact (h.dropS hi).at hj
theorem drop_all (l : List S) (n : Nat) (h : l.length ≤ n) : l.drop n = [] := List.drop_eq_nil_iff.2 h
theorem ret_eq {v v' : Value} (h : v = v') : Ending.returned v = Ending.returned v' := by rw [h]
theorem results_4 {fn : Func} {t u v x : Tmp} (h : fn.results = #[.tmp t, .tmp u, .tmp v, .tmp x]) (tmps : Array Value) (P : Program) (w : World) :
    (results fn tmps).run P w = .ok (.tuple #[tmps.getD t undef, tmps.getD u undef, tmps.getD v undef, tmps.getD x undef]) w := by
  simp [results, h]
theorem results_5 {fn : Func} {t u v x y : Tmp} (h : fn.results = #[.tmp t, .tmp u, .tmp v, .tmp x, .tmp y]) (tmps : Array Value) (P : Program) (w : World) :
    (results fn tmps).run P w = .ok (.tuple #[tmps.getD t undef, tmps.getD u undef, tmps.getD v undef, tmps.getD x undef, tmps.getD y undef]) w := by
  simp [results, h]
theorem hrfl {α : Sort _} {a b : α} (h : a = b) : Hid (a = b) := h
theorem dropH {l : List S} {n i : Nat} (L : Hid (l.length = n)) (h : i < n) : l.drop i = at_ l i :: l.drop (i + 1) := drop_at l i (by have := L.out; omega)
theorem dropN {l : List S} {n i : Nat} (L : Hid (l.length = n)) (h : ¬ i < n) : l.drop i = [] := drop_all l i (by have := L.out; omega)
theorem dropH2 {l : List S} {n i j : Nat} (L : Hid (l.length = n)) (h : j < n - i) : l.drop (i + j) = at_ l (i + j) :: l.drop (i + (j + 1)) := drop_at l (i + j) (by have := L.out; omega)
theorem dropN2 {l : List S} {n i j : Nat} (L : Hid (l.length = n)) (h : ¬ j < n - i) : l.drop (i + j) = [] := drop_all l (i + j) (by have := L.out; omega)
theorem takeH {l : List S} {n i : Nat} (L : Hid (l.length = n)) (h : i < n) : l.take (i + 1) = l.take i ++ [at_ l i] := take_at l i (by have := L.out; omega)
theorem takeN {l : List S} {n i : Nat} (L : Hid (l.length = n)) (h : ¬ i < n) : l.take i = l := List.take_of_length_le (by have := L.out; omega)

/-! ### rows of the call's own, and append -/
/-- The row that v heads was made since w0, and all that lay in w0 is kept. -/
def Own (e : TypeId) (sz : Nat) (w0 w : World) (v : Value) (n : Nat) (xs : List Value) : Prop := w.ownsRow w0.heap.size e sz v n xs ∧ Keeps w0 w
theorem Own.nil (e : TypeId) (sz : Nat) {w0 w : World} (h : Keeps w0 w) : Own e sz w0 w (.slice none 0 0) 0 [] := ⟨World.ownsRow_nil _ _ _ _, h⟩
theorem Own.keep {e : TypeId} {sz : Nat} {w0 w w' : World} {v : Value} {n : Nat} {xs : List Value} (h : Own e sz w0 w v n xs) (k : Keeps w w') : Own e sz w0 w' v n xs := ⟨k.own h.1, h.2.trans k⟩
theorem Own.alloc {e : TypeId} {sz : Nat} {w0 w : World} {v : Value} {n : Nat} {xs : List Value} (h : Own e sz w0 w v n xs) (o : Obj) : Own e sz w0 (w.alloc o) v n xs := h.keep ((Keeps.refl w).alloc o)
theorem Own.rd {e : TypeId} {sz : Nat} {w0 w : World} {v : Value} {n : Nat} {xs : List Value} (h : Own e sz w0 w v n xs) : ∃ a c, v = .slice a n c ∧ Rd w a n c sz xs := own_rd h.1
/-- A row that is owned since a later world is owned since an earlier one. -/
theorem Own.since {e : TypeId} {sz : Nat} {w0 w1 w : World} {v : Value} {n : Nat} {xs : List Value} (h : Own e sz w1 w v n xs) (k : Keeps w0 w1) : Own e sz w0 w v n xs := by
  refine ⟨⟨h.1.1, ?_⟩, k.trans h.2⟩
  rcases h.1.2 with h1 | ⟨g, cap, cur, rfl, hb, hg, r⟩
  · exact .inl h1
  · exact .inr ⟨g, cap, cur, rfl, Nat.le_trans k.size hb, hg, r⟩
theorem Own.made {e : TypeId} {sz : Nat} {w0 w : World} (h : Keeps w0 w) (cs : List Value) (n : Nat) (hn : n ≤ maxLen) (hs : cs.length = n * sz) :
    Own e sz w0 (w.alloc (.cells cs.toArray e)) (.slice (some ⟨w.heap.size, 0, none⟩) n n) n cs :=
  ⟨by simpa using World.ownsRow_lit (size := sz) (base := w0.heap.size) (e := e) w cs.toArray n h.size hn (by simpa using hs), h.alloc _⟩
theorem rd_new (e : TypeId) (sz : Nat) (w : World) (cs : List Value) (n : Nat) (hn : n ≤ maxLen) (hs : cs.length = n * sz) : Rd (w.alloc (.cells cs.toArray e)) (some ⟨w.heap.size, 0, none⟩) n n sz cs := by
  obtain ⟨a, c, h1, h2⟩ := (Own.made (e := e) (Keeps.refl w) cs n hn hs).rd
  cases h1
  exact h2
/-- what is known of a slice type and its elements' type -/
structure STy (P : Program) (t e : TypeId) (size bytes : Nat) : Prop where
  u : P.underlying t = some (.slice e)
  info : ∃ i z, P.info? e = some i ∧ i.zero = some z ∧ i.size = size ∧ i.bytes = bytes ∧ z.cells.size = size
  pos : 0 < size
  small : bytes ≤ 1000
theorem STy.of {P : Program} {t e : TypeId} {size bytes : Nat} {z : Value} (u : P.underlying t = some (.slice e)) (h : (P.info? e).map (fun i => (i.zero, i.size, i.bytes)) = some (some z, size, bytes)) (hz : z.cells.size = size) (hp : 0 < size) (hb : bytes ≤ 1000) : STy P t e size bytes := by
  obtain ⟨i, h1, h2, h3, h4⟩ := info_parts h
  exact ⟨u, ⟨i, z, h1, h2, h3, h4, hz⟩, hp, hb⟩
theorem op_app {P : Program} {t e : TypeId} {size bytes : Nat} (T : STy P t e size bytes) {w0 w : World} {o : Oper} {a : Act} {K : Act → World → Prop} {Q : Exit → Act → World → Prop}
    (s x : Operand) (ho : o.op = .call { callee := .builtin .append, args := #[s, x], argTypes := #[t, t] })
    {v : Value} {n : Nat} {xs : List Value} (hO : Own e size w0 w v n xs) (hs : a.eval s = v) {ao : Option Addr} {m c : Nat} {news : List Value} (hx : a.eval x = .slice ao m c) (hr : Rd w ao m c size news)
    (h1 : ∀ u ∈ news, u.oneCell' = true) (hn : n + m ≤ 10000000)
    (h : ∀ v' w', Own e size w0 w' v' (n + m) (xs ++ news) → w.grownBy w' v.ownBlock → K (a.put o.dst v') w') : o.wp P a w K Q := by
  obtain ⟨i, z, i1, i2, i3, i4, i5⟩ := T.info
  have hlt := hO.1.lt
  have hk : ∀ w', w.grownBy w' v.ownBlock → Keeps w0 w' := fun w' hgr => Below.grown hO.2.below hgr hO.2.size (fun k hk => (hlt k hk).1)
  cases ao with
  | some ad =>
    refine wp_append_own w s x t ho w0.heap.size e i z size bytes T.u i1 i2 i3 i4 i5 T.pos v n xs hs hO.1 ad m c news hx hr.len (fun j u hj => hr.cell j u hj) h1 ?_ ?_ hO.2.size ?_
    · unfold maxLen; omega
    · have := T.small
      exact Nat.le_trans (Nat.mul_le_mul hn this) (by decide)
    · intro v' w' hown hgr _
      exact h v' w' ⟨hown, hk w' hgr⟩ hgr
  | none =>
    have hm : m = 0 := by
      rcases Nat.eq_zero_or_pos m with h0 | h0
      · exact h0
      · exact absurd (hr.isSome h0) (by simp)
    subst hm
    have hnews : news = [] := List.eq_nil_of_length_eq_zero (by simpa using hr.len)
    subst hnews
    have hrun : (Builtin.append_ #[t, t] o.type #[v, .slice none 0 c]).run P w = .ok v w := by
      rcases hO.1.2 with ⟨rfl, rfl⟩ | ⟨g, cap, cur, rfl, _, _, hnc, _⟩
      · simp [Builtin.append_, run_underlying T.u, sizeOf, typeInfo, i1, Builtin.lenOf, Builtin.firstCells]
      · simp [Builtin.append_, run_underlying T.u, sizeOf, typeInfo, i1, Builtin.lenOf, Builtin.firstCells, hnc, storeCells]
    unfold Oper.wp
    simp [execOp, ho, resolve, invoke, builtin, hs, hx, hrun, Result.andThen]
    exact h v w (by simpa using hO) (World.grownBy.refl _ _)
theorem wp_app {P : Program} {t e : TypeId} {size bytes : Nat} (T : STy P t e size bytes) {w0 w : World} {ops : Array Oper} {rest : List Oper} {o : Oper} {a : Act} {Q : Exit → Act → World → Prop}
    (hg : o.guard = none) (s x : Operand) (ho : o.op = .call { callee := .builtin .append, args := #[s, x], argTypes := #[t, t] })
    {v : Value} {n : Nat} {xs : List Value} (hO : Own e size w0 w v n xs) (hs : a.eval s = v) {ao : Option Addr} {m c : Nat} {news : List Value} (hx : a.eval x = .slice ao m c) (hr : Rd w ao m c size news)
    (h1 : ∀ u ∈ news, u.oneCell' = true) (hn : n + m ≤ 10000000)
    (h : ∀ v' w', Own e size w0 w' v' (n + m) (xs ++ news) → w.grownBy w' v.ownBlock → wpList P ops Q rest (a.put o.dst v') w') : wpList P ops Q (o :: rest) a w :=
  wpList_plain hg fun _ hK => op_app T s x ho hO hs hx hr h1 hn fun v' w' h2 h3 => hK _ _ (h v' w' h2 h3)
/-- the same inside a region that draws its order -/
theorem step_app {P : Program} {t e : TypeId} {size bytes : Nat} (T : STy P t e size bytes) {w0 w : World} {ops : Array Oper} {o : Oper} {a : Act} {K : Act → World → Prop} {Q : Exit → Act → World → Prop} {E : Prop}
    (hg : o.guard = none) (s x : Operand) (ho : o.op = .call { callee := .builtin .append, args := #[s, x], argTypes := #[t, t] })
    {v : Value} {n : Nat} {xs : List Value} (hO : Own e size w0 w v n xs) (hs : a.eval s = v) {ao : Option Addr} {m c : Nat} {news : List Value} (hx : a.eval x = .slice ao m c) (hr : Rd w ao m c size news)
    (h1 : ∀ u ∈ news, u.oneCell' = true) (hn : n + m ≤ 10000000)
    (h : ∀ v' w', Own e size w0 w' v' (n + m) (xs ++ news) → w.grownBy w' v.ownBlock → K (a.put o.dst v') w') : if Region.wanted o (yielded ops a.tmps) = true then Oper.wp P o a w K Q else E := by
  have hw : Region.wanted o (yielded ops a.tmps) = true := by simp [Region.wanted, hg]
  rw [if_pos hw]
  exact op_app T s x ho hO hs hx hr h1 hn h
theorem sl_oneCell (l : List S) : ∀ u ∈ sl l, u.oneCell' = true := by
  intro u hu
  obtain ⟨_, _, rfl⟩ := List.mem_map.1 hu
  rfl
/-- Behind an append the row that was appended to alone may have been written. -/
theorem Own.other {e e' : TypeId} {sz sz' : Nat} {w0 w w' : World} {v v2 : Value} {n n2 : Nat} {xs xs2 : List Value} (h2 : Own e' sz' w0 w v2 n2 xs2) (hgr : w.grownBy w' v.ownBlock) (hO : Own e sz w0 w' v n xs) (hne : v2.ownBlock = none ∨ v2.ownBlock ≠ v.ownBlock) : Own e' sz' w0 w' v2 n2 xs2 :=
  ⟨h2.1.kept hgr hne, hO.2⟩
theorem Own.snoc {e : TypeId} {w0 w : World} {v : Value} {acc : List S} {x : S} (h : Own e 1 w0 w v (acc.length + 1) (sl acc ++ [.int .u16 (sv x)])) : Own e 1 w0 w v (acc ++ [x]).length (sl (acc ++ [x])) := by
  rw [sl_append, List.length_append]; exact h
/-- a store into a row of the call's own -/
theorem Own.store {e : TypeId} {w0 w : World} {g n cap : Nat} {l : List S} (h : Own e 1 w0 w (.slice (some ⟨g, 0, none⟩) n cap) n (sl l)) (k : Nat) (x : S) :
    Own e 1 w0 (w.setCell ⟨g, k, none⟩ (.int .u16 (sv x))) (.slice (some ⟨g, 0, none⟩) n cap) n (sl (l.set k x)) := by
  have hs := h.1.stored k (.int .u16 (sv x))
  have hb := (h.1.lt g rfl).1
  refine ⟨?_, Below.setCell h.2.below (by exact hb) _⟩
  have e1 : sl (l.set k x) = (sl l).set k (.int .u16 (sv x)) := by simp [sl, List.map_set]
  rw [e1]
  exact hs.1
theorem Own.at {e : TypeId} {w0 w : World} {g n cap : Nat} {l : List S} (h : Own e 1 w0 w (.slice (some ⟨g, 0, none⟩) n cap) n (sl l)) {k : Nat} (hk : k < n) : w.cell? ⟨g, k, none⟩ = some (.int .u16 (sv (at_ l k))) ∧ w.frozen? ⟨g, k, none⟩ = false := by
  have hl : l.length = n := by have := h.1.1; simpa using this
  refine ⟨?_, h.1.frozenAt k⟩
  rw [h.1.cellAt k (by omega), sl_at l k (by omega)]
theorem Own.some {e : TypeId} {sz : Nat} {w0 w : World} {v : Value} {n : Nat} {xs : List Value} (h : Own e sz w0 w v n xs) (hn : 0 < n) : ∃ g cap, v = .slice (some ⟨g, 0, none⟩) n cap ∧ n ≤ cap ∧ cap ≤ maxLen := by
  rcases h.1.2 with ⟨_, h0⟩ | ⟨g, cap, cur, rfl, _, _, h1, h2, _⟩
  · omega
  · exact ⟨g, cap, rfl, h1, h2⟩
end Go.Proofs.YtbiggfbbccpcmaaDoor
