/- Texts joined into one, what is needed of them (a program of ours). -/
import Derived.WalkKit
import Derived.Lib.Hide
import Derived.WalkLawsBesides
import Derived.Deep.QuietTactic
import Derived.BigQuiet
import Derived.Test.YtijknodekomdfaaGreatDoorProg
import Derived.Lib.BitFns
import Derived.Lib.Strings
import Derived.Sort.Grow
import Derived.Lib.SliceRun
import Derived.Shelf.Abstract
namespace Go.Proofs.YtijknodekomdfaaGreatDoor
open Go.RowKit Go.Lib

abbrev S := BitVec 16
/-- a set as a number of Go's -/
def sv (x : S) : Int := x.toNat
theorem sv_bound (x : S) : 0 ≤ sv x ∧ sv x < 65536 := by unfold sv; have := x.isLt; omega
theorem sv_inj {x y : S} : sv x = sv y ↔ x = y := by
  unfold sv; constructor
  · intro h; exact BitVec.eq_of_toNat_eq (by omega)
  · rintro rfl; rfl
theorem sv_zero : sv 0#16 = 0 := rfl
theorem sv_lit (n : Nat) (h : n < 65536) : sv (BitVec.ofNat 16 n) = (n : Int) := by
  unfold sv; rw [BitVec.toNat_ofNat, Nat.mod_eq_of_lt (by omega)]
@[go_sem] theorem sv_and (x y : S) : bits .and .u16 (sv x) (sv y) = sv (x &&& y) := by
  unfold sv; rw [u16_and_nat _ _ x.isLt y.isLt]; rfl
@[go_sem] theorem sv_or (x y : S) : bits .or .u16 (sv x) (sv y) = sv (x ||| y) := by
  unfold sv; rw [u16_or_nat _ _ x.isLt y.isLt]; rfl
@[go_sem] theorem sv_andNot (x y : S) : bits .andNot .u16 (sv x) (sv y) = sv (x &&& ~~~y) := by
  unfold sv; rw [u16_andNot_nat _ _ x.isLt y.isLt]; simp
@[go_sem] theorem sv_beq (x y : S) : (sv x == sv y) = (x == y) := by
  rw [Bool.eq_iff_iff]; simp [sv_inj]
@[go_sem] theorem sv_beq0 (x : S) : (sv x == 0) = (x == 0#16) := by rw [← sv_zero, sv_beq]
@[go_sem] theorem sv_bne (x y : S) : (sv x != sv y) = (x != y) := by unfold bne; rw [sv_beq]
@[go_sem] theorem sv_bne0 (x : S) : (sv x != 0) = (x != 0#16) := by unfold bne; rw [sv_beq0]
@[go_sem] theorem sv_shl1 (n : Nat) : IntKind.u16.wrap (2 ^ n) = sv (1#16 <<< n) := by
  rw [IntKind.wrap_u16]; unfold sv
  rw [BitVec.toNat_shiftLeft, Nat.shiftLeft_eq]
  simp
@[go_sem] theorem sv_shl (x : S) (n : Nat) : IntKind.u16.wrap (sv x * 2 ^ n) = sv (x <<< n) := by
  rw [IntKind.wrap_u16]; unfold sv
  rw [BitVec.toNat_shiftLeft, Nat.shiftLeft_eq]
  simp
@[go_sem] theorem sv_shr (x : S) (n : Nat) : sv x / 2 ^ n = sv (x >>> n) := by
  unfold sv
  rw [BitVec.toNat_ushiftRight, Nat.shiftRight_eq_div_pow]
  simp
@[go_sem] theorem sv_sub1 (x : S) : IntKind.u16.wrap (sv x - 1) = sv (x - 1#16) := by
  rw [IntKind.wrap_u16]; unfold sv
  have := x.isLt
  rw [BitVec.toNat_sub]; simp; omega
/-- the set of the first n servers -/
def fullS (n : Nat) : S := (1#16 <<< n) - 1#16
/-- a set as a value -/
def vs (x : S) : Value := .int .u16 (sv x)
/-- a list of sets as cells -/
def sl (l : List S) : List Value := l.map (fun x => .int .u16 (sv x))
def at_ (l : List S) (i : Nat) : S := l.getD i 0#16
@[simp] theorem length_sl (l : List S) : (sl l).length = l.length := by simp [sl]
theorem sl_at (l : List S) (i : Nat) (h : i < l.length) : (sl l)[i]? = some (.int .u16 (sv (at_ l i))) := by simp [sl, at_, h, List.getD]
theorem drop_at (l : List S) (i : Nat) (h : i < l.length) : l.drop i = at_ l i :: l.drop (i + 1) := by
  rw [List.drop_eq_getElem_cons h]; simp [at_, List.getD, h]
theorem take_at (l : List S) (i : Nat) (h : i < l.length) : l.take (i + 1) = l.take i ++ [at_ l i] := by
  rw [List.take_succ_eq_append_getElem h]; simp [at_, List.getD, h]
theorem sl_append (l m : List S) : sl (l ++ m) = sl l ++ sl m := by simp [sl]
theorem sl_take (l : List S) (i : Nat) : sl (l.take i) = (sl l).take i := by simp [sl, List.map_take]

def Keeps (w w' : World) : Prop := Below w.heap.size w w'
theorem Keeps.refl (w : World) : Keeps w w := Below.refl _ _
theorem Keeps.below {w w' : World} (h : Keeps w w') : Below w.heap.size w w' := h
theorem Keeps.size {w w' : World} (h : Keeps w w') : w.heap.size ≤ w'.heap.size := Below.size h
theorem Keeps.trans {a b c : World} (h : Keeps a b) (k : Keeps b c) : Keeps a c := Below.trans h (Below.mono k h.size)
theorem Keeps.drewN {a b : World} (h : Keeps a b) (n : Nat) : Keeps a (b.drewN n) := by
  have h' : Below a.heap.size a b := h
  exact ⟨h'.os, h'.tape, h'.output, h'.size, h'.block⟩
theorem Keeps.drew {a b : World} (h : Keeps a b) : Keeps a b.drew := Below.drew h
theorem Keeps.alloc {a b : World} (h : Keeps a b) (o : Obj) : Keeps a (b.alloc o) := Below.alloc h h.size o
theorem Keeps.cell {w w' : World} (h : Keeps w w') {p : Addr} {v : Value} (hc : w.cell? p = some v) : w'.cell? p = some v :=
  (Below.cell h (World.block_lt_of_cell? w p hc)).trans hc
theorem Keeps.own {w w' : World} (h : Keeps w w') {B : Nat} {e : TypeId} {sz : Nat} {v : Value} {n : Nat} {xs : List Value} (ho : w.ownsRow B e sz v n xs) : w'.ownsRow B e sz v n xs := by
  refine ⟨ho.1, ?_⟩
  rcases ho.2 with h1 | ⟨g, cap, cur, rfl, hb, hg, r⟩
  · exact .inl h1
  · exact .inr ⟨g, cap, cur, rfl, hb, by rw [Below.block h g (Array.getElem?_eq_some_iff.1 hg).1]; exact hg, r⟩
/-- below a mark -/
theorem Keeps.at {a b c : World} {B : Nat} (h : Below B a b) (k : Keeps b c) (hB : B ≤ b.heap.size) : Below B a c := h.trans (k.below.mono hB)

def adr (a : Option Addr) (j : Nat) : Addr := (a.getD ⟨0, 0, none⟩).add j
def subs (a : Option Addr) (c i s : Nat) : Option Addr := if c = i then a else a.map (·.add (i * s))
theorem add_add (x : Addr) (i j : Nat) : (x.add i).add j = x.add (i + j) := by
  unfold Addr.add
  by_cases hi : i = 0
  · subst hi; simp
  · by_cases hj : j = 0
    · subst hj; simp [hi]
    · simp [hi, hj, Nat.add_assoc]
@[go_sem] theorem adr_add (a : Option Addr) (i j : Nat) : (adr a i).add j = adr a (i + j) := add_add _ _ _
@[go_sem] theorem adr_some (g o k : Nat) : adr (some ⟨g, o, none⟩) k = ⟨g, o + k, none⟩ := Addr.add_lit _ _ _
theorem adr_sub {a : Option Addr} {c i s j : Nat} (h : c ≠ i) (ha : a.isSome = true) : adr (subs a c i s) j = adr a (i * s + j) := by
  obtain ⟨x, rfl⟩ := Option.isSome_iff_exists.1 ha
  simp [adr, subs, h, add_add]
section
variable {P : Program} (w : World)
@[go_sem] theorem run_indexAt_abs (t : TypeId) (a : Option Addr) (len cap : Nat) (k : IntKind) (i : Int) (h : P.underlying t = some (.slice (P.elem t))) (ha : a.isSome = true) :
    (Instr.indexAt t (.slice a len cap) (.int k i)).run P w =
      if 0 ≤ i ∧ i < len then ((sizeOf (P.elem t)).run P w).andThen fun s w => .ok (.pointer (some (adr a (i.toNat * s)))) w
      else (boundsPanic k i len .index).run P w := by
  obtain ⟨x, rfl⟩ := Option.isSome_iff_exists.1 ha
  rw [run_indexAt_slice _ _ _ _ _ _ _ h]; rfl
@[go_sem high] theorem run_slice_l_abs (t : TypeId) (a : Option Addr) (len cap : Nat) (ht : P.underlying t = some (.slice (P.elem t))) (kl : IntKind) (l : Int) (h0 : 0 ≤ l) (h1 : l ≤ len) :
    (Instr.slice t (.slice a len cap) (some (.int kl l)) none none).run P w =
      ((sizeOf (P.elem t)).run P w).andThen fun s w => .ok (.slice (subs a cap l.toNat s) (len - l.toNat) (cap - l.toNat)) w := by
  rw [run_slice_l (ht := ht) (h0 := h0) (h1 := h1)]; rfl
end
/-- The slice reads as these cells. -/
structure Rd (w : World) (a : Option Addr) (n c sz : Nat) (xs : List Value) : Prop where
  len : xs.length = n * sz
  nc : n ≤ c
  cm : c ≤ maxLen
  isSome : 0 < n → a.isSome = true
  cell : ∀ j u, xs[j]? = some u → w.cell? (adr a j) = some u
theorem Rd.keep {w w' : World} {a : Option Addr} {n c sz : Nat} {xs : List Value} (h : Rd w a n c sz xs) (k : Keeps w w') : Rd w' a n c sz xs :=
  ⟨h.len, h.nc, h.cm, h.isSome, fun j u hu => k.cell (h.cell j u hu)⟩
theorem Rd.drop {w : World} {a : Option Addr} {n c sz : Nat} {xs : List Value} (h : Rd w a n c sz xs) {i : Nat} (hi : i ≤ n) : Rd w (subs a c i sz) (n - i) (c - i) sz (xs.drop (i * sz)) := by
  refine ⟨by rw [List.length_drop, h.len, Nat.sub_mul], by have := h.nc; omega, by have := h.cm; omega, fun h0 => ?_, fun j u hu => ?_⟩
  · have := h.isSome (by omega)
    unfold subs
    split
    · exact this
    · simpa using this
  · rw [List.getElem?_drop] at hu
    have hj := (List.getElem?_eq_some_iff.1 hu).1
    rw [h.len] at hj
    have hin : i ≠ n := by
      rintro rfl
      omega
    rw [adr_sub (by have := h.nc; omega) (h.isSome (by omega))]
    exact h.cell _ _ hu
theorem Rd.small {w : World} {a : Option Addr} {n c sz : Nat} {xs : List Value} (h : Rd w a n c sz xs) : n ≤ 9223372036854775807 := by
  have := h.nc; have := h.cm; unfold maxLen at this; omega
theorem own_rd {w : World} {B : Nat} {e : TypeId} {sz : Nat} {v : Value} {n : Nat} {xs : List Value} (h : w.ownsRow B e sz v n xs) : ∃ a c, v = .slice a n c ∧ Rd w a n c sz xs := by
  obtain ⟨h1, h2⟩ := h
  have h0 : w.ownsRow B e sz v n xs := ⟨h1, h2⟩
  rcases h2 with ⟨rfl, rfl⟩ | ⟨g, cap, cur, rfl, hb, hg, hnc, hcm, hcs, htake⟩
  · refine ⟨_, _, rfl, h1, Nat.le_refl _, by decide, fun h => absurd h (by omega), fun j u hu => ?_⟩
    have hx : xs = [] := List.eq_nil_of_length_eq_zero (by simpa using h1)
    subst hx
    simp at hu
  · exact ⟨_, _, rfl, h1, hnc, hcm, fun _ => rfl, fun j u hu => h0.cells rfl j u hu⟩
/-- sets: the cell at an index -/
theorem Rd.at {w : World} {a : Option Addr} {n c : Nat} {l : List S} (h : Rd w a n c 1 (sl l)) {i : Nat} (hi : i < n) : w.cell? (adr a i) = some (.int .u16 (sv (at_ l i))) :=
  h.cell i _ (sl_at l i (by have := h.len; simp at this; omega))
theorem Rd.lenS {w : World} {a : Option Addr} {n c : Nat} {l : List S} (h : Rd w a n c 1 (sl l)) : l.length = n := by have := h.len; simpa using this
theorem drop_all (l : List S) (n : Nat) (h : l.length ≤ n) : l.drop n = [] := List.drop_eq_nil_iff.2 h
theorem ret_eq {v v' : Value} (h : v = v') : Ending.returned v = Ending.returned v' := by rw [h]
theorem hrfl {α : Sort _} {a b : α} (h : a = b) : Hid (a = b) := h
theorem dropH {l : List S} {n i : Nat} (L : Hid (l.length = n)) (h : i < n) : l.drop i = at_ l i :: l.drop (i + 1) := drop_at l i (by have := L.out; omega)
theorem dropN {l : List S} {n i : Nat} (L : Hid (l.length = n)) (h : ¬ i < n) : l.drop i = [] := drop_all l i (by have := L.out; omega)
theorem takeH {l : List S} {n i : Nat} (L : Hid (l.length = n)) (h : i < n) : l.take (i + 1) = l.take i ++ [at_ l i] := take_at l i (by have := L.out; omega)
/-- The row that v heads was made since w0, and all that lay in w0 is kept. -/
def Own (e : TypeId) (sz : Nat) (w0 w : World) (v : Value) (n : Nat) (xs : List Value) : Prop := w.ownsRow w0.heap.size e sz v n xs ∧ Keeps w0 w
theorem Own.nil (e : TypeId) (sz : Nat) {w0 w : World} (h : Keeps w0 w) : Own e sz w0 w (.slice none 0 0) 0 [] := ⟨World.ownsRow_nil _ _ _ _, h⟩
theorem Own.keep {e : TypeId} {sz : Nat} {w0 w w' : World} {v : Value} {n : Nat} {xs : List Value} (h : Own e sz w0 w v n xs) (k : Keeps w w') : Own e sz w0 w' v n xs := ⟨k.own h.1, h.2.trans k⟩
theorem Own.alloc {e : TypeId} {sz : Nat} {w0 w : World} {v : Value} {n : Nat} {xs : List Value} (h : Own e sz w0 w v n xs) (o : Obj) : Own e sz w0 (w.alloc o) v n xs := h.keep ((Keeps.refl w).alloc o)
theorem Own.rd {e : TypeId} {sz : Nat} {w0 w : World} {v : Value} {n : Nat} {xs : List Value} (h : Own e sz w0 w v n xs) : ∃ a c, v = .slice a n c ∧ Rd w a n c sz xs := own_rd h.1
/-- A row that is owned since a later world is owned since an earlier one. -/
theorem Own.since {e : TypeId} {sz : Nat} {w0 w1 w : World} {v : Value} {n : Nat} {xs : List Value} (h : Own e sz w1 w v n xs) (k : Keeps w0 w1) : Own e sz w0 w v n xs := by
  refine ⟨⟨h.1.1, ?_⟩, k.trans h.2⟩
  rcases h.1.2 with h1 | ⟨g, cap, cur, rfl, hb, hg, r⟩
  · exact .inl h1
  · exact .inr ⟨g, cap, cur, rfl, Nat.le_trans k.size hb, hg, r⟩
theorem Own.made {e : TypeId} {sz : Nat} {w0 w : World} (h : Keeps w0 w) (cs : List Value) (n : Nat) (hn : n ≤ maxLen) (hs : cs.length = n * sz) :
    Own e sz w0 (w.alloc (.cells cs.toArray e)) (.slice (some ⟨w.heap.size, 0, none⟩) n n) n cs :=
  ⟨by simpa using World.ownsRow_lit (size := sz) (base := w0.heap.size) (e := e) w cs.toArray n h.size hn (by simpa using hs), h.alloc _⟩
theorem rd_new (e : TypeId) (sz : Nat) (w : World) (cs : List Value) (n : Nat) (hn : n ≤ maxLen) (hs : cs.length = n * sz) : Rd (w.alloc (.cells cs.toArray e)) (some ⟨w.heap.size, 0, none⟩) n n sz cs := by
  obtain ⟨a, c, h1, h2⟩ := (Own.made (e := e) (Keeps.refl w) cs n hn hs).rd
  cases h1
  exact h2
/-- what is known of a slice type and its elements' type -/
structure STy (P : Program) (t e : TypeId) (size bytes : Nat) : Prop where
  u : P.underlying t = some (.slice e)
  info : ∃ i z, P.info? e = some i ∧ i.zero = some z ∧ i.size = size ∧ i.bytes = bytes ∧ z.cells.size = size
  pos : 0 < size
  small : bytes ≤ 1000
theorem STy.of {P : Program} {t e : TypeId} {size bytes : Nat} {z : Value} (u : P.underlying t = some (.slice e)) (h : (P.info? e).map (fun i => (i.zero, i.size, i.bytes)) = some (some z, size, bytes)) (hz : z.cells.size = size) (hp : 0 < size) (hb : bytes ≤ 1000) : STy P t e size bytes := by
  obtain ⟨i, h1, h2, h3, h4⟩ := info_parts h
  exact ⟨u, ⟨i, z, h1, h2, h3, h4, hz⟩, hp, hb⟩
theorem op_app {P : Program} {t e : TypeId} {size bytes : Nat} (T : STy P t e size bytes) {w0 w : World} {o : Oper} {a : Act} {K : Act → World → Prop} {Q : Exit → Act → World → Prop}
    (s x : Operand) (ho : o.op = .call { callee := .builtin .append, args := #[s, x], argTypes := #[t, t] })
    {v : Value} {n : Nat} {xs : List Value} (hO : Own e size w0 w v n xs) (hs : a.eval s = v) {ao : Option Addr} {m c : Nat} {news : List Value} (hx : a.eval x = .slice ao m c) (hr : Rd w ao m c size news)
    (h1 : ∀ u ∈ news, u.oneCell' = true) (hn : n + m ≤ 10000000)
    (h : ∀ v' w', Own e size w0 w' v' (n + m) (xs ++ news) → w.grownBy w' v.ownBlock → K (a.put o.dst v') w') : o.wp P a w K Q := by
  obtain ⟨i, z, i1, i2, i3, i4, i5⟩ := T.info
  have hlt := hO.1.lt
  have hk : ∀ w', w.grownBy w' v.ownBlock → Keeps w0 w' := fun w' hgr => Below.grown hO.2.below hgr hO.2.size (fun k hk => (hlt k hk).1)
  cases ao with
  | some ad =>
    refine wp_append_own w s x t ho w0.heap.size e i z size bytes T.u i1 i2 i3 i4 i5 T.pos v n xs hs hO.1 ad m c news hx hr.len (fun j u hj => hr.cell j u hj) h1 ?_ ?_ hO.2.size ?_
    · unfold maxLen; omega
    · have := T.small
      exact Nat.le_trans (Nat.mul_le_mul hn this) (by decide)
    · intro v' w' hown hgr _
      exact h v' w' ⟨hown, hk w' hgr⟩ hgr
  | none =>
    have hm : m = 0 := by
      rcases Nat.eq_zero_or_pos m with h0 | h0
      · exact h0
      · exact absurd (hr.isSome h0) (by simp)
    subst hm
    have hnews : news = [] := List.eq_nil_of_length_eq_zero (by simpa using hr.len)
    subst hnews
    have hrun : (Builtin.append_ #[t, t] o.type #[v, .slice none 0 c]).run P w = .ok v w := by
      rcases hO.1.2 with ⟨rfl, rfl⟩ | ⟨g, cap, cur, rfl, _, _, hnc, _⟩
      · simp [Builtin.append_, run_underlying T.u, sizeOf, typeInfo, i1, Builtin.lenOf, Builtin.firstCells]
      · simp [Builtin.append_, run_underlying T.u, sizeOf, typeInfo, i1, Builtin.lenOf, Builtin.firstCells, hnc, storeCells]
    unfold Oper.wp
    simp [execOp, ho, resolve, invoke, builtin, hs, hx, hrun, Result.andThen]
    exact h v w (by simpa using hO) (World.grownBy.refl _ _)
theorem wp_app {P : Program} {t e : TypeId} {size bytes : Nat} (T : STy P t e size bytes) {w0 w : World} {ops : Array Oper} {rest : List Oper} {o : Oper} {a : Act} {Q : Exit → Act → World → Prop}
    (hg : o.guard = none) (s x : Operand) (ho : o.op = .call { callee := .builtin .append, args := #[s, x], argTypes := #[t, t] })
    {v : Value} {n : Nat} {xs : List Value} (hO : Own e size w0 w v n xs) (hs : a.eval s = v) {ao : Option Addr} {m c : Nat} {news : List Value} (hx : a.eval x = .slice ao m c) (hr : Rd w ao m c size news)
    (h1 : ∀ u ∈ news, u.oneCell' = true) (hn : n + m ≤ 10000000)
    (h : ∀ v' w', Own e size w0 w' v' (n + m) (xs ++ news) → w.grownBy w' v.ownBlock → wpList P ops Q rest (a.put o.dst v') w') : wpList P ops Q (o :: rest) a w :=
  wpList_plain hg fun _ hK => op_app T s x ho hO hs hx hr h1 hn fun v' w' h2 h3 => hK _ _ (h v' w' h2 h3)
/-- the same inside a region that draws its order -/
theorem step_app {P : Program} {t e : TypeId} {size bytes : Nat} (T : STy P t e size bytes) {w0 w : World} {ops : Array Oper} {o : Oper} {a : Act} {K : Act → World → Prop} {Q : Exit → Act → World → Prop} {E : Prop}
    (hg : o.guard = none) (s x : Operand) (ho : o.op = .call { callee := .builtin .append, args := #[s, x], argTypes := #[t, t] })
    {v : Value} {n : Nat} {xs : List Value} (hO : Own e size w0 w v n xs) (hs : a.eval s = v) {ao : Option Addr} {m c : Nat} {news : List Value} (hx : a.eval x = .slice ao m c) (hr : Rd w ao m c size news)
    (h1 : ∀ u ∈ news, u.oneCell' = true) (hn : n + m ≤ 10000000)
    (h : ∀ v' w', Own e size w0 w' v' (n + m) (xs ++ news) → w.grownBy w' v.ownBlock → K (a.put o.dst v') w') : if Region.wanted o (yielded ops a.tmps) = true then Oper.wp P o a w K Q else E := by
  have hw : Region.wanted o (yielded ops a.tmps) = true := by simp [Region.wanted, hg]
  rw [if_pos hw]
  exact op_app T s x ho hO hs hx hr h1 hn h
theorem sl_oneCell (l : List S) : ∀ u ∈ sl l, u.oneCell' = true := by
  intro u hu
  obtain ⟨_, _, rfl⟩ := List.mem_map.1 hu
  rfl
/-- Behind an append the row that was appended to alone may have been written. -/
theorem Own.other {e e' : TypeId} {sz sz' : Nat} {w0 w w' : World} {v v2 : Value} {n n2 : Nat} {xs xs2 : List Value} (h2 : Own e' sz' w0 w v2 n2 xs2) (hgr : w.grownBy w' v.ownBlock) (hO : Own e sz w0 w' v n xs) (hne : v2.ownBlock = none ∨ v2.ownBlock ≠ v.ownBlock) : Own e' sz' w0 w' v2 n2 xs2 :=
  ⟨h2.1.kept hgr hne, hO.2⟩
theorem Own.snoc {e : TypeId} {w0 w : World} {v : Value} {acc : List S} {x : S} (h : Own e 1 w0 w v (acc.length + 1) (sl acc ++ [.int .u16 (sv x)])) : Own e 1 w0 w v (acc ++ [x]).length (sl (acc ++ [x])) := by
  rw [sl_append, List.length_append]; exact h
/-- a store into a row of the call's own -/
theorem Own.store {e : TypeId} {w0 w : World} {g n cap : Nat} {l : List S} (h : Own e 1 w0 w (.slice (some ⟨g, 0, none⟩) n cap) n (sl l)) (k : Nat) (x : S) :
    Own e 1 w0 (w.setCell ⟨g, k, none⟩ (.int .u16 (sv x))) (.slice (some ⟨g, 0, none⟩) n cap) n (sl (l.set k x)) := by
  have hs := h.1.stored k (.int .u16 (sv x))
  have hb := (h.1.lt g rfl).1
  refine ⟨?_, Below.setCell h.2.below (by exact hb) _⟩
  have e1 : sl (l.set k x) = (sl l).set k (.int .u16 (sv x)) := by simp [sl, List.map_set]
  rw [e1]
  exact hs.1
theorem Own.at {e : TypeId} {w0 w : World} {g n cap : Nat} {l : List S} (h : Own e 1 w0 w (.slice (some ⟨g, 0, none⟩) n cap) n (sl l)) {k : Nat} (hk : k < n) : w.cell? ⟨g, k, none⟩ = some (.int .u16 (sv (at_ l k))) ∧ w.frozen? ⟨g, k, none⟩ = false := by
  have hl : l.length = n := by have := h.1.1; simpa using this
  refine ⟨?_, h.1.frozenAt k⟩
  rw [h.1.cellAt k (by omega), sl_at l k (by omega)]
theorem Own.some {e : TypeId} {sz : Nat} {w0 w : World} {v : Value} {n : Nat} {xs : List Value} (h : Own e sz w0 w v n xs) (hn : 0 < n) : ∃ g cap, v = .slice (some ⟨g, 0, none⟩) n cap ∧ n ≤ cap ∧ cap ≤ maxLen := by
  rcases h.1.2 with ⟨_, h0⟩ | ⟨g, cap, cur, rfl, _, _, h1, h2, _⟩
  · omega
  · exact ⟨g, cap, rfl, h1, h2⟩
end Go.Proofs.YtijknodekomdfaaGreatDoor
namespace Go.Proofs.YtijknodekomdfaaGreatDoor
open Go.RowKit Go.Lib

@[go_sem] theorem sv_and_255 (x : S) : bits .and .u16 (sv x) 255 = sv x % 256 := by
  have : (255 : Int) = sv 255#16 := rfl
  rw [this, sv_and]; unfold sv
  rw [BitVec.toNat_and]
  have := Nat.and_two_pow_sub_one_eq_mod x.toNat 8
  simp at this ⊢; omega
@[go_sem] theorem sv_and_1 (x : S) : bits .and .u16 (sv x) 1 = sv (x &&& 1#16) := by
  have : (1 : Int) = sv 1#16 := rfl
  rw [this, sv_and]
/-- the first n bits' number -/
def cntTo (x : S) : Nat → Nat
  | 0 => 0
  | n + 1 => cntTo x n + (x.toNat >>> n) % 2
/-- the number of servers of a set -/
def cnt (x : S) : Nat := cntTo x 16
theorem cntTo_le (x : S) (n : Nat) : cntTo x n ≤ n := by
  induction n with
  | zero => exact Nat.le_refl _
  | succ n ih => unfold cntTo; omega
theorem cnt_le (x : S) : cnt x ≤ 16 := cntTo_le x 16
def bits8 (n : Nat) : Nat := n % 2 + n / 2 % 2 + n / 4 % 2 + n / 8 % 2 + n / 16 % 2 + n / 32 % 2 + n / 64 % 2 + n / 128 % 2
theorem pop8_bits : ∀ n : Fin 256, pop8 (n.val : Int) = (bits8 n.val : Int) := by decide +kernel
theorem pop8_at (i : Int) (h0 : 0 ≤ i) (h1 : i ≤ 255) : pop8 i = (bits8 i.toNat : Int) := by
  have := pop8_bits ⟨i.toNat, by omega⟩
  simp only [Int.toNat_of_nonneg h0] at this
  exact this
theorem bits8_lo (n : Nat) : bits8 (n % 256) = bits8 n := by
  unfold bits8
  have l0 : n % 256 % 2 = n % 2 := by omega
  have l1 : n % 256 / 2 % 2 = n / 2 % 2 := by omega
  have l2 : n % 256 / 4 % 2 = n / 4 % 2 := by omega
  have l3 : n % 256 / 8 % 2 = n / 8 % 2 := by omega
  have l4 : n % 256 / 16 % 2 = n / 16 % 2 := by omega
  have l5 : n % 256 / 32 % 2 = n / 32 % 2 := by omega
  have l6 : n % 256 / 64 % 2 = n / 64 % 2 := by omega
  have l7 : n % 256 / 128 % 2 = n / 128 % 2 := by omega
  rw [l0, l1, l2, l3, l4, l5, l6, l7]
theorem bits8_hi (n : Nat) : bits8 (n / 256) = n / 256 % 2 + n / 512 % 2 + n / 1024 % 2 + n / 2048 % 2 + n / 4096 % 2 + n / 8192 % 2 + n / 16384 % 2 + n / 32768 % 2 := by
  unfold bits8
  have u1 : n / 256 / 2 = n / 512 := by rw [Nat.div_div_eq_div_mul]
  have u2 : n / 256 / 4 = n / 1024 := by rw [Nat.div_div_eq_div_mul]
  have u3 : n / 256 / 8 = n / 2048 := by rw [Nat.div_div_eq_div_mul]
  have u4 : n / 256 / 16 = n / 4096 := by rw [Nat.div_div_eq_div_mul]
  have u5 : n / 256 / 32 = n / 8192 := by rw [Nat.div_div_eq_div_mul]
  have u6 : n / 256 / 64 = n / 16384 := by rw [Nat.div_div_eq_div_mul]
  have u7 : n / 256 / 128 = n / 32768 := by rw [Nat.div_div_eq_div_mul]
  rw [u1, u2, u3, u4, u5, u6, u7]
theorem cnt_bytes (x : S) : cnt x = bits8 (x.toNat / 256) + bits8 (x.toNat % 256) := by
  rw [bits8_lo, bits8_hi, Nat.add_comm]
  unfold bits8 cnt
  simp only [cntTo, Nat.shiftRight_eq_div_pow, Nat.reducePow, Nat.zero_add, Nat.div_one]
  generalize x.toNat = n
  simp only [Nat.add_assoc]
theorem pop_sum (x : S) : pop8 (sv x / 256) + pop8 (sv x % 256) = (cnt x : Int) := by
  have hb := sv_bound x
  rw [pop8_at _ (by omega) (by omega), pop8_at _ (by omega) (by omega), cnt_bytes]
  have e1 : (sv x / 256).toNat = x.toNat / 256 := by unfold sv; omega
  have e2 : (sv x % 256).toNat = x.toNat % 256 := by unfold sv; omega
  rw [e1, e2]; omega

set_option maxHeartbeats 1000000 in
theorem onesCount_any (x : S) (w : World) : Calls Tryz.prog 180 #[.int .u16 (sv x)] w fun e w' => e = .returned (.int .i64 (cnt x)) ∧ ∃ n, w' = w.drewN n := by
  have hb := sv_bound x
  have h1 : 0 ≤ sv x := hb.1
  have h2 : sv x < 65536 := hb.2
  have h3 : 0 ≤ sv x / 256 := by omega
  have h4 : sv x / 256 ≤ 255 := by omega
  have h5 : 0 ≤ sv x % 256 := by omega
  have h6 : sv x % 256 ≤ 255 := by omega
  clear hb
  have hs := Lib.hid (pop_sum x)
  have hc := cnt_le x
  go_enter Tryz.func180, Tryz.ntmps180
  go_wp2
  go_quiet (fail)
  go_wp2
  go_ret
  refine ⟨ret_eq ?_, _, rfl⟩
  have e := hs.out
  simp
  omega

theorem count_any (x : S) (w : World) : Calls Tryz.prog 108 #[.int .u16 (sv x)] w fun e w' => e = .returned (.int .i64 (cnt x)) ∧ ∃ n, w' = w.drewN n := by
  have hc := Lib.hid (onesCount_any x w)
  go_enter Tryz.func108, Tryz.ntmps108
  go_wp2_with (go_at_call 180; refine hc.out.mono ?_; rintro e w' ⟨rfl, n, rfl⟩)
  go_ret
  exact ⟨rfl, n, rfl⟩

theorem sv_bit (x : S) (k : Nat) : sv ((x >>> k) &&& 1#16) = (((x.toNat >>> k) % 2 : Nat) : Int) := by
  unfold sv
  rw [BitVec.toNat_and, BitVec.toNat_ushiftRight]
  simp [Nat.and_one_is_mod]

set_option maxHeartbeats 400000 in
theorem refSize_any (x : S) (w : World) : Calls Tryz.prog 36 #[.int .u16 (sv x)] w fun e w' => e = .returned (.int .i64 (cnt x)) ∧ w = w' := by
  go_enter Tryz.func36, Tryz.ntmps36
  go_wp2
  go_loop [3, 4] (fun n i => ∃ k : Nat, k ≤ 16 ∧ i = .int .i64 k ∧ n = .int .i64 (cntTo x k)) (fun _ i => 16 - (RowKit.intOf i).toNat)
  case atStart => exact ⟨0, Nat.zero_le _, rfl, rfl⟩
  case round =>
    obtain ⟨k, hk, rfl, rfl⟩ := hrel
    have hl := cntTo_le x k
    by_cases hlt : k < 16
    · have hb := sv_bit x k
      have b0 : 0 ≤ sv ((x >>> k) &&& 1#16) := by rw [hb]; omega
      have b1 : sv ((x >>> k) &&& 1#16) ≤ 1 := by rw [hb]; omega
      have HB := Lib.hid hb; clear hb
      go_wp2
      go_round
      case rel => exact ⟨k + 1, by omega, by go_num, by rw [HB.out, cntTo]; go_num⟩
      case measure => simp [RowKit.intOf]; omega
    · go_wp2
      go_ret
      obtain rfl : k = 16 := by omega
      exact ⟨rfl, rfl⟩
end Go.Proofs.YtijknodekomdfaaGreatDoor
namespace Go.Proofs.YtijknodekomdfaaGreatDoor
open Go.RowKit Go.Lib

def cmpI (x y : Int) : Int := if x < y then -1 else if y < x then 1 else 0
/-- by size, then by number -/
def cmpS (x y : S) : Int := if cnt x = cnt y then cmpI (sv x) (sv y) else cmpI (cnt x) (cnt y)

theorem cmpInt_any (x y : Int) (w : World) : Calls Tryz.prog 107 #[.int .i64 x, .int .i64 y] w fun e w' => e = .returned (.int .i64 (cmpI x y)) ∧ w = w' := by
  have hx : (x != x) = false := by simp
  have hy : (y != y) = false := by simp
  by_cases h1 : x < y
  · have e : cmpI x y = -1 := if_pos h1
    rw [e]; clear e
    go_enter Tryz.func107, Tryz.ntmps107
    go_wp2
    go_ret
    exact ⟨rfl, rfl⟩
  · by_cases h2 : y < x
    · have e : cmpI x y = 1 := by unfold cmpI; rw [if_neg h1, if_pos h2]
      rw [e]; clear e
      go_enter Tryz.func107, Tryz.ntmps107
      go_wp2
      go_ret
      exact ⟨rfl, rfl⟩
    · have e : cmpI x y = 0 := by unfold cmpI; rw [if_neg h1, if_neg h2]
      rw [e]; clear e
      go_enter Tryz.func107, Tryz.ntmps107
      go_wp2
      go_ret
      exact ⟨rfl, rfl⟩

theorem cmpSet_any (x y : Int) (w : World) : Calls Tryz.prog 109 #[.int .u16 x, .int .u16 y] w fun e w' => e = .returned (.int .i64 (cmpI x y)) ∧ w = w' := by
  have hx : (x != x) = false := by simp
  have hy : (y != y) = false := by simp
  by_cases h1 : x < y
  · have e : cmpI x y = -1 := if_pos h1
    rw [e]; clear e
    go_enter Tryz.func109, Tryz.ntmps109
    go_wp2
    go_ret
    exact ⟨rfl, rfl⟩
  · by_cases h2 : y < x
    · have e : cmpI x y = 1 := by unfold cmpI; rw [if_neg h1, if_pos h2]
      rw [e]; clear e
      go_enter Tryz.func109, Tryz.ntmps109
      go_wp2
      go_ret
      exact ⟨rfl, rfl⟩
    · have e : cmpI x y = 0 := by unfold cmpI; rw [if_neg h1, if_neg h2]
      rw [e]; clear e
      go_enter Tryz.func109, Tryz.ntmps109
      go_wp2
      go_ret
      exact ⟨rfl, rfl⟩

/-- the first number that is not 0 -/
def orL : List Int → Int
  | [] => 0
  | x :: xs => if x != 0 then x else orL xs
def ints (l : List Int) : List Value := l.map (Value.int .i64)
theorem Rd.atI {w : World} {a : Option Addr} {n c : Nat} {l : List Int} (h : Rd w a n c 1 (ints l)) {i : Nat} (hi : i < n) : w.cell? (adr a i) = some (.int .i64 (l.getD i 0)) := by
  have hl := h.len
  simp [ints] at hl
  exact h.cell i _ (by simp [ints, List.getD, show i < l.length by omega])

set_option maxHeartbeats 400000 in
theorem or_any (a : Option Addr) (n c : Nat) (l : List Int) (w : World) (h : Rd w a n c 1 (ints l)) :
    Calls Tryz.prog 106 #[.slice a n c] w fun e w' => e = .returned (.int .i64 (orL l)) ∧ w = w' := by
  have s1 := h.small
  have hl := h.len
  simp only [ints, List.length_map, Nat.mul_one] at hl
  have hstep : ∀ k, k < n → l.drop k = l.getD k 0 :: l.drop (k + 1) := fun k hk => by
    rw [List.drop_eq_getElem_cons (by omega : k < l.length)]; simp [List.getD, show k < l.length by omega]
  have HS := Lib.hid hstep; have HL := Lib.hid hl; clear hstep hl
  go_enter Tryz.func106, Tryz.ntmps106
  go_wp2
  go_loop [8] (fun v => ∃ k : Nat, k ≤ n ∧ v = .int .i64 k ∧ Hid (orL l = orL (l.drop k))) (fun v => n - (RowKit.intOf v).toNat)
  case atStart => exact ⟨0, Nat.zero_le _, rfl, rfl⟩
  case round =>
    obtain ⟨k, hk, rfl, HI⟩ := hrel
    by_cases hlt : k < n
    · have hc := h.atI hlt
      have ha := h.isSome (by omega)
      have hd := HS.out k hlt
      generalize l.getD k 0 = x at hc hd
      have HD := Lib.hid hd; clear hd
      cases hq : (x != 0) with
      | true =>
        have HQ : Hid ((x != 0) = true) := hq
        go_wp2
        go_ret
        exact ⟨ret_eq (by rw [HI.out, HD.out, orL, HQ.out]; rfl), rfl⟩
      | false =>
        have HQ : Hid ((x != 0) = false) := hq
        go_wp2
        go_round
        case rel => exact ⟨k + 1, by omega, by go_num, hrfl <| by rw [HI.out, HD.out, orL, HQ.out]; rfl⟩
        case measure => simp [RowKit.intOf]; omega
    · go_wp2
      go_ret
      exact ⟨ret_eq (by rw [HI.out, List.drop_eq_nil_iff.2 (by have := HL.out; omega)]; rfl), rfl⟩

theorem cmpI_zero (x y : Int) : cmpI x y = 0 ↔ x = y := by unfold cmpI; split <;> (try split) <;> omega
theorem cmpS_eq (x y : S) : cmpS x y = orL [cmpI (cnt x) (cnt y), cmpI (sv x) (sv y)] := by
  have orl : ∀ p q : Int, orL [p, q] = if p = 0 then q else p := fun p q => by
    unfold orL orL orL
    by_cases hp : p = 0
    · subst hp
      by_cases hq : q = 0
      · subst hq; rfl
      · simp [hq]
    · simp [hp]
  rw [orl]
  unfold cmpS
  by_cases h : cnt x = cnt y
  · rw [if_pos h, if_pos ((cmpI_zero _ _).2 (by rw [h]))]
  · rw [if_neg h, if_neg (fun e => h (by have := (cmpI_zero _ _).1 e; omega))]

set_option maxHeartbeats 400000 in
theorem compare_grown (x y : S) (w : World) : Calls Tryz.prog 44 #[.int .u16 (sv x), .int .u16 (sv y)] w fun e w' => e = .returned (.int .i64 (cmpS x y)) ∧ ∃ q os, w' = Sort.grow (w.drewN q) os := by
  rw [cmpS_eq]
  have c1 := fun W => count_any x W
  have c2 := fun W => count_any y W
  have d1 := fun W => cmpInt_any (cnt x) (cnt y) W
  have d2 := fun W => cmpSet_any (sv x) (sv y) W
  generalize cmpI (cnt x) (cnt y) = p at d1 ⊢
  generalize cmpI (sv x) (sv y) = q at d2 ⊢
  have C1 := Lib.hid c1; have C2 := Lib.hid c2; have D1 := Lib.hid d1; have D2 := Lib.hid d2
  clear c1 c2 d1 d2
  go_enter Tryz.func44, Tryz.ntmps44
  go_wp2_with fail
  refine (C1.out _).mono ?_
  rintro e w' ⟨rfl, n1, rfl⟩
  go_wp2_with fail
  refine (C2.out _).mono ?_
  rintro e w' ⟨rfl, n2, rfl⟩
  go_wp2_with fail
  refine (D1.out _).mono ?_
  rintro e w' ⟨rfl, rfl⟩
  go_wp2_with fail
  refine (D2.out _).mono ?_
  rintro e w' ⟨rfl, rfl⟩
  go_wp2_with fail
  refine (or_any _ 2 2 [p, q] _ (rd_new _ 1 _ [.int .i64 p, .int .i64 q] 2 (by decide) rfl)).mono ?_
  rintro e w' ⟨rfl, rfl⟩
  go_wp2_with fail
  go_ret
  exact ⟨rfl, _, _, Sort.alloc_eq_grow _ _⟩
theorem Keeps.grow {a b : World} (h : Keeps a b) (os : Array Obj) : Keeps a (Sort.grow b os) := by
  refine ⟨h.below.os, h.below.tape, h.below.output, ?_, fun i hi => ?_⟩
  · have := h.size; simp; omega
  · have hs := h.size
    show (b.heap ++ os)[i]? = _
    rw [Array.getElem?_append_left (by omega)]
    exact h.below.block i hi
theorem compare_any (x y : S) (w : World) : Calls Tryz.prog 44 #[.int .u16 (sv x), .int .u16 (sv y)] w fun e w' => e = .returned (.int .i64 (cmpS x y)) ∧ Keeps w w' :=
  (compare_grown x y w).mono fun _ _ ⟨he, q, os, hw⟩ => ⟨he, hw ▸ ((Keeps.refl w).drewN q).grow os⟩
end Go.Proofs.YtijknodekomdfaaGreatDoor
namespace Go.Proofs.YtijknodekomdfaaGreatDoor
open Go.RowKit Go.Lib Go.Shelf

theorem infoS : (Tryz.prog.info? 31).map (fun i => (i.zero, i.size, i.bytes)) = some (some (.int .u16 0), 1, 2) := by kernel_rfl
theorem tyS : STy Tryz.prog 25 31 1 2 := STy.of Tryz.underlying25 infoS rfl (by decide) (by decide)
theorem eqNilS (w : World) (a : Option Addr) (n c n' c' : Nat) : (binOp .eql 25 (.slice a n c) (.slice none n' c')).run Tryz.prog w = .ok (.bool a.isNone) w := Lib.run_eql_slice_nil w _ _ a n c n' c' Tryz.underlying25

set_option maxHeartbeats 800000 in
theorem cloneS_any (a : Option Addr) (n c : Nat) (xs : List Value) (w : World) (h : Rd w a n c 1 xs) (h1 : ∀ u ∈ xs, u.oneCell' = true) (hb : n ≤ 1000000) :
    Calls Tryz.prog 29 #[.slice a n c] w fun e w' => ∃ v, e = .returned v ∧ w'.ownsRow w.heap.size 31 1 v n xs ∧ Keeps w w' := by
  have q := eqNilS
  obtain ⟨i0, hi, hz0, hz1, hz2⟩ := info_parts infoS
  have hl := h.len
  cases a with
  | none =>
    have hn : n = 0 := by
      rcases Nat.eq_zero_or_pos n with h0 | h0
      · exact h0
      · exact absurd (h.isSome h0) (by simp)
    subst hn
    have hx : xs = [] := List.eq_nil_of_length_eq_zero (by simpa using hl)
    subst hx
    clear hl h
    go_enter Tryz.func29, Tryz.ntmps29
    go_wp2
    go_ret
    exact ⟨_, rfl, World.ownsRow_nil _ _ _ _, Keeps.refl _⟩
  | some ad =>
    have HL := Lib.hid hl; clear hl
    have hk : Keeps w (w.alloc (.cells #[] 31)) := (Keeps.refl w).alloc _
    go_enter Tryz.func29, Tryz.ntmps29
    go_wp2_with (at_builtin; refine wpList_append_own _ rfl _ _ 25 rfl w.heap.size 31 i0 (.int .u16 0) 1 2 Tryz.underlying25 hi hz0 hz1 hz2 rfl (by decide) _ _ _ rfl (World.ownsRow_made w #[] 0 (Nat.le_refl _) (Nat.zero_le _) (by simp)) ad n c xs rfl ?qc1 ?qc2 ?qc3 ?qc4 ?qc5 ?qc6 ?_)
    case qc1 => exact HL.out
    case qc2 => exact fun j u hj => hk.cell (h.cell j u hj)
    case qc3 => exact h1
    case qc4 => unfold maxLen; omega
    case qc5 => omega
    case qc6 => simp
    intro v' w1 hown hgrow hnil
    go_wp2
    go_ret
    exact ⟨v', rfl, by simpa using hown, ((Below.refl _ w).alloc (Nat.le_refl _) _).grown hgrow (by simp) (by intro k hk; simp [Value.ownBlock] at hk; omega)⟩

/-- 'p' is what a function value answers, at each element of a list, in each world that keeps what lay in w. -/
def PredK {α : Type} (P : Program) (g : Nat) (lb : Array Value) (enc : α → Value) (p : α → Bool) (l : List α) (w : World) : Prop :=
  ∀ W x, x ∈ l → Keeps w W → Calls P g (#[enc x] ++ lb) W fun e w' => e = .returned (.bool (p x)) ∧ Keeps W w'

def idxFrom {α : Type} (p : α → Bool) : List α → Nat → Int
  | [], _ => -1
  | x :: xs, k => if p x = true then (k : Int) else idxFrom p xs (k + 1)
theorem idxFrom_any {α : Type} (p : α → Bool) (l : List α) (k : Nat) : decide (0 ≤ idxFrom p l k) = l.any p := by
  induction l generalizing k with
  | nil => simp [idxFrom]
  | cons x xs ih =>
    unfold idxFrom
    by_cases h : p x = true
    · simp [h]
    · simp [h, ih]
theorem at_mem {l : List S} {i : Nat} (h : i < l.length) : at_ l i ∈ l := by simp [at_, List.getD, h]

set_option maxHeartbeats 800000 in
theorem indexFuncS_any (a : Option Addr) (n c : Nat) (l : List S) (w : World) (g : Nat) (lb : Array Value) (p : S → Bool) (h : Rd w a n c 1 (sl l))
    (eg : ∀ args w, (callFunc g args).run Tryz.prog w = .ok (.enter g args) w) (hp : PredK Tryz.prog g lb vs p l w) :
    Calls Tryz.prog 110 #[.slice a n c, .func (.func g) #[] lb] w fun e w' => e = .returned (.int .i64 (idxFrom p l 0)) ∧ Keeps w w' := by
  have s1 := h.small
  have l1 := h.lenS
  have L1 := Lib.hid l1; clear l1
  have HP := Lib.hid hp; clear hp
  go_enter Tryz.func110, Tryz.ntmps110
  go_wp2
  go_loopw [8] (fun v wr => ∃ k : Nat, k ≤ n ∧ v = .int .i64 k ∧ Keeps w wr ∧ Hid (idxFrom p l 0 = idxFrom p (l.drop k) k)) (fun v _ => n - (RowKit.intOf v).toNat)
  case atStart => exact ⟨0, Nat.zero_le _, rfl, Keeps.refl _, rfl⟩
  case round =>
    obtain ⟨k, hk, rfl, K1, HI⟩ := hrel
    by_cases hlt : k < n
    · have hc := (h.keep K1).at hlt
      have ha := h.isSome (by omega)
      have hcall := HP.out wr (at_ l k) (at_mem (by have := L1.out; omega)) K1
      unfold vs at hcall
      have HC := Lib.hid hcall; clear hcall
      cases hq : p (at_ l k) with
      | true =>
        rw [hq] at HC
        have HQ := Lib.hid hq; clear hq
        go_wp2_with (go_at_fn g; refine (HC.out).mono ?_; rintro e w' ⟨rfl, K2⟩)
        go_ret
        exact ⟨by rw [HI.out, dropH L1 hlt, idxFrom, if_pos HQ.out]; rfl, K1.trans K2⟩
      | false =>
        rw [hq] at HC
        have HQ := Lib.hid hq; clear hq
        go_wp2_with (go_at_fn g; refine (HC.out).mono ?_; rintro e w' ⟨rfl, K2⟩)
        go_roundw
        case rel => exact ⟨k + 1, by omega, by go_num, K1.trans K2, hrfl <| by rw [HI.out, dropH L1 hlt, idxFrom, if_neg (by rw [HQ.out]; simp)]⟩
        case measure => simp [RowKit.intOf]; omega
    · go_wp2
      go_ret
      exact ⟨by rw [HI.out, dropN L1 hlt, idxFrom]; rfl, K1⟩

set_option maxHeartbeats 800000 in
theorem containsFuncS_any (a : Option Addr) (n c : Nat) (l : List S) (w : World) (g : Nat) (lb : Array Value) (p : S → Bool) (h : Rd w a n c 1 (sl l))
    (eg : ∀ args w, (callFunc g args).run Tryz.prog w = .ok (.enter g args) w) (hp : PredK Tryz.prog g lb vs p l w) :
    Calls Tryz.prog 46 #[.slice a n c, .func (.func g) #[] lb] w fun e w' => e = .returned (.bool (l.any p)) ∧ Keeps w w' := by
  have HX := Lib.hid (idxFrom_any p l 0)
  have hcon := indexFuncS_any a n c l w g lb p h eg hp
  generalize idxFrom p l 0 = r at hcon HX
  have HC := Lib.hid hcon; clear hcon eg hp h
  go_enter Tryz.func46, Tryz.ntmps46
  go_wp2_with (go_at_call 110; refine HC.out.mono ?_; rintro e w' ⟨rfl, K2⟩)
  go_ret
  exact ⟨by rw [← HX.out]; rfl, K2⟩
end Go.Proofs.YtijknodekomdfaaGreatDoor
namespace Go.Proofs.YtijknodekomdfaaGreatDoor
open Go.RowKit Go.Lib

theorem bit_eq (x : S) (i : Nat) : (x.toNat >>> i) % 2 = if x.getLsbD i = true then 1 else 0 := by
  have h : x.getLsbD i = (x.toNat >>> i % 2 == 1) := by
    rw [BitVec.getLsbD, Nat.testBit_eq_decide_div_mod_eq, Nat.shiftRight_eq_div_pow]; rfl
  rw [h]
  have h2 : x.toNat >>> i % 2 = 0 ∨ x.toNat >>> i % 2 = 1 := by omega
  rcases h2 with h2 | h2 <;> simp [h2]
theorem hbT (s : S) (i : Nat) : ((s >>> i) &&& 1#16 == 1#16) = s.toNat.testBit i := by
    have e : ((s >>> i) &&& 1#16).toNat = s.toNat >>> i % 2 := by
      rw [BitVec.toNat_and, BitVec.toNat_ushiftRight]
      exact Nat.and_one_is_mod _
    have h2 := bit_eq s i
    rw [h2] at e
    rw [Bool.eq_iff_iff, beq_iff_eq]
    show _ ↔ s.getLsbD i = true
    constructor
    · intro g
      rw [g] at e
      cases hg : s.getLsbD i
      · rw [hg] at e; simp at e
      · rfl
    · intro g
      rw [if_pos g] at e
      exact BitVec.eq_of_toNat_eq e
theorem adr_plus (a : Option Addr) (i j : Nat) (hj : j ≠ 0) : (⟨(adr a i).block, (adr a i).off + j, none⟩ : Addr) = adr a (i + j) := by
  rw [← adr_add]; unfold Addr.add; rw [if_neg hj]
@[go_sem] theorem sv_beq_one (x : S) : (sv x == 1) = (x == 1#16) := sv_beq x 1#16
end Go.Proofs.YtijknodekomdfaaGreatDoor
