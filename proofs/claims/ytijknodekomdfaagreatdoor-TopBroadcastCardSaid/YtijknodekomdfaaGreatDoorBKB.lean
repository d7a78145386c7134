/- Texts joined into one, what is needed of them (a program of ours). -/
import Derived.Test.YtijknodekomdfaaGreatDoorBKA
import Derived.Deep.RegionHeld3
import Derived.Deep.LoopGhost
import Derived.IntWalk
import Derived.Test.YtijknodekomdfaaGreatDoorBKM
import Derived.Lib.SliceRun
import Derived.Deep.RegionLaw
namespace Go.Proofs.YtijknodekomdfaaGreatDoor
open Go.RowKit Go.Lib Go.Shelf

theorem str_inj {a b : ByteArray} (h : a.toList = b.toList) : a = b := by
  rw [ByteArray.toList_eq, ByteArray.toList_eq] at h
  have : a.data = b.data := Array.toList_inj.1 h
  cases a; cases b; simp_all
@[go_sem] theorem str_beq (a b : ByteArray) : (a.toList == b.toList) = decide (a = b) := by
  rw [Bool.eq_iff_iff, beq_iff_eq, decide_eq_true_eq]
  exact ⟨str_inj, fun h => by rw [h]⟩
section
variable {α : Type} (enc : α → List Value) (sz : Nat)
def fle (l : List α) : List Value := l.flatMap enc
theorem fle_len (hsz : ∀ x, (enc x).length = sz) (l : List α) : (fle enc l).length = l.length * sz := by
  induction l with
  | nil => simp [fle]
  | cons x xs ih => unfold fle at *; rw [List.flatMap_cons, List.length_append, ih, hsz, List.length_cons, Nat.succ_mul]; omega
theorem fle_at (hsz : ∀ x, (enc x).length = sz) : ∀ (l : List α) (i : Nat) (hi : i < l.length) (j : Nat), j < sz → (fle enc l)[i * sz + j]? = (enc l[i])[j]?
  | x :: xs, 0, _, j, hj => by unfold fle; rw [List.flatMap_cons, Nat.zero_mul, Nat.zero_add, List.getElem?_append_left (by rw [hsz]; exact hj)]; rfl
  | x :: xs, i + 1, hi, j, hj => by
    have := fle_at hsz xs i (by simpa using hi) j hj
    unfold fle at *
    rw [List.flatMap_cons, List.getElem?_append_right (by rw [hsz, Nat.succ_mul]; omega), hsz, show (i + 1) * sz + j - sz = i * sz + j by rw [Nat.succ_mul]; omega, this]
    rfl
theorem fle_append (l m : List α) : fle enc (l ++ m) = fle enc l ++ fle enc m := by unfold fle; rw [List.flatMap_append]
theorem fle_drop (hsz : ∀ x, (enc x).length = sz) (l : List α) (k : Nat) : fle enc (l.drop k) = (fle enc l).drop (k * sz) := by
  induction l generalizing k with
  | nil => simp [fle]
  | cons x xs ih =>
    cases k with
    | zero => simp
    | succ k =>
      have := ih k
      unfold fle at *
      have e : (enc x).drop ((k + 1) * sz) = [] := List.drop_eq_nil_of_le (by rw [hsz, Nat.succ_mul]; omega)
      rw [List.drop_succ_cons, this, List.flatMap_cons, List.drop_append, hsz, show (k + 1) * sz - sz = k * sz by rw [Nat.succ_mul]; omega, e]
      rfl
theorem fle_take (hsz : ∀ x, (enc x).length = sz) (l : List α) (k : Nat) : fle enc (l.take k) = (fle enc l).take (k * sz) := by
  induction l generalizing k with
  | nil => simp [fle]
  | cons x xs ih =>
    cases k with
    | zero => simp [fle]
    | succ k =>
      have := ih k
      unfold fle at *
      have e := List.take_of_length_le (l := enc x) (i := (k + 1) * sz) (by rw [hsz, Nat.succ_mul]; omega)
      rw [List.take_succ_cons, List.flatMap_cons, this, List.flatMap_cons, List.take_append, hsz, show (k + 1) * sz - sz = k * sz by rw [Nat.succ_mul]; omega, e]
theorem fle_one (x : α) : fle enc [x] = enc x := by simp [fle]
theorem fle_cells (h1 : ∀ x, ∀ v ∈ enc x, v.oneCell' = true) (l : List α) : ∀ v ∈ fle enc l, v.oneCell' = true := fun v hv => by
  obtain ⟨x, _, hx⟩ := List.mem_flatMap.1 hv
  exact h1 x v hx
theorem rd_lenE (hsz : ∀ x, (enc x).length = sz) {w : World} {a : Option Addr} {n c : Nat} {l : List α} (hp : 0 < sz) (h : Rd w a n c sz (fle enc l)) : l.length = n := by
  have := h.len; rw [fle_len enc sz hsz] at this
  exact Nat.eq_of_mul_eq_mul_right hp this
theorem rd_atE (hsz : ∀ x, (enc x).length = sz) {w : World} {a : Option Addr} {n c : Nat} {l : List α} (hp : 0 < sz) (h : Rd w a n c sz (fle enc l)) {i : Nat} (hi : i < n) (d : α) (j : Nat) (hj : j < sz) {v : Value} (hv : (enc (l.getD i d))[j]? = some v) : w.cell? (adr a (i * sz + j)) = some v := by
  have hl := rd_lenE enc sz hsz hp h
  refine h.cell _ _ ?_
  rw [fle_at enc sz hsz l i (by omega) j hj, ← hv]
  simp [List.getD, show i < l.length by omega]
theorem adr_off {w : World} {a : Option Addr} {i j : Nat} {v : Value} (h : w.cell? (adr a (i + j)) = some v) (hj : 0 < j) : w.cell? ⟨(adr a i).block, (adr a i).off + j, none⟩ = some v := by
  have e : adr a (i + j) = ⟨(adr a i).block, (adr a i).off + j, none⟩ := by
    rw [← adr_add a i j]
    unfold Addr.add
    rw [if_neg (by omega)]
  rw [← e]; exact h
theorem getD_dropE (l : List α) (i : Nat) (d : α) (h : i < l.length) : l.drop i = l.getD i d :: l.drop (i + 1) := by
  rw [List.drop_eq_getElem_cons h]; simp [List.getD, h]
theorem getD_takeE (l : List α) (i : Nat) (d : α) (h : i < l.length) : l.take (i + 1) = l.take i ++ [l.getD i d] := by
  rw [List.take_succ_eq_append_getElem h]; simp [List.getD, h]
theorem getD_memE {l : List α} {i : Nat} (d : α) (h : i < l.length) : l.getD i d ∈ l := by simp [List.getD, h]
end
/-- a row of the call's own, one cell written -/
theorem own_put1' {e : TypeId} {sz : Nat} {w0 w : World} {g n cap : Nat} {xs : List Value} (h : Own e sz w0 w (.slice (some ⟨g, 0, none⟩) n cap) n xs) (k : Nat) (v : Value) :
    Own e sz w0 (w.setCell ⟨g, k, none⟩ v) (.slice (some ⟨g, 0, none⟩) n cap) n (xs.set k v) :=
  ⟨(h.1.stored k v).1, Below.setCell h.2.below (by exact (h.1.lt g rfl).1) _⟩
/-- rows of different types lie in different blocks -/
theorem row_ne {e e' : TypeId} {sz sz' b b' : Nat} {w : World} {v u : Value} {n m : Nat} {xs ys : List Value} (h : w.ownsRow b e sz v n xs) (k : w.ownsRow b' e' sz' u m ys) (he : e ≠ e') : v.ownBlock = none ∨ v.ownBlock ≠ u.ownBlock := by
  rcases h.2 with ⟨rfl, _⟩ | ⟨g, cap, cur, rfl, _, hg, _⟩
  · exact .inl rfl
  · right
    rcases k.2 with ⟨rfl, _⟩ | ⟨g', cap', cur', rfl, _, hg', _⟩
    · intro h; cases h
    · intro h
      have e1 : g = g' := by injection h
      subst e1
      rw [hg] at hg'
      injection hg' with hg'
      injection hg' with _ h2
      exact he h2
theorem row_kept {e e' : TypeId} {sz sz' b b' : Nat} {w w' : World} {v u : Value} {n m : Nat} {xs ys : List Value} (h : w.ownsRow b e sz v n xs) (k : w.ownsRow b' e' sz' u m ys) (he : e ≠ e') (hg : w.grownBy w' u.ownBlock) : w'.ownsRow b e sz v n xs :=
  h.kept hg (row_ne h k he)
theorem blk_ne {e' T : TypeId} {sz' b' : Nat} {w : World} {u : Value} {m B : Nat} {ys : List Value} {cs : Array Value} (h : Blk w B T cs) (k : w.ownsRow b' e' sz' u m ys) (he : T ≠ e') : some B ≠ u.ownBlock := by
  intro hb
  rcases k.2 with ⟨rfl, _⟩ | ⟨g', cap', cur', rfl, _, hg', _⟩
  · cases hb
  · have e1 : B = g' := by injection hb
    subst e1
    unfold Blk at h
    rw [hg'] at h
    injection h with h
    injection h with _ h2
    exact he h2.symm
/-- a store into a block of another type -/
theorem row_set {e T : TypeId} {sz b : Nat} {w : World} {v : Value} {n : Nat} {xs : List Value} (h : w.ownsRow b e sz v n xs) {B : Nat} {cs : Array Value} (hB : Blk w B T cs) (hT : T ≠ e) (i : Nat) (u : Value) : (w.setCell ⟨B, i, none⟩ u).ownsRow b e sz v n xs := by
  refine ⟨h.1, ?_⟩
  rcases h.2 with h2 | ⟨g, cap, cur, hv, hb, hg, r⟩
  · exact .inl h2
  · refine .inr ⟨g, cap, cur, hv, hb, ?_, r⟩
    have hne : g ≠ B := by
      rintro rfl
      unfold Blk at hB
      rw [hg] at hB
      injection hB with hB
      injection hB with _ h2
      exact hT h2.symm
    rw [Below.heap_setCell _ _ _ _ (by simpa using hne)]; exact hg

end Go.Proofs.YtijknodekomdfaaGreatDoor
namespace Go.Proofs.YtijknodekomdfaaGreatDoor
open Go.RowKit Go.Lib Go.Shelf

/-- a node with where its lists lie -/
structure NA where
  x : Nd
  ae : Option Addr
  ce : Nat
  ar : Option Addr
  cr : Nat
def na0 : NA := ⟨nd0, none, 0, none, 0⟩
def hd0 : Hd := ⟨ByteArray.empty, 0#16⟩

def eH (x : Hd) : List Value := [.string x.v, .int .u16 (sv x.s)]
def vh (x : Hd) : Value := .agg #[.string x.v, .int .u16 (sv x.s)]
def hl (l : List Hd) : List Value := fle eH l
def hdA (l : List Hd) (i : Nat) : Hd := l.getD i hd0
theorem eH_len (x : Hd) : (eH x).length = 2 := rfl
@[simp] theorem hl_len (l : List Hd) : (hl l).length = l.length * 2 := fle_len eH 2 eH_len l
theorem hl_append (l m : List Hd) : hl (l ++ m) = hl l ++ hl m := fle_append eH l m
theorem hl_one (x : Hd) : hl [x] = eH x := fle_one eH x
theorem hl_cells (l : List Hd) : ∀ v ∈ hl l, v.oneCell' = true := fle_cells eH (fun x v hv => by
  simp only [eH, List.mem_cons, List.not_mem_nil, or_false] at hv
  rcases hv with rfl | rfl <;> rfl) l
theorem hl_rdlen {w : World} {a : Option Addr} {n c : Nat} {l : List Hd} (h : Rd w a n c 2 (hl l)) : l.length = n := rd_lenE eH 2 eH_len (by decide) h
theorem hl_at {w : World} {a : Option Addr} {n c : Nat} {l : List Hd} (h : Rd w a n c 2 (hl l)) {i : Nat} (hi : i < n) :
    w.cell? (adr a (i * 2)) = some (.string (hdA l i).v) ∧ w.cell? ⟨(adr a (i * 2)).block, (adr a (i * 2)).off + 1, none⟩ = some (.int .u16 (sv (hdA l i).s)) :=
  ⟨rd_atE eH 2 eH_len (by decide) h hi hd0 0 (by decide) rfl, adr_off (rd_atE eH 2 eH_len (by decide) h hi hd0 1 (by decide) rfl) (by decide)⟩
theorem drop_hdA (l : List Hd) (i : Nat) (h : i < l.length) : l.drop i = hdA l i :: l.drop (i + 1) := getD_dropE l i hd0 h
theorem hdA_mem {l : List Hd} {i : Nat} (h : i < l.length) : hdA l i ∈ l := getD_memE hd0 h
theorem info_hl : (Tryz.prog.info? 156).map (fun i => (i.zero, i.size, i.bytes)) = some (some (.agg #[.string ⟨#[]⟩, .int .u16 0]), 2, 24) := by kernel_rfl
theorem ty_hl : STy Tryz.prog 151 156 2 24 := STy.of Tryz.underlying151 info_hl rfl (by decide) (by decide)

def eC (x : Ct) : List Value := [.int .i64 x.kind, .int .i64 x.src, .int .i64 x.dst, .string x.v]
def vc (x : Ct) : Value := .agg #[.int .i64 x.kind, .int .i64 x.src, .int .i64 x.dst, .string x.v]
def cl (l : List Ct) : List Value := fle eC l
def ctA (l : List Ct) (i : Nat) : Ct := l.getD i ct0
theorem eC_len (x : Ct) : (eC x).length = 4 := rfl
@[simp] theorem cl_len (l : List Ct) : (cl l).length = l.length * 4 := fle_len eC 4 eC_len l
theorem cl_append (l m : List Ct) : cl (l ++ m) = cl l ++ cl m := fle_append eC l m
theorem cl_drop (l : List Ct) (k : Nat) : cl (l.drop k) = (cl l).drop (k * 4) := fle_drop eC 4 eC_len l k
theorem cl_take (l : List Ct) (k : Nat) : cl (l.take k) = (cl l).take (k * 4) := fle_take eC 4 eC_len l k
theorem cl_cells (l : List Ct) : ∀ v ∈ cl l, v.oneCell' = true := fle_cells eC (fun x v hv => by
  simp only [eC, List.mem_cons, List.not_mem_nil, or_false] at hv
  rcases hv with rfl | rfl | rfl | rfl <;> rfl) l
theorem cl_rdlen {w : World} {a : Option Addr} {n c : Nat} {l : List Ct} (h : Rd w a n c 4 (cl l)) : l.length = n := rd_lenE eC 4 eC_len (by decide) h
theorem cl_at {w : World} {a : Option Addr} {n c : Nat} {l : List Ct} (h : Rd w a n c 4 (cl l)) {i : Nat} (hi : i < n) :
    w.cell? (adr a (i * 4)) = some (.int .i64 (ctA l i).kind) ∧ w.cell? ⟨(adr a (i * 4)).block, (adr a (i * 4)).off + 1, none⟩ = some (.int .i64 (ctA l i).src) ∧ w.cell? ⟨(adr a (i * 4)).block, (adr a (i * 4)).off + 2, none⟩ = some (.int .i64 (ctA l i).dst) ∧ w.cell? ⟨(adr a (i * 4)).block, (adr a (i * 4)).off + 3, none⟩ = some (.string (ctA l i).v) :=
  ⟨rd_atE eC 4 eC_len (by decide) h hi ct0 0 (by decide) rfl, adr_off (rd_atE eC 4 eC_len (by decide) h hi ct0 1 (by decide) rfl) (by decide), adr_off (rd_atE eC 4 eC_len (by decide) h hi ct0 2 (by decide) rfl) (by decide), adr_off (rd_atE eC 4 eC_len (by decide) h hi ct0 3 (by decide) rfl) (by decide)⟩
theorem drop_ctA (l : List Ct) (i : Nat) (h : i < l.length) : l.drop i = ctA l i :: l.drop (i + 1) := getD_dropE l i ct0 h
theorem take_ctA (l : List Ct) (i : Nat) (h : i < l.length) : l.take (i + 1) = l.take i ++ [ctA l i] := getD_takeE l i ct0 h
theorem ctA_mem {l : List Ct} {i : Nat} (h : i < l.length) : ctA l i ∈ l := getD_memE ct0 h
theorem info_cl : (Tryz.prog.info? 145).map (fun i => (i.zero, i.size, i.bytes)) = some (some (.agg #[.int .i64 0, .int .i64 0, .int .i64 0, .string ⟨#[]⟩]), 4, 40) := by kernel_rfl
theorem ty_cl : STy Tryz.prog 73 145 4 40 := STy.of Tryz.underlying73 info_cl rfl (by decide) (by decide)

def eN (x : NA) : List Value := [.int .i64 x.x.id, .string x.x.echoed, .bool x.x.hasE, .string x.x.readied, .bool x.x.hasR, .string x.x.delivered, .bool x.x.hasD, .slice x.ae x.x.echoes.length x.ce, .slice x.ar x.x.readies.length x.cr]
def vn (x : NA) : Value := .agg #[.int .i64 x.x.id, .string x.x.echoed, .bool x.x.hasE, .string x.x.readied, .bool x.x.hasR, .string x.x.delivered, .bool x.x.hasD, .slice x.ae x.x.echoes.length x.ce, .slice x.ar x.x.readies.length x.cr]
def nl (l : List NA) : List Value := fle eN l
def naA (l : List NA) (i : Nat) : NA := l.getD i na0
theorem eN_len (x : NA) : (eN x).length = 9 := rfl
@[simp] theorem nl_len (l : List NA) : (nl l).length = l.length * 9 := fle_len eN 9 eN_len l
theorem nl_append (l m : List NA) : nl (l ++ m) = nl l ++ nl m := fle_append eN l m
theorem nl_take (l : List NA) (k : Nat) : nl (l.take k) = (nl l).take (k * 9) := fle_take eN 9 eN_len l k
theorem nl_one (x : NA) : nl [x] = eN x := fle_one eN x
theorem nl_cells (l : List NA) : ∀ v ∈ nl l, v.oneCell' = true := fle_cells eN (fun x v hv => by
  simp only [eN, List.mem_cons, List.not_mem_nil, or_false] at hv
  rcases hv with rfl | rfl | rfl | rfl | rfl | rfl | rfl | rfl | rfl <;> rfl) l
theorem nl_rdlen {w : World} {a : Option Addr} {n c : Nat} {l : List NA} (h : Rd w a n c 9 (nl l)) : l.length = n := rd_lenE eN 9 eN_len (by decide) h
theorem nl_at {w : World} {a : Option Addr} {n c : Nat} {l : List NA} (h : Rd w a n c 9 (nl l)) {i : Nat} (hi : i < n) :
    w.cell? (adr a (i * 9)) = some (.int .i64 (naA l i).x.id) ∧ w.cell? ⟨(adr a (i * 9)).block, (adr a (i * 9)).off + 1, none⟩ = some (.string (naA l i).x.echoed) ∧ w.cell? ⟨(adr a (i * 9)).block, (adr a (i * 9)).off + 2, none⟩ = some (.bool (naA l i).x.hasE) ∧ w.cell? ⟨(adr a (i * 9)).block, (adr a (i * 9)).off + 3, none⟩ = some (.string (naA l i).x.readied) ∧ w.cell? ⟨(adr a (i * 9)).block, (adr a (i * 9)).off + 4, none⟩ = some (.bool (naA l i).x.hasR) ∧ w.cell? ⟨(adr a (i * 9)).block, (adr a (i * 9)).off + 5, none⟩ = some (.string (naA l i).x.delivered) ∧ w.cell? ⟨(adr a (i * 9)).block, (adr a (i * 9)).off + 6, none⟩ = some (.bool (naA l i).x.hasD) ∧ w.cell? ⟨(adr a (i * 9)).block, (adr a (i * 9)).off + 7, none⟩ = some (.slice (naA l i).ae (naA l i).x.echoes.length (naA l i).ce) ∧ w.cell? ⟨(adr a (i * 9)).block, (adr a (i * 9)).off + 8, none⟩ = some (.slice (naA l i).ar (naA l i).x.readies.length (naA l i).cr) :=
  ⟨rd_atE eN 9 eN_len (by decide) h hi na0 0 (by decide) rfl, adr_off (rd_atE eN 9 eN_len (by decide) h hi na0 1 (by decide) rfl) (by decide), adr_off (rd_atE eN 9 eN_len (by decide) h hi na0 2 (by decide) rfl) (by decide), adr_off (rd_atE eN 9 eN_len (by decide) h hi na0 3 (by decide) rfl) (by decide), adr_off (rd_atE eN 9 eN_len (by decide) h hi na0 4 (by decide) rfl) (by decide), adr_off (rd_atE eN 9 eN_len (by decide) h hi na0 5 (by decide) rfl) (by decide), adr_off (rd_atE eN 9 eN_len (by decide) h hi na0 6 (by decide) rfl) (by decide), adr_off (rd_atE eN 9 eN_len (by decide) h hi na0 7 (by decide) rfl) (by decide), adr_off (rd_atE eN 9 eN_len (by decide) h hi na0 8 (by decide) rfl) (by decide)⟩
theorem drop_naA (l : List NA) (i : Nat) (h : i < l.length) : l.drop i = naA l i :: l.drop (i + 1) := getD_dropE l i na0 h
theorem take_naA (l : List NA) (i : Nat) (h : i < l.length) : l.take (i + 1) = l.take i ++ [naA l i] := getD_takeE l i na0 h
theorem naA_mem {l : List NA} {i : Nat} (h : i < l.length) : naA l i ∈ l := getD_memE na0 h
theorem info_nl : (Tryz.prog.info? 153).map (fun i => (i.zero, i.size, i.bytes)) = some (some (.agg #[.int .i64 0, .string ⟨#[]⟩, .bool false, .string ⟨#[]⟩, .bool false, .string ⟨#[]⟩, .bool false, .slice none 0 0, .slice none 0 0]), 9, 128) := by kernel_rfl
theorem ty_nl : STy Tryz.prog 72 153 9 128 := STy.of Tryz.underlying72 info_nl rfl (by decide) (by decide)
end Go.Proofs.YtijknodekomdfaaGreatDoor
namespace Go.Proofs.YtijknodekomdfaaGreatDoor
open Go.RowKit Go.Lib Go.Shelf

theorem eqNilH (w : World) (a : Option Addr) (n c n' c' : Nat) : (binOp .eql 151 (.slice a n c) (.slice none n' c')).run Tryz.prog w = .ok (.bool a.isNone) w := Lib.run_eql_slice_nil w _ _ a n c n' c' Tryz.underlying151
theorem dropEH {l : List Hd} {n i : Nat} (L : Hid (l.length = n)) (h : i < n) : l.drop i = hdA l i :: l.drop (i + 1) := drop_hdA l i (by have := L.out; omega)
theorem dropEHN {l : List Hd} {n i : Nat} (L : Hid (l.length = n)) (h : ¬ i < n) : l.drop i = [] := List.drop_eq_nil_iff.2 (by have := L.out; omega)
set_option maxHeartbeats 800000 in
theorem cloneH_any (a : Option Addr) (c : Nat) (l : List Hd) (w : World) (h : Rd w a l.length c 2 (hl l)) (hb : l.length ≤ 1000000) :
    Calls Tryz.prog 94 #[.slice a l.length c] w fun e w' => ∃ v, e = .returned v ∧ Own 156 2 w w' v l.length (hl l) := by
  have q := eqNilH
  cases a with
  | none =>
    have hn : l.length = 0 := by
      rcases Nat.eq_zero_or_pos l.length with h0 | h0
      · exact h0
      · exact absurd (h.isSome h0) (by simp)
    have hl : l = [] := List.eq_nil_of_length_eq_zero hn
    subst hl
    clear hn h
    go_enter Tryz.func94, Tryz.ntmps94
    go_wp2_with fail
    go_ret
    exact ⟨_, rfl, Own.nil _ _ (Keeps.refl _)⟩
  | some ad =>
    have hO0 := Own.made (e := 156) (sz := 2) (Keeps.refl w) [] 0 (by decide) rfl
    have HO0 := Lib.hid hO0
    have HR := Lib.hid (h.keep ((Keeps.refl w).alloc (.cells #[] 156)))
    clear hO0 h
    go_enter Tryz.func94, Tryz.ntmps94
    go_wp2_with (at_builtin; refine wp_app ty_hl rfl _ _ rfl HO0.out rfl rfl HR.out (hl_cells l) (by omega) ?_)
    intro v' w1 hO1 hgr
    have HO1 := Lib.hid hO1
    clear hO1 hgr
    go_wp2_with fail
    go_ret
    have ho := HO1.out
    exact ⟨v', rfl, ho⟩
set_option maxHeartbeats 1600000 in
theorem indexFuncH_any (a : Option Addr) (n c : Nat) (l : List Hd) (w : World) (g : Nat) (lb : Array Value) (p : Hd → Bool) (h : Rd w a n c 2 (hl l))
    (eg : ∀ args w, (callFunc g args).run Tryz.prog w = .ok (.enter g args) w) (hp : PredK Tryz.prog g lb vh p l w) :
    Calls Tryz.prog 226 #[.slice a n c, .func (.func g) #[] lb] w fun e w' => e = .returned (.int .i64 (idxFrom p l 0)) ∧ Keeps w w' := by
  have s1 := h.small
  have l1 := hl_rdlen h
  have L1 := Lib.hid l1; clear l1
  have HP := Lib.hid hp; clear hp
  go_enter Tryz.func226, Tryz.ntmps226
  go_wp2
  go_loopw [8] (fun v wr => ∃ k : Nat, k ≤ n ∧ v = .int .i64 k ∧ Keeps w wr ∧ Hid (idxFrom p l 0 = idxFrom p (l.drop k) k)) (fun v _ => n - (RowKit.intOf v).toNat)
  case atStart => exact ⟨0, Nat.zero_le _, rfl, Keeps.refl _, rfl⟩
  case round =>
    obtain ⟨k, hk, rfl, K1, HI⟩ := hrel
    by_cases hlt : k < n
    · obtain ⟨g0, g1⟩ := hl_at (h.keep K1) hlt
      have ha := h.isSome (by omega)
      have hcall := HP.out wr (hdA l k) (hdA_mem (by have := L1.out; omega)) K1
      unfold vh at hcall
      have HC := Lib.hid hcall; clear hcall
      have hdr := dropEH L1 hlt
      have HDR := Lib.hid hdr; clear hdr
      generalize hdA l k = x at *
      cases hq : p x with
      | true =>
        rw [hq] at HC
        have HQ := Lib.hid hq; clear hq
        go_wp2_with (go_at_fn g; refine (HC.out).mono ?_; rintro e w' ⟨rfl, K2⟩)
        go_ret
        exact ⟨by rw [HI.out, HDR.out, idxFrom, if_pos HQ.out]; rfl, K1.trans K2⟩
      | false =>
        rw [hq] at HC
        have HQ := Lib.hid hq; clear hq
        go_wp2_with (go_at_fn g; refine (HC.out).mono ?_; rintro e w' ⟨rfl, K2⟩)
        go_roundw
        case rel => exact ⟨k + 1, by omega, by go_num, K1.trans K2, hrfl <| by rw [HI.out, HDR.out, idxFrom, if_neg (by rw [HQ.out]; simp)]⟩
        case measure => simp [RowKit.intOf]; omega
    · go_wp2
      go_ret
      exact ⟨by rw [HI.out, dropEHN L1 hlt, idxFrom]; rfl, K1⟩
set_option maxHeartbeats 800000 in
theorem containsFuncH_any (a : Option Addr) (n c : Nat) (l : List Hd) (w : World) (g : Nat) (lb : Array Value) (p : Hd → Bool) (h : Rd w a n c 2 (hl l))
    (eg : ∀ args w, (callFunc g args).run Tryz.prog w = .ok (.enter g args) w) (hp : PredK Tryz.prog g lb vh p l w) :
    Calls Tryz.prog 224 #[.slice a n c, .func (.func g) #[] lb] w fun e w' => e = .returned (.bool (l.any p)) ∧ Keeps w w' := by
  have HX := Lib.hid (idxFrom_any p l 0)
  have hcon := indexFuncH_any a n c l w g lb p h eg hp
  generalize idxFrom p l 0 = r at hcon HX
  have HC := Lib.hid hcon; clear hcon eg hp h
  go_enter Tryz.func224, Tryz.ntmps224
  go_wp2_with (go_at_call 226; refine HC.out.mono ?_; rintro e w' ⟨rfl, K2⟩)
  go_ret
  exact ⟨by rw [← HX.out]; rfl, K2⟩

theorem eqNilC (w : World) (a : Option Addr) (n c n' c' : Nat) : (binOp .eql 73 (.slice a n c) (.slice none n' c')).run Tryz.prog w = .ok (.bool a.isNone) w := Lib.run_eql_slice_nil w _ _ a n c n' c' Tryz.underlying73
theorem dropEC {l : List Ct} {n i : Nat} (L : Hid (l.length = n)) (h : i < n) : l.drop i = ctA l i :: l.drop (i + 1) := drop_ctA l i (by have := L.out; omega)
theorem dropECN {l : List Ct} {n i : Nat} (L : Hid (l.length = n)) (h : ¬ i < n) : l.drop i = [] := List.drop_eq_nil_iff.2 (by have := L.out; omega)
set_option maxHeartbeats 800000 in
theorem cloneC_any (a : Option Addr) (c : Nat) (l : List Ct) (w : World) (h : Rd w a l.length c 4 (cl l)) (hb : l.length ≤ 1000000) :
    Calls Tryz.prog 93 #[.slice a l.length c] w fun e w' => ∃ v, e = .returned v ∧ Own 145 4 w w' v l.length (cl l) := by
  have q := eqNilC
  cases a with
  | none =>
    have hn : l.length = 0 := by
      rcases Nat.eq_zero_or_pos l.length with h0 | h0
      · exact h0
      · exact absurd (h.isSome h0) (by simp)
    have hl : l = [] := List.eq_nil_of_length_eq_zero hn
    subst hl
    clear hn h
    go_enter Tryz.func93, Tryz.ntmps93
    go_wp2_with fail
    go_ret
    exact ⟨_, rfl, Own.nil _ _ (Keeps.refl _)⟩
  | some ad =>
    have hO0 := Own.made (e := 145) (sz := 4) (Keeps.refl w) [] 0 (by decide) rfl
    have HO0 := Lib.hid hO0
    have HR := Lib.hid (h.keep ((Keeps.refl w).alloc (.cells #[] 145)))
    clear hO0 h
    go_enter Tryz.func93, Tryz.ntmps93
    go_wp2_with (at_builtin; refine wp_app ty_cl rfl _ _ rfl HO0.out rfl rfl HR.out (cl_cells l) (by omega) ?_)
    intro v' w1 hO1 hgr
    have HO1 := Lib.hid hO1
    clear hO1 hgr
    go_wp2_with fail
    go_ret
    have ho := HO1.out
    exact ⟨v', rfl, ho⟩
set_option maxHeartbeats 1600000 in
theorem indexFuncC_any (a : Option Addr) (n c : Nat) (l : List Ct) (w : World) (g : Nat) (lb : Array Value) (p : Ct → Bool) (h : Rd w a n c 4 (cl l))
    (eg : ∀ args w, (callFunc g args).run Tryz.prog w = .ok (.enter g args) w) (hp : PredK Tryz.prog g lb vc p l w) :
    Calls Tryz.prog 153 #[.slice a n c, .func (.func g) #[] lb] w fun e w' => e = .returned (.int .i64 (idxFrom p l 0)) ∧ Keeps w w' := by
  have s1 := h.small
  have l1 := cl_rdlen h
  have L1 := Lib.hid l1; clear l1
  have HP := Lib.hid hp; clear hp
  go_enter Tryz.func153, Tryz.ntmps153
  go_wp2
  go_loopw [8] (fun v wr => ∃ k : Nat, k ≤ n ∧ v = .int .i64 k ∧ Keeps w wr ∧ Hid (idxFrom p l 0 = idxFrom p (l.drop k) k)) (fun v _ => n - (RowKit.intOf v).toNat)
  case atStart => exact ⟨0, Nat.zero_le _, rfl, Keeps.refl _, rfl⟩
  case round =>
    obtain ⟨k, hk, rfl, K1, HI⟩ := hrel
    by_cases hlt : k < n
    · obtain ⟨g0, g1, g2, g3⟩ := cl_at (h.keep K1) hlt
      have ha := h.isSome (by omega)
      have hcall := HP.out wr (ctA l k) (ctA_mem (by have := L1.out; omega)) K1
      unfold vc at hcall
      have HC := Lib.hid hcall; clear hcall
      have hdr := dropEC L1 hlt
      have HDR := Lib.hid hdr; clear hdr
      generalize ctA l k = x at *
      cases hq : p x with
      | true =>
        rw [hq] at HC
        have HQ := Lib.hid hq; clear hq
        go_wp2_with (go_at_fn g; refine (HC.out).mono ?_; rintro e w' ⟨rfl, K2⟩)
        go_ret
        exact ⟨by rw [HI.out, HDR.out, idxFrom, if_pos HQ.out]; rfl, K1.trans K2⟩
      | false =>
        rw [hq] at HC
        have HQ := Lib.hid hq; clear hq
        go_wp2_with (go_at_fn g; refine (HC.out).mono ?_; rintro e w' ⟨rfl, K2⟩)
        go_roundw
        case rel => exact ⟨k + 1, by omega, by go_num, K1.trans K2, hrfl <| by rw [HI.out, HDR.out, idxFrom, if_neg (by rw [HQ.out]; simp)]⟩
        case measure => simp [RowKit.intOf]; omega
    · go_wp2
      go_ret
      exact ⟨by rw [HI.out, dropECN L1 hlt, idxFrom]; rfl, K1⟩
set_option maxHeartbeats 800000 in
theorem containsFuncC_any (a : Option Addr) (n c : Nat) (l : List Ct) (w : World) (g : Nat) (lb : Array Value) (p : Ct → Bool) (h : Rd w a n c 4 (cl l))
    (eg : ∀ args w, (callFunc g args).run Tryz.prog w = .ok (.enter g args) w) (hp : PredK Tryz.prog g lb vc p l w) :
    Calls Tryz.prog 95 #[.slice a n c, .func (.func g) #[] lb] w fun e w' => e = .returned (.bool (l.any p)) ∧ Keeps w w' := by
  have HX := Lib.hid (idxFrom_any p l 0)
  have hcon := indexFuncC_any a n c l w g lb p h eg hp
  generalize idxFrom p l 0 = r at hcon HX
  have HC := Lib.hid hcon; clear hcon eg hp h
  go_enter Tryz.func95, Tryz.ntmps95
  go_wp2_with (go_at_call 153; refine HC.out.mono ?_; rintro e w' ⟨rfl, K2⟩)
  go_ret
  exact ⟨by rw [← HX.out]; rfl, K2⟩

theorem eqNilN (w : World) (a : Option Addr) (n c n' c' : Nat) : (binOp .eql 72 (.slice a n c) (.slice none n' c')).run Tryz.prog w = .ok (.bool a.isNone) w := Lib.run_eql_slice_nil w _ _ a n c n' c' Tryz.underlying72
theorem dropEN {l : List NA} {n i : Nat} (L : Hid (l.length = n)) (h : i < n) : l.drop i = naA l i :: l.drop (i + 1) := drop_naA l i (by have := L.out; omega)
theorem dropENN {l : List NA} {n i : Nat} (L : Hid (l.length = n)) (h : ¬ i < n) : l.drop i = [] := List.drop_eq_nil_iff.2 (by have := L.out; omega)
set_option maxHeartbeats 800000 in
theorem cloneN_any (a : Option Addr) (c : Nat) (l : List NA) (w : World) (h : Rd w a l.length c 9 (nl l)) (hb : l.length ≤ 1000000) :
    Calls Tryz.prog 160 #[.slice a l.length c] w fun e w' => ∃ v, e = .returned v ∧ Own 153 9 w w' v l.length (nl l) := by
  have q := eqNilN
  cases a with
  | none =>
    have hn : l.length = 0 := by
      rcases Nat.eq_zero_or_pos l.length with h0 | h0
      · exact h0
      · exact absurd (h.isSome h0) (by simp)
    have hl : l = [] := List.eq_nil_of_length_eq_zero hn
    subst hl
    clear hn h
    go_enter Tryz.func160, Tryz.ntmps160
    go_wp2_with fail
    go_ret
    exact ⟨_, rfl, Own.nil _ _ (Keeps.refl _)⟩
  | some ad =>
    have hO0 := Own.made (e := 153) (sz := 9) (Keeps.refl w) [] 0 (by decide) rfl
    have HO0 := Lib.hid hO0
    have HR := Lib.hid (h.keep ((Keeps.refl w).alloc (.cells #[] 153)))
    clear hO0 h
    go_enter Tryz.func160, Tryz.ntmps160
    go_wp2_with (at_builtin; refine wp_app ty_nl rfl _ _ rfl HO0.out rfl rfl HR.out (nl_cells l) (by omega) ?_)
    intro v' w1 hO1 hgr
    have HO1 := Lib.hid hO1
    clear hO1 hgr
    go_wp2_with fail
    go_ret
    have ho := HO1.out
    exact ⟨v', rfl, ho⟩
set_option maxHeartbeats 1600000 in
theorem indexFuncN_any (a : Option Addr) (n c : Nat) (l : List NA) (w : World) (g : Nat) (lb : Array Value) (p : NA → Bool) (h : Rd w a n c 9 (nl l))
    (eg : ∀ args w, (callFunc g args).run Tryz.prog w = .ok (.enter g args) w) (hp : PredK Tryz.prog g lb vn p l w) :
    Calls Tryz.prog 205 #[.slice a n c, .func (.func g) #[] lb] w fun e w' => e = .returned (.int .i64 (idxFrom p l 0)) ∧ Keeps w w' := by
  have s1 := h.small
  have l1 := nl_rdlen h
  have L1 := Lib.hid l1; clear l1
  have HP := Lib.hid hp; clear hp
  go_enter Tryz.func205, Tryz.ntmps205
  go_wp2
  go_loopw [8] (fun v wr => ∃ k : Nat, k ≤ n ∧ v = .int .i64 k ∧ Keeps w wr ∧ Hid (idxFrom p l 0 = idxFrom p (l.drop k) k)) (fun v _ => n - (RowKit.intOf v).toNat)
  case atStart => exact ⟨0, Nat.zero_le _, rfl, Keeps.refl _, rfl⟩
  case round =>
    obtain ⟨k, hk, rfl, K1, HI⟩ := hrel
    by_cases hlt : k < n
    · obtain ⟨g0, g1, g2, g3, g4, g5, g6, g7, g8⟩ := nl_at (h.keep K1) hlt
      have ha := h.isSome (by omega)
      have hcall := HP.out wr (naA l k) (naA_mem (by have := L1.out; omega)) K1
      unfold vn at hcall
      have HC := Lib.hid hcall; clear hcall
      have hdr := dropEN L1 hlt
      have HDR := Lib.hid hdr; clear hdr
      generalize naA l k = x at *
      cases hq : p x with
      | true =>
        rw [hq] at HC
        have HQ := Lib.hid hq; clear hq
        go_wp2_with (go_at_fn g; refine (HC.out).mono ?_; rintro e w' ⟨rfl, K2⟩)
        go_ret
        exact ⟨by rw [HI.out, HDR.out, idxFrom, if_pos HQ.out]; rfl, K1.trans K2⟩
      | false =>
        rw [hq] at HC
        have HQ := Lib.hid hq; clear hq
        go_wp2_with (go_at_fn g; refine (HC.out).mono ?_; rintro e w' ⟨rfl, K2⟩)
        go_roundw
        case rel => exact ⟨k + 1, by omega, by go_num, K1.trans K2, hrfl <| by rw [HI.out, HDR.out, idxFrom, if_neg (by rw [HQ.out]; simp)]⟩
        case measure => simp [RowKit.intOf]; omega
    · go_wp2
      go_ret
      exact ⟨by rw [HI.out, dropENN L1 hlt, idxFrom]; rfl, K1⟩
end Go.Proofs.YtijknodekomdfaaGreatDoor
namespace Go.Proofs.YtijknodekomdfaaGreatDoor
open Go.RowKit Go.Lib Go.Shelf

theorem grown_trans {a b c : World} {row : Option Nat} (h : a.grownBy b row) (k : b.grownBy c row) : a.grownBy c row :=
  ⟨k.os.trans h.os, k.tape.trans h.tape, k.output.trans h.output, Nat.le_trans h.size k.size, fun i hi hr => (k.block i (Nat.lt_of_lt_of_le hi h.size) hr).trans (h.block i hi hr)⟩
theorem grown_drew (w : World) (row : Option Nat) : w.grownBy w.drew row := ⟨rfl, rfl, rfl, Nat.le_refl _, fun _ _ _ => rfl⟩
theorem own_putAll {e : TypeId} {sz : Nat} {w0 : World} {g n cap : Nat} : ∀ (vs : List Value) (o : Nat) {w : World} {xs : List Value}, Own e sz w0 w (.slice (some ⟨g, 0, none⟩) n cap) n xs →
    ∃ ys, Own e sz w0 (w.setCells g o vs) (.slice (some ⟨g, 0, none⟩) n cap) n ys ∧ w.grownBy (w.setCells g o vs) (some g) ∧ ∀ j, ys[j]? = if o ≤ j ∧ j < o + vs.length ∧ j < xs.length then vs[j - o]? else xs[j]?
  | [], o, w, xs, h => ⟨xs, h, World.grownBy.refl _ _, fun j => by rw [if_neg (by simp; omega)]⟩
  | v :: r, o, w, xs, h => by
    obtain ⟨ys, h1, hg, h2⟩ := own_putAll r (o + 1) (own_put1' h o v)
    refine ⟨ys, h1, grown_trans (h.1.stored o v).2 hg, fun j => ?_⟩
    rw [h2 j, List.length_set, List.getElem?_set]
    by_cases e1 : o = j
    · subst e1
      rw [if_neg (by omega), if_pos rfl]
      by_cases hl : o < xs.length
      · rw [if_pos hl, if_pos ⟨Nat.le_refl _, by simp, hl⟩, Nat.sub_self]; rfl
      · rw [if_neg hl, if_neg (by omega), List.getElem?_eq_none (by omega)]
    · rw [if_neg e1]
      by_cases h3 : o + 1 ≤ j ∧ j < o + 1 + r.length ∧ j < xs.length
      · rw [if_pos h3, if_pos ⟨by omega, by simp; omega, h3.2.2⟩, show j - o = (j - (o + 1)) + 1 by omega, List.getElem?_cons_succ]
      · rw [if_neg h3, if_neg (by simp; omega)]
theorem own_cut' {e : TypeId} {sz : Nat} {w0 w : World} {g n cap : Nat} {xs : List Value} (h : Own e sz w0 w (.slice (some ⟨g, 0, none⟩) n cap) n xs) (k : Nat) (hk : k ≤ n) :
    Own e sz w0 w (.slice (some ⟨g, 0, none⟩) k cap) k (xs.take (k * sz)) := by
  obtain ⟨⟨h1, h2⟩, hK⟩ := h
  have hkz : k * sz ≤ n * sz := Nat.mul_le_mul_right _ hk
  rcases h2 with ⟨h', _⟩ | ⟨g', cap', cur, h', hb, hg, hnc, hcm, hcs, htake⟩
  · simp at h'
  · simp only [Value.slice.injEq, Option.some.injEq, Addr.mk.injEq, and_true, true_and] at h'
    obtain ⟨rfl, rfl⟩ := h'
    refine ⟨⟨by rw [List.length_take, h1]; omega, .inr ⟨g, cap, cur, rfl, hb, hg, by omega, hcm, hcs, ?_⟩⟩, hK⟩
    rw [← htake, List.take_take, Nat.min_eq_left hkz]
/-- clear of a slice of structs -/
theorem clearE {P : Program} {w : World} {t e ty : TypeId} {z : Value} (ht : P.underlying t = some (.slice e)) (hv : ∀ w, (zeroValue e).run P w = .ok z w) (hz : ∀ u ∈ z.cells.toList, u.oneCell' = true) (hz0 : 0 < z.cells.size) (b o n c : Nat) (hn : 0 < n)
    (hc : ∀ j, j < n * z.cells.size → (w.cell? ⟨b, o + j, none⟩).isSome = true) (hf : ∀ j, j < n * z.cells.size → w.frozen? ⟨b, o + j, none⟩ = false) :
    (Builtin.clear_ #[t] ty #[.slice (some ⟨b, o, none⟩) n c]).run P w = .ok (.tuple #[]) (w.setCells b o (Builtin.zeroCells z.cells n).toList) := by
  have hlen : (Builtin.zeroCells z.cells n).toList.length = n * z.cells.size := by simp [Builtin.zeroCells]
  have h1 : ∀ v ∈ (Builtin.zeroCells z.cells n).toList, v.oneCell' = true := by
    intro v hv'
    simp only [Builtin.zeroCells, Array.toList_map, List.mem_map] at hv'
    obtain ⟨i, _, rfl⟩ := hv'
    refine hz _ ?_
    have hi : i % z.cells.size < z.cells.size := Nat.mod_lt _ hz0
    rw [getElem!_pos z.cells _ hi]
    simp
  have hst := run_storeCells_cells (P := P) b o (Builtin.zeroCells z.cells n).toList 0 w (by rw [hlen]; simpa using hc) (by rw [hlen]; simpa using hf) h1
  simp only [Nat.add_zero] at hst
  obtain ⟨m, rfl⟩ : ∃ m, n = m + 1 := ⟨n - 1, by omega⟩
  simp [Builtin.clear_, run_underlying ht, hv, hst]
def zC : Value := .agg #[.int .i64 0, .int .i64 0, .int .i64 0, .string ⟨#[]⟩]
theorem erase_cl (l : List Ct) (i : Nat) : cl (l.eraseIdx i) = (cl l).take (i * 4) ++ (cl l).drop ((i + 1) * 4) := by
  rw [List.eraseIdx_eq_take_drop_succ, cl_append, cl_take, cl_drop]
set_option maxRecDepth 100000 in
set_option maxHeartbeats 4000000 in
theorem deleteC_any (w0 w : World) (g n cap : Nat) (l : List Ct) (i : Nat) (h : Own 145 4 w0 w (.slice (some ⟨g, 0, none⟩) n cap) n (cl l)) (hi : i < n) (hn : n ≤ 1000000) :
    Calls Tryz.prog 157 #[.slice (some ⟨g, 0, none⟩) n cap, .int .i64 i, .int .i64 ((i : Int) + 1)] w fun e w' => e = .returned (.slice (some ⟨g, 0, none⟩) (n - 1) cap) ∧ Own 145 4 w0 w' (.slice (some ⟨g, 0, none⟩) (n - 1) cap) (n - 1) (cl (l.eraseIdx i)) ∧ w.grownBy w' (some g) := by
  have hl : l.length = n := by have := h.1.1; rw [cl_len] at this; omega
  have hcl : (cl l).length = n * 4 := by rw [cl_len, hl]
  obtain ⟨_, _, hgc, hnc, hcm⟩ := h.some (by omega)
  cases hgc
  obtain ⟨i0, hi0, hz0, hz1, hz2⟩ := info_parts info_cl
  have h1 := (Own.keep h ((Keeps.refl w).drew))
  obtain ⟨news, hnews⟩ : ∃ news, news = (cl l).drop ((i + 1) * 4) := ⟨_, rfl⟩
  have hlen : news.length = (n - (i + 1)) * 4 := by rw [hnews, List.length_drop, hcl]; omega
  obtain ⟨A, hA, hsrc⟩ : ∃ A : Addr, subs (some ⟨g, 0, none⟩) cap (i + 1) 4 = some A ∧ Hid (∀ t u, news[t]? = some u → w.drew.cell? (A.add t) = some u) := by
    by_cases hc : cap = i + 1
    · refine ⟨⟨g, 0, none⟩, by unfold subs; rw [if_pos hc], fun t u hu => ?_⟩
      have h0 : news.length = 0 := by rw [hlen]; omega
      rw [List.length_eq_zero_iff.1 h0] at hu
      simp at hu
    · refine ⟨⟨g, (i + 1) * 4, none⟩, by unfold subs; rw [if_neg hc, Option.map_some, Addr.add_lit, Nat.zero_add], fun t u hu => ?_⟩
      have ht : t < (n - (i + 1)) * 4 := by
        have := (List.getElem?_eq_some_iff.1 hu).1
        rwa [hlen] at this
      rw [hnews, List.getElem?_drop] at hu
      rw [Addr.add_lit, h1.1.cellAt _ (by omega), hu]
  have s2 : Hid (∀ u ∈ news, u.oneCell' = true) := fun u hu => by
    rw [hnews] at hu
    exact cl_cells l u (List.mem_of_mem_drop hu)
  have s3 : Hid (∀ t, t < news.length → (w.drew.cell? ⟨g, 0 + i * 4 + t, none⟩).isSome = true ∧ w.drew.frozen? ⟨g, 0 + i * 4 + t, none⟩ = false) := by
    intro t ht
    rw [hlen] at ht
    rw [Nat.zero_add]
    refine ⟨?_, h1.1.frozenAt _⟩
    rw [h1.1.cellAt _ (by omega), List.getElem?_eq_getElem (by omega)]; rfl
  obtain ⟨W1, hW1⟩ : ∃ W1, W1 = w.drew.setCells g (0 + i * 4) news := ⟨_, rfl⟩
  obtain ⟨ys, hy1, hyg, hy2⟩ := own_putAll news (0 + i * 4) h1
  rw [← hW1] at hy1 hyg
  have hz4 : zC.cells.size = 4 := rfl
  have hcl2 : ∀ ty, (Builtin.clear_ #[73] ty #[.slice (some ⟨g, (i + (n - (i + 1))) * 4, none⟩) (n - (i + (n - (i + 1)))) (cap - (i + (n - (i + 1))))]).run Tryz.prog W1 = .ok (.tuple #[]) (W1.setCells g ((i + (n - (i + 1))) * 4) (Builtin.zeroCells zC.cells (n - (i + (n - (i + 1))))).toList) :=
    fun ty => clearE Tryz.underlying73 Tryz.zeroValue145 (by decide) (by decide) g _ _ _ (by omega) (fun j hj => by change j < _ * 4 at hj; rw [hy1.1.cellAt _ (by omega), List.getElem?_eq_getElem (by rw [hy1.1.1]; omega)]; rfl) (fun j _ => hy1.1.frozenAt _)
  obtain ⟨zs, hz3, hzg, hz5⟩ := own_putAll (Builtin.zeroCells zC.cells (n - (i + (n - (i + 1))))).toList ((i + (n - (i + 1))) * 4) hy1
  have hfin := own_cut' hz3 (n - 1) (by omega)
  have hys : ys.length = n * 4 := hy1.1.1
  have hzl : zs.length = n * 4 := hz3.1.1
  have e1 : zs.take ((n - 1) * 4) = cl (l.eraseIdx i) := by
    rw [erase_cl]
    apply List.ext_getElem?
    intro j
    by_cases hj : j < (n - 1) * 4
    · rw [List.getElem?_take, if_pos hj, hz5 j, if_neg (by omega), hy2 j]
      by_cases hj2 : j < i * 4
      · rw [if_neg (by omega), List.getElem?_append_left (by rw [List.length_take]; omega), List.getElem?_take, if_pos hj2]
      · rw [if_pos ⟨by omega, by rw [hlen]; omega, by omega⟩, List.getElem?_append_right (by rw [List.length_take]; omega), hnews, List.length_take, hcl, Nat.min_eq_left (by omega), Nat.zero_add]
    · rw [List.getElem?_eq_none (by rw [List.length_take]; omega), List.getElem?_eq_none (by rw [List.length_append, List.length_take, List.length_drop]; omega)]
  rw [e1] at hfin
  have hgr : w.grownBy (W1.setCells g ((i + (n - (i + 1))) * 4) (Builtin.zeroCells zC.cells (n - (i + (n - (i + 1))))).toList) (some g) := by
    exact grown_trans (grown_trans (grown_drew w _) hyg) hzg
  have e2 : i + (n - (i + 1)) = n - 1 := by omega
  have HFIN := Lib.hid hfin; have HGR := Lib.hid hgr; have HE2 := Lib.hid e2
  have HW := Lib.hid hW1; have HA := Lib.hid hA; have HLEN := Lib.hid hlen
  clear hfin hgr e2 hW1 hA hlen hz3 hzg hz5 hy1 hyg hy2 hys hzl e1 hnews h h1 hl hcl
  unfold maxLen at hcm
  have hib : (i : Int) + 1 ≤ (n : Int) := by omega
  have hic : i ≤ cap := by omega
  have hjc : i + 1 ≤ cap := by omega
  have hne : ((i : Int) == (i : Int) + 1) = false := by rw [beq_eq_false_iff_ne]; omega
  have hq0 : (0 : Int) ≤ (i : Int) + 1 := by omega
  go_enter Tryz.func157, Tryz.ntmps157
  go_wp2_with fail
  go_region_law (refine step_append_room rfl (.tmp 22) (.tmp 25) 73 rfl 145 i0 4 Tryz.underlying73 hi0 hz1 g 0 i cap (by simp [Act.eval, Act.put]) A (n - (i + 1)) (cap - (i + 1)) news (by simp [Act.eval, Act.put]; exact HA.out) HLEN.out hsrc.out s2.out (by omega) s3.out ?_; rw [← HW.out])
  go_wp2
  rename_i x cs heq
  obtain rfl : cs = zC.cells := by rw [heq]; rfl
  go_ret
  exact ⟨by rw [HE2.out]; rfl, HFIN.out, HGR.out⟩
end Go.Proofs.YtijknodekomdfaaGreatDoor
