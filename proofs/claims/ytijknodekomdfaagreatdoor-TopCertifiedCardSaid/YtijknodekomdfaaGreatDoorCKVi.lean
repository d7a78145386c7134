/- Texts joined into one, what is needed of them (a program of ours). -/
import Derived.Test.YtijknodekomdfaaGreatDoorCKVd
import Derived.Test.YtijknodekomdfaaGreatDoorCKVb
namespace Go.Proofs.YtijknodekomdfaaGreatDoor
open Go.RowKit Go.Lib Go.Shelf

/-- the places of the servers seen so far -/
def plF (M : List Nat) (s : Nat) : Nat := if s ∈ M then plM M s else 0
def pcs (M : List Nat) : Array Value := Array.ofFn (n := 12) fun i => .int .i64 ((plF M i.val : Nat) : Int)
theorem pcs_any (M : List Nat) {s : Nat} (h : s < 12) : (pcs M)[s]? = some (.int .i64 ((plF M s : Nat) : Int)) := by
  unfold pcs; simp [h]
theorem pcs_at {M : List Nat} {s : Nat} (h : s < 12) (hm : s ∈ M) : (pcs M)[s]? = some (.int .i64 ((plM M s : Nat) : Int)) := by
  rw [pcs_any M h]; unfold plF; rw [if_pos hm]
theorem plF_step {M : List Nat} (hn : M.Nodup) {i : Nat} (hi : i < M.length) (s : Nat) : plF (M.take (i + 1)) s = if s = im M i then i else plF (M.take i) s := by
  have e : M.take (i + 1) = M.take i ++ [im M i] := getD_takeE M i 0 hi
  have hni : im M i ∉ M.take i := by
    intro hm
    have h2 : (M.take i ++ [im M i]).Nodup := by rw [← e]; exact hn.sublist (List.take_sublist _ _)
    rw [List.nodup_append] at h2
    exact h2.2.2 _ hm _ (List.mem_singleton.2 rfl) rfl
  unfold plF plM
  rw [e]
  by_cases hs : s = im M i
  · subst hs
    rw [if_pos rfl, if_pos (by simp), List.idxOf_append, if_neg hni]
    simp [List.length_take]
    omega
  · rw [if_neg hs]
    by_cases hm : s ∈ M.take i
    · rw [if_pos hm, if_pos (List.mem_append_left _ hm), List.idxOf_append, if_pos hm]
    · rw [if_neg hm, if_neg (by simp [hm, hs])]
theorem pcs_set {M : List Nat} (hn : M.Nodup) {i : Nat} (hi : i < M.length) : (pcs (M.take i)).setIfInBounds (im M i) (.int .i64 (i : Int)) = pcs (M.take (i + 1)) := by
  apply Array.ext
  · simp [pcs]
  · intro j h1 h2
    have hj : j < 12 := by simpa [pcs] using h2
    have e1 : ∀ (u : List Nat) (h3 : j < (pcs u).size), (pcs u)[j] = .int .i64 ((plF u j : Nat) : Int) := fun u h3 => by
      have h4 := pcs_any u hj
      rw [Array.getElem?_eq_getElem h3] at h4
      exact Option.some.inj h4
    rw [Array.getElem_setIfInBounds (by simpa [pcs] using hj), e1, e1, plF_step hn hi]
    by_cases e : im M i = j
    · rw [if_pos e, if_pos e.symm]
    · rw [if_neg e, if_neg (fun h => e h.symm)]
theorem members_nodup (x : S) : (members x).Nodup := by
  unfold members
  exact List.nodup_range.sublist List.filter_sublist
/-- a row of another block -/
def KidOk (w : World) (tv : Value) (z : NE) : Prop := Row0 3 1 w (.slice z.ak z.x.ks.length z.ck) z.x.ks.length (il z.x.ks) ∧ ((Value.slice z.ak z.x.ks.length z.ck).ownBlock = none ∨ (Value.slice z.ak z.x.ks.length z.ck).ownBlock ≠ tv.ownBlock)
structure OfS (w0 w : World) (RB XB PB : Nat) (M : List Nat) (xv : Value) (r : Int) (tv : Value) (nes : List NE) (tops : List Nat) : Prop where
  rb : Blk w RB 121 #[.slice none 0 0, .int .i64 0]
  xb : Blk w XB 121 #[xv, .int .i64 r]
  ne : RB ≠ XB
  nd : Own 194 5 w0 w xv nes.length (nel nes)
  pb : Blk w PB 190 (pcs M)
  tp : Own 3 1 w0 w tv tops.length (il tops)
  kd : ∀ z ∈ nes, KidOk w tv z
theorem KidOk.keep {w w' : World} {tv : Value} {z : NE} (h : KidOk w tv z) (k : Keeps w w') : KidOk w' tv z := ⟨h.1.keep k, h.2⟩
theorem blk_tne {w : World} {B C : Nat} {T U : TypeId} {cs ds : Array Value} (h : Blk w B T cs) (k : Blk w C U ds) (hT : T ≠ U) : B ≠ C := by
  rintro rfl
  unfold Blk at h k
  rw [h] at k
  injection k with k
  injection k with _ h2
  exact hT h2
section
variable {w0 w w' : World} {RB XB PB : Nat} {M : List Nat} {xv tv : Value} {r : Int} {nes : List NE} {ts : List Nat}
theorem OfS.keep (h : OfS w0 w RB XB PB M xv r tv nes ts) (k : Keeps w w') : OfS w0 w' RB XB PB M xv r tv nes ts :=
  ⟨h.rb.keep k, h.xb.keep k, h.ne, h.nd.keep k, h.pb.keep k, h.tp.keep k, fun z hz => (h.kd z hz).keep k⟩
theorem KidOk.tops {tv' : Value} {z : NE} (h : KidOk w tv z) (hg : w.grownBy w' tv.ownBlock) (hb : tv'.ownBlock = tv.ownBlock ∨ tv'.ownBlock = some w.heap.size) : KidOk w' tv' z := by
  obtain ⟨h1, h2⟩ := h
  refine ⟨World.ownsRow.kept h1 hg h2, ?_⟩
  rcases hb with hb | hb
  · rw [hb]; exact h2
  · right
    rw [hb]
    intro e
    have := (h1.lt _ e).2
    omega
/-- behind an append to the tops -/
theorem OfS.tops {tv' : Value} {ts' : List Nat} (h : OfS w0 w RB XB PB M xv r tv nes ts) (hO : Own 3 1 w0 w' tv' ts'.length (il ts')) (hg : w.grownBy w' tv.ownBlock) (hb : tv'.ownBlock = tv.ownBlock ∨ tv'.ownBlock = some w.heap.size) :
    OfS w0 w' RB XB PB M xv r tv' nes ts' :=
  ⟨blk_grown h.rb hg (blk_ne h.rb h.tp.1 (by decide)), blk_grown h.xb hg (blk_ne h.xb h.tp.1 (by decide)), h.ne, ⟨row_kept h.nd.1 h.tp.1 (by decide) hg, hO.2⟩, blk_grown h.pb hg (blk_ne h.pb h.tp.1 (by decide)), hO, fun z hz => (h.kd z hz).tops hg hb⟩
/-- the variable behind an append to the nodes -/
theorem OfS.xbg (h : OfS w0 w RB XB PB M xv r tv nes ts) (hg : w.grownBy w' xv.ownBlock) : Blk w' XB 121 #[xv, .int .i64 r] := blk_grown h.xb hg (blk_ne h.xb h.nd.1 (by decide))
/-- behind an append to the nodes, and its store -/
theorem OfS.node {xv' : Value} (h : OfS w0 w RB XB PB M xv r tv nes ts) (hX : w0.heap.size ≤ XB) {z : NE} (hz : KidOk w tv z) (hO : Own 194 5 w0 w' xv' (nes ++ [z]).length (nel (nes ++ [z]))) (hg : w.grownBy w' xv.ownBlock) :
    OfS w0 (w'.setCell ⟨XB, 0, none⟩ xv') RB XB PB M xv' r tv (nes ++ [z]) ts := by
  have hx := h.xbg hg
  have hr := blk_grown h.rb hg (blk_ne h.rb h.nd.1 (by decide))
  have hp := blk_grown h.pb hg (blk_ne h.pb h.nd.1 (by decide))
  have hxp : PB ≠ XB := blk_tne h.pb h.xb (by decide)
  refine ⟨hr.setOther h.ne 0 xv', hx.set 0 xv', h.ne, ⟨row_set hO.1 hx (by decide) 0 xv', keeps_set hO.2 hX 0 xv'⟩, hp.setOther hxp 0 xv', ⟨row_set (row_kept h.tp.1 h.nd.1 (by decide) hg) hx (by decide) 0 xv', keeps_set hO.2 hX 0 xv'⟩, fun y hy => ?_⟩
  have key : ∀ y, KidOk w tv y → KidOk (w'.setCell ⟨XB, 0, none⟩ xv') tv y := fun y hy => ⟨row_set (row_kept hy.1 h.nd.1 (by decide) hg) hx (by decide) 0 xv', hy.2⟩
  rcases List.mem_append.1 hy with h1 | h1
  · exact key y (h.kd y h1)
  · rw [List.mem_singleton.1 h1]; exact key z hz
/-- behind a store of a place -/
theorem OfS.place {i : Nat} (h : OfS w0 w RB XB PB (M.take i) xv r tv nes ts) (hP : w0.heap.size ≤ PB) (hn : M.Nodup) (hi : i < M.length) :
    OfS w0 (w.setCell ⟨PB, im M i, none⟩ (.int .i64 (i : Int))) RB XB PB (M.take (i + 1)) xv r tv nes ts := by
  refine ⟨h.rb.setOther (blk_tne h.rb h.pb (by decide)) _ _, h.xb.setOther (blk_tne h.xb h.pb (by decide)) _ _, h.ne, ⟨row_set h.nd.1 h.pb (by decide) _ _, keeps_set h.nd.2 hP _ _⟩, ?_, ⟨row_set h.tp.1 h.pb (by decide) _ _, keeps_set h.tp.2 hP _ _⟩, fun z hz => ⟨row_set (h.kd z hz).1 h.pb (by decide) _ _, (h.kd z hz).2⟩⟩
  rw [← pcs_set hn hi]
  exact h.pb.set _ _
/-- behind a store of the root -/
theorem OfS.root (h : OfS w0 w RB XB PB M xv r tv nes ts) (hX : w0.heap.size ≤ XB) (q : Int) : OfS w0 (w.setCell ⟨XB, 1, none⟩ (.int .i64 q)) RB XB PB M xv q tv nes ts :=
  ⟨h.rb.setOther h.ne 1 _, h.xb.set 1 _, h.ne, ⟨row_set h.nd.1 h.xb (by decide) _ _, keeps_set h.nd.2 hX _ _⟩, h.pb.setOther (blk_tne h.pb h.xb (by decide)) _ _, ⟨row_set h.tp.1 h.xb (by decide) _ _, keeps_set h.tp.2 hX _ _⟩, fun z hz => ⟨row_set (h.kd z hz).1 h.xb (by decide) _ _, (h.kd z hz).2⟩⟩
/-- the tops are a node's kids from now on -/
theorem OfS.drop (h : OfS w0 w RB XB PB M xv r tv nes ts) : OfS w0 w RB XB PB M xv r (.slice none 0 0) nes [] :=
  ⟨h.rb, h.xb, h.ne, h.nd, h.pb, Own.nil _ _ h.nd.2, fun z hz => ⟨(h.kd z hz).1, by
    show _ = none ∨ _ ≠ none
    by_cases e : (Value.slice z.ak z.x.ks.length z.ck).ownBlock = none
    · exact .inl e
    · exact .inr e⟩⟩
/-- a row that was made later is not the tops' -/
theorem kid_of {wb : World} {ak : Option Addr} {ck : Nat} {z : NE} (hz : z.ak = ak ∧ z.ck = ck) (ho : Own 3 1 wb w (.slice ak z.x.ks.length ck) z.x.ks.length (il z.x.ks)) (ht : ∀ g, tv.ownBlock = some g → g < wb.heap.size) : KidOk w tv z := by
  obtain ⟨rfl, rfl⟩ := hz
  refine ⟨ho.row0, ?_⟩
  cases e : (Value.slice z.ak z.x.ks.length z.ck).ownBlock with
  | none => exact .inl rfl
  | some g =>
    right
    intro h2
    have h3 := (ho.1.lt g e).1
    have h4 := ht g h2.symm
    omega
/-- the expression in the result's variable -/
theorem OfS.toX {ax : Option Addr} {cx : Nat} {q : Nat} {x : List ND × Nat} (h : OfS w0 w RB XB PB M (.slice ax nes.length cx) (q : Int) tv nes ts) (hR : w0.heap.size ≤ RB) (hx : nes.map NE.x = x.1) (hq : q = x.2) :
    HasX ((w.setCell ⟨RB, 0, none⟩ (.slice ax nes.length cx)).setCell ⟨RB, 1, none⟩ (.int .i64 q)) x (.agg #[.slice ax nes.length cx, .int .i64 q]) ∧ Keeps w0 ((w.setCell ⟨RB, 0, none⟩ (.slice ax nes.length cx)).setCell ⟨RB, 1, none⟩ (.int .i64 q)) := by
  have h1 := row_set (row_set h.nd.1 h.rb (by decide) 0 (.slice ax nes.length cx)) (h.rb.set 0 (.slice ax nes.length cx)) (by decide) 1 (.int .i64 q)
  refine ⟨⟨ax, cx, nes, by rw [hq], ?_, fun z hz => ?_, hx⟩, keeps_set (keeps_set h.nd.2 hR _ _) hR _ _⟩
  · obtain ⟨a8, c8, e8, h8⟩ := own_rd h1
    cases e8
    exact h8
  · have h2 : Row0 3 1 _ _ _ _ := row_set (row_set (h.kd z hz).1 h.rb (by decide) 0 (.slice ax nes.length cx)) (h.rb.set 0 (.slice ax nes.length cx)) (by decide) 1 (.int .i64 q)
    exact h2.rd
end
/-- a leaf -/
def lfE (s : Nat) : NE := ⟨lfN s, none, 0⟩
theorem lf_kid (w : World) (tv : Value) (s : Nat) : KidOk w tv (lfE s) := ⟨⟨rfl, .inl ⟨rfl, rfl⟩⟩, .inl rfl⟩
end Go.Proofs.YtijknodekomdfaaGreatDoor
namespace Go.Proofs.YtijknodekomdfaaGreatDoor
open Go.RowKit Go.Lib Go.Shelf

theorem resExpr {fn : Func} {p u : Tmp} (h : fn.results = #[.cell p 121, .tmp u]) {tmps : Array Value} {W : World} {B : Nat} {v0 v1 v : Value} (hB : Blk W B 121 #[v0, v1])
    (tp : tmps.getD p undef = .pointer (some ⟨B, 0, none⟩)) (tu : tmps.getD u undef = v) :
    (results fn tmps).run Tryz.prog W = .ok (.tuple #[.agg #[v0, v1], v]) W := by
  rw [results_cell_tmp h, tp, tu]
  obtain ⟨k0, k1⟩ := hB.x2
  simp [go_sem, asAddr, loadVar, loadCells, loadCellsFrom, k0, k1]
/-- what Of came back with -/
def RetX (w : World) (x : List ND × Nat) (e : Ending) (w' : World) : Prop := ∃ v, e = .returned (.tuple #[v, .int .i64 0]) ∧ HasX w' x v ∧ Keeps w w'
theorem pcs_nil : pcs [] = #[.int .i64 0, .int .i64 0, .int .i64 0, .int .i64 0, .int .i64 0, .int .i64 0, .int .i64 0, .int .i64 0, .int .i64 0, .int .i64 0, .int .i64 0, .int .i64 0] := rfl
theorem ty_intl : STy Tryz.prog 191 3 1 8 := STy.of Tryz.underlying191 (show (Tryz.prog.info? 3).map (fun i => (i.zero, i.size, i.bytes)) = some (some (.int .i64 0), 1, 8) by kernel_rfl) rfl (by decide) (by decide)
theorem il_append (l m : List Nat) : il (l ++ m) = il l ++ il m := by simp [il]
theorem il_cells (l : List Nat) : ∀ v ∈ il l, v.oneCell' = true := fun v hv => by
  unfold il at hv
  obtain ⟨x, _, rfl⟩ := List.mem_map.1 hv
  rfl
theorem lf_snoc (M : List Nat) (i : Nat) (h : i < M.length) : (M.take (i + 1)).map lfE = (M.take i).map lfE ++ [lfE (im M i)] := by
  rw [getD_takeE M i 0 h, List.map_append]; rfl
theorem ofFold_snoc (M : List Nat) (a : List ND × List Nat) (f : List S) (i : Nat) (h : i < f.length) : ofFold M a (f.take (i + 1)) = ofStep M (ofFold M a (f.take i)) (at_ f i) := by
  unfold ofFold
  rw [take_at f i h, List.foldl_append]
  rfl
set_option maxRecDepth 20000 in
set_option maxHeartbeats 8000000 in
theorem of20_any (a1 : Option Addr) (n1 c1 : Nat) (f : List S) (w : World) (hT : Tab w) (h : Rd w a1 n1 c1 1 (sl f)) (hv : validS f = 0) (hs : Sm f) :
    Calls Tryz.prog 72 #[.slice a1 n1 c1] w fun e w' => RetX w (ofX f) e w' := by
  have h1 := fun W (k : Keeps w W) => valid_any a1 n1 c1 f W (h.keep k)
  rw [hv] at h1
  have h2 := fun W (k : Keeps w W) => support_any a1 n1 c1 f W (h.keep k)
  have h3 := fun W (k : Keeps w W) => members_any (supS f) W (hT.keep k) hs.sup
  have h4 := fun (x : S) (hx : x ∈ f) W (k : Keeps w W) => members_any x W (hT.keep k) (hs.el x hx)
  have hvx := hs.vx
  have hms := mem_sup hs.el hs.sup hs.sub
  have hM12 : ∀ m ∈ members (supS f), m < 12 := fun m hm => memb_lt12 hm
  have hMn := members_nodup (supS f)
  have hMl := memb_len12 (supS f)
  have l1 := h.lenS
  have hof : ofX f = (let a := ofRaw f; if a.2.length = 1 then (a.1, im a.2 0) else (a.1 ++ [thN 1 a.2], a.1.length)) := rfl
  have hraw : ofRaw f = ofFold (members (supS f)) ((members (supS f)).map lfN, []) (f.take n1) := by rw [← l1, List.take_length]; rfl
  have hg0 : ofFold (members (supS f)) ((members (supS f)).map lfN, []) (f.take 0) = ((members (supS f)).map lfN, []) := rfl
  have hgs := fun i (hi : i < f.length) => ofFold_snoc (members (supS f)) ((members (supS f)).map lfN, []) f i hi
  obtain ⟨G, hG⟩ : ∃ G : Nat → List ND × List Nat, ∀ i, G i = ofFold (members (supS f)) ((members (supS f)).map lfN, []) (f.take i) := ⟨_, fun _ => rfl⟩
  have hGl : ∀ i, i ≤ n1 → (G i).1.length ≤ 12 + i ∧ (G i).2.length = i := fun i hi => by
    have h5 : OfV (members (supS f)) (G i) (0 + (f.take i).length) := by
      rw [hG]
      exact ofV_fold (f.take i) (ofV_start _ hM12) fun x hx => hms x (List.mem_of_mem_take hx)
    have h6 := h5.len
    have h7 := h5.tl
    rw [List.length_take] at h6 h7
    omega
  have hfl := hs.len
  simp only [← hG] at hraw hg0 hgs
  generalize supS f = u at *
  have z1 := h.small
  have H1 := Lib.hid h1; have H2 := Lib.hid h2; have H3 := Lib.hid h3; have H4 := Lib.hid h4; have HVX := Lib.hid hvx; have HMS := Lib.hid hms; have HM12 := Lib.hid hM12; have HMN := Lib.hid hMn
  have HOF := Lib.hid hof; have HRAW := Lib.hid hraw; have HG0 := Lib.hid hg0; have HGS := Lib.hid hgs; have HGL := Lib.hid hGl; have HR := Lib.hid h; have L1 := Lib.hid l1
  have KW := (Keeps.refl w).alloc (.cells #[.slice none 0 0, .int .i64 0] 121)
  have hrb := Blk.new w 121 #[.slice none 0 0, .int .i64 0]
  have HKW := Lib.hid KW; have HRB := Lib.hid hrb
  have hn40 : n1 ≤ 40 := by omega
  clear h1 h2 h3 h4 hvx hms hM12 hMn hof hraw hg0 hgs hG hGl hfl h l1 KW hrb hs hv hT
  go_enter Tryz.func72, Tryz.ntmps72
  go_wp2_with fail
  refine (H1.out _ HKW.out).mono ?_
  rintro e w2 ⟨rfl, K2⟩
  have hrb2 := HRB.out.keep K2
  have HK2 := Lib.hid (HKW.out.trans K2)
  generalize hRB : w.heap.size = RB at *
  have hR0 : w.heap.size ≤ RB := by omega
  have hrlt := hrb2.lt
  have HRB2 := Lib.hid hrb2
  clear HRB HKW K2 H1 hrb2
  go_upto_region 6 with fail
  rw [← pcs_nil]
  have kx := (Keeps.refl w2).alloc (.cells #[.slice none 0 0, .int .i64 0] 121)
  have hxb := Blk.new w2 121 #[.slice none 0 0, .int .i64 0]
  have hpb := Blk.new (w2.alloc (.cells #[.slice none 0 0, .int .i64 0] 121)) 190 (pcs [])
  rw [World.size_alloc] at hpb
  have kp := (Keeps.refl (w2.alloc (.cells #[.slice none 0 0, .int .i64 0] 121))).alloc (.cells (pcs []) 190)
  have hS : OfS w ((w2.alloc (.cells #[.slice none 0 0, .int .i64 0] 121)).alloc (.cells (pcs []) 190)) RB w2.heap.size (w2.heap.size + 1) [] (.slice none 0 0) 0 (.slice none 0 0) [] [] :=
    ⟨HRB2.out.keep (kx.trans kp), hxb.keep kp, by omega, Own.nil _ _ (HK2.out.trans (kx.trans kp)), hpb, Own.nil _ _ (HK2.out.trans (kx.trans kp)), fun z hz => by cases hz⟩
  have hX0 : w.heap.size ≤ w2.heap.size := HK2.out.size
  have hP0 : w.heap.size ≤ w2.heap.size + 1 := by omega
  have HS := Lib.hid hS
  clear hxb hpb kp kx hS HRB2
  generalize (w2.alloc (.cells #[.slice none 0 0, .int .i64 0] 121)).alloc (.cells (pcs []) 190) = W3 at *
  generalize w2.heap.size + 1 = PB at *
  generalize w2.heap.size = XB at *
  clear HK2 hrlt
  generalize members u = M at *
  go_wp2_with fail
  refine (H2.out W3 HS.out.nd.2).mono ?_
  rintro e w' ⟨rfl, rfl⟩
  go_wp2_with fail
  refine (H3.out W3 HS.out.nd.2).mono ?_
  rintro e w4 ⟨mv, rfl, hmo⟩
  obtain ⟨am, cm, rfl, _⟩ := hmo.rd
  have HS4 := Lib.hid (HS.out.keep hmo.2)
  have HM4 := Lib.hid hmo.row0
  clear hmo HS H2 H3
  go_wp2_with fail
  go_loopw [25] (fun y wr => ∃ (i : Nat) (xv : Value) (nes : List NE), i ≤ M.length ∧ y = .int .i64 i ∧ Hid (nes = (M.take i).map lfE) ∧ OfS w wr RB XB PB (M.take i) xv 0 (.slice none 0 0) nes [] ∧ Row0 3 1 wr (.slice am M.length cm) M.length (il M)) (fun y _ => M.length - (RowKit.intOf y).toNat)
  case atStart => exact ⟨0, _, [], Nat.zero_le _, rfl, rfl, HS4.out, HM4.out⟩
  case round =>
    clear HS4 HM4
    obtain ⟨i, xv, nes, hi, rfl, HN, hS, hMr⟩ := hrel
    by_cases hlt : i < M.length
    · have hm12 := HM12.out (im M i) (imA_mem hlt)
      have g0 := hMr.rd.cell i _ (il_at M i hlt)
      have ham := hMr.rd.isSome (by omega)
      have g1 := hS.pb.cell (im M i) (pcs_any _ hm12)
      have g2 := hS.pb.frozen (im M i)
      have hS1 := hS.place hP0 HMN.out hlt
      have hM1 : Row0 3 1 (wr.setCell ⟨PB, im M i, none⟩ (.int .i64 (i : Int))) (.slice am M.length cm) M.length (il M) := row_set hMr hS.pb (by decide) _ _
      have hsn : nes ++ [lfE (im M i)] = (M.take (i + 1)).map lfE := by rw [lf_snoc M i hlt, HN.out]
      generalize hiM : im M i = s at *
      generalize plF (M.take i) s = q0 at g1
      have hx1 := hS1.xb
      have d0 : (wr.setCell ⟨PB, s, none⟩ (.int .i64 (i : Int))).cell? ⟨XB, 0, none⟩ = some xv := hx1.cell 0 rfl
      have kA := (Keeps.refl (wr.setCell ⟨PB, s, none⟩ (.int .i64 (i : Int)))).alloc (.cells #[.int .i64 1, .int .i64 s, .int .i64 0, .slice none 0 0, .slice none 0 0] 194)
      have d1 := kA.cell d0
      have hS2 := hS1.keep kA
      have hM2 := hM1.keep kA
      have r1 : Rd ((wr.setCell ⟨PB, s, none⟩ (.int .i64 (i : Int))).alloc (.cells #[.int .i64 1, .int .i64 s, .int .i64 0, .slice none 0 0, .slice none 0 0] 194)) (some ⟨(wr.setCell ⟨PB, s, none⟩ (.int .i64 (i : Int))).heap.size, 0, none⟩) 1 1 5 (nel [lfE s]) := rd_new 194 5 _ (nel [lfE s]) 1 (by decide) rfl
      rw [show (wr.setCell ⟨PB, s, none⟩ (.int .i64 (i : Int))).heap.size = wr.heap.size from by simp] at r1
      have HS2 := Lib.hid hS2; have HM2 := Lib.hid hM2; have R1 := Lib.hid r1; have HSN := Lib.hid hsn
      have hlen : nes.length ≤ 12 := by rw [HN.out, List.length_map, List.length_take]; omega
      have HLEN := Lib.hid hlen
      clear hS hMr hS1 hM1 hx1 kA hS2 hM2 r1 hsn hlen
      go_wp2_with (at_builtin; refine wp_app ty_nel rfl _ _ rfl HS2.out.nd rfl rfl R1.out (nel_cells _) (by have := HLEN.out; omega) ?_)
      intro v' W5 hO hgr
      obtain ⟨a9, c9, rfl, _⟩ := hO.rd
      rw [← nel_append] at hO
      have hx5 := HS2.out.xbg hgr
      have hM5 : Row0 3 1 W5 (.slice am M.length cm) M.length (il M) := row_kept HM2.out HS2.out.nd.1 (by decide) hgr
      have e1 : W5.cell? ⟨XB, 0, none⟩ = some xv := hx5.cell 0 rfl
      have e2 := hx5.frozen 0
      have hS5 := HS2.out.node hX0 (lf_kid _ _ s) (by rw [List.length_append]; exact hO) hgr
      have hM6 : Row0 3 1 (W5.setCell ⟨XB, 0, none⟩ (.slice a9 (nes.length + 1) c9)) (.slice am M.length cm) M.length (il M) := row_set hM5 hx5 (by decide) _ _
      have HS5 := Lib.hid hS5; have HM6 := Lib.hid hM6
      clear hO hx5 hM5 hS5 hM6 hgr d0 d1 g0 g1 g2
      go_wp2_with fail
      go_roundw
      case rel => exact ⟨i + 1, _, _, by omega, by go_num, HSN, HS5.out, HM6.out⟩
      case measure => simp [RowKit.intOf]; omega
    · obtain rfl : i = M.length := by omega
      have hnx : nes.map NE.x = M.map lfN := by
        rw [HN.out, List.take_length, List.map_map]
        rfl
      rw [List.take_length] at hS
      have HS6 := Lib.hid hS
      have HNX := Lib.hid hnx
      clear hS hMr hnx HN
      go_wp2_with fail
      clear hi hlt
      go_loopw [9, 43] (fun t y wr => ∃ (i : Nat) (xv : Value) (nes : List NE) (tops : List Nat), i ≤ n1 ∧ y = .int .i64 i ∧ OfS w wr RB XB PB M xv 0 t nes tops ∧ Hid (nes.map NE.x = (G i).1) ∧ Hid (tops = (G i).2)) (fun _ y _ => n1 - (RowKit.intOf y).toNat)
      case atStart => exact ⟨0, xv, nes, [], Nat.zero_le _, rfl, HS6.out, Lib.hid (by rw [HG0.out]; exact HNX.out), Lib.hid (by rw [HG0.out])⟩
      case round =>
        clear HS6 HNX
        obtain ⟨i, xv, nes, tops, hi, rfl, hS, HNX, HTP⟩ := hrel
        have hgl := HGL.out i hi
        have hnl : nes.length = (G i).1.length := by rw [← HNX.out, List.length_map]
        have htl : tops.length = i := by rw [HTP.out]; exact hgl.2
        by_cases hlt : i < n1
        · have g0 := (HR.out.keep hS.nd.2).at hlt
          have ha1 := HR.out.isSome (by omega)
          have hif : i < f.length := by have := L1.out; omega
          have hxm : at_ f i ∈ f := by unfold at_; exact getD_memE 0#16 hif
          have hgs := HGS.out i hif
          have hms := HMS.out _ hxm
          have h4 := fun W k => H4.out (at_ f i) hxm W k
          have hnb : nes.length ≤ 60 := by omega
          have htb : tops.length ≤ 60 := by omega
          generalize at_ f i = x at *
          have hkl : (kidsM M x).length = (members x).length := by unfold kidsM; rw [List.length_map]
          have hkk : ∀ k, k < (members x).length → im (kidsM M x) k = plM M (im (members x) k) := fun k hk => by
            unfold kidsM im
            simp [List.getD, hk]
          have hm12 := memb_len12 x
          unfold ofStep at hgs
          have H4' := Lib.hid h4
          generalize members x = ms at *
          generalize kidsM M x = K at *
          have HKL := Lib.hid hkl; have HKK := Lib.hid hkk; have HGST := Lib.hid hgs; have HMSX := Lib.hid hms; have HNL := Lib.hid hnl; have HSb := Lib.hid hS
          clear hgl hnl htl hkl hkk hgs hms h4 hS hxm
          go_wp2_with fail
          refine (H4'.out wr HSb.out.nd.2).mono ?_
          rintro e w5 ⟨kv, rfl, hko⟩
          obtain ⟨ak, ck, rfl, _⟩ := hko.rd
          have HSc := Lib.hid (HSb.out.keep hko.2)
          have HKR := Lib.hid hko.row0
          have htlt : ∀ g, (Value.ownBlock u9) = some g → g < w5.heap.size := fun g hg => (HSc.out.tp.1.lt g hg).2
          have HTLT := Lib.hid htlt
          clear hko HSb g0 H4' htlt
          go_wp2_with fail
          go_loopw [12, 50] (fun t y wq => ∃ k : Nat, k ≤ ms.length ∧ y = .int .i64 k ∧ Own 3 1 w5 wq t k (il (K.take k))) (fun _ y _ => ms.length - (RowKit.intOf y).toNat)
          case atStart => exact ⟨0, Nat.zero_le _, rfl, Own.nil _ _ (Keeps.refl _)⟩
          case round =>
            obtain ⟨k, hk, rfl, hO⟩ := hrel
            by_cases hlk : k < ms.length
            · have g0 := (HKR.out.keep hO.2).rd.cell k _ (il_at ms k hlk)
              have hak := HKR.out.rd.isSome (by omega)
              have hmm := HMSX.out _ (imA_mem hlk)
              have hm2 := HM12.out _ hmm
              have g1 := (HSc.out.pb.keep hO.2).cell (im ms k) (pcs_at hm2 hmm)
              rw [← HKK.out k hlk] at g1
              have hts : K.take (k + 1) = K.take k ++ [im K k] := getD_takeE K k 0 (by rw [HKL.out]; exact hlk)
              generalize im ms k = m at *
              generalize im K k = q at *
              have HOK := Lib.hid hO; have HTS := Lib.hid hts
              have r1 : Rd (wr.alloc (.cells #[.int .i64 q] 3)) (some ⟨wr.heap.size, 0, none⟩) 1 1 1 (il [q]) := rd_new 3 1 wr (il [q]) 1 (by decide) rfl
              have R1 := Lib.hid r1
              clear hO hts r1 hmm
              go_wp2_with (at_builtin; refine wp_app ty_intl rfl _ _ rfl (HOK.out.alloc _) rfl rfl R1.out (il_cells _) (by omega) ?_)
              intro v' W6 hO' hgr
              rw [← il_append, ← HTS.out] at hO'
              have HO' := Lib.hid hO'
              clear hO' hgr g0 g1
              go_wp2_with fail
              go_roundw
              case rel => exact ⟨k + 1, by omega, by go_num, HO'.out⟩
              case measure => simp [RowKit.intOf]; omega
            · obtain rfl : k = ms.length := by omega
              have hO2 : Own 3 1 w5 wr u12 K.length (il K) := by
                have h5 := hO
                rw [← HKL.out, List.take_length] at h5
                exact h5
              obtain ⟨ak2, ck2, rfl, hrd⟩ := hO2.rd
              have HSd := Lib.hid (HSc.out.keep hO2.2)
              by_cases hK1 : K.length = 1
              · have g0 := hrd.cell 0 _ (il_at K 0 (by omega))
                have hak2 := hrd.isSome (by omega)
                have hst := HGST.out
                rw [if_pos hK1] at hst
                have HST := Lib.hid hst
                have hb1 : ((K.length : Int) == 1) = true := by simp; omega
                have hKp : (0 : Int) < (K.length : Int) := by omega
                have HK1 := Lib.hid hK1
                generalize im K 0 = q at *
                have r1 : Rd (wr.alloc (.cells #[.int .i64 q] 3)) (some ⟨wr.heap.size, 0, none⟩) 1 1 1 (il [q]) := rd_new 3 1 wr (il [q]) 1 (by decide) rfl
                have R1 := Lib.hid r1
                have HSe := Lib.hid (HSd.out.keep ((Keeps.refl wr).alloc (.cells #[.int .i64 q] 3)))
                clear hO hO2 hrd hst r1 hK1
                go_wp2_with (at_builtin; refine wp_app3 ty_intl rfl _ _ rfl HSe.out.tp rfl rfl R1.out (il_cells _) (by omega) ?_)
                intro v' W6 hO' hgr hbk
                rw [← il_append] at hO'
                have hS7 := HSe.out.tops (ts' := tops ++ [q]) (by rw [List.length_append]; exact hO') hgr (by rw [World.size_alloc]; exact hbk)
                have HS7 := Lib.hid hS7
                clear hO' hgr hbk hS7 g0
                go_wp2_with fail
                go_roundw
                case rel => exact ⟨i + 1, xv, nes, tops ++ [q], by omega, by go_num, HS7.out, Lib.hid (by rw [HST.out]; exact HNX.out), Lib.hid (by rw [HST.out, HTP.out])⟩
                case measure => simp [RowKit.intOf]; omega
              · have hst := HGST.out
                rw [if_neg hK1] at hst
                have HST := Lib.hid hst
                have hb1 : ((K.length : Int) == 1) = false := by simp; omega
                have hkid : KidOk wr u9 ⟨thN K.length K, ak2, ck2⟩ := kid_of (z := ⟨thN K.length K, ak2, ck2⟩) ⟨rfl, rfl⟩ hO2 HTLT.out
                obtain ⟨ax, cx, rfl, _⟩ := HSd.out.nd.rd
                have e0 : wr.cell? ⟨XB, 0, none⟩ = some (.slice ax nes.length cx) := HSd.out.xb.cell 0 rfl
                have r1 : Rd (wr.alloc (.cells #[.int .i64 nes.length] 3)) (some ⟨wr.heap.size, 0, none⟩) 1 1 1 (il [nes.length]) := rd_new 3 1 wr (il [nes.length]) 1 (by decide) rfl
                have R1 := Lib.hid r1
                have kA := (Keeps.refl wr).alloc (.cells #[.int .i64 nes.length] 3)
                have HSe := Lib.hid (HSd.out.keep kA)
                have HKID := Lib.hid (hkid.keep kA)
                have HK1 := Lib.hid hK1
                clear hO hO2 hrd hst r1 hK1 kA hkid HSc HSd
                go_wp2_with (at_builtin; refine wp_app3 ty_intl rfl _ _ rfl HSe.out.tp rfl rfl R1.out (il_cells _) (by omega) ?_)
                intro v' W6 hO' hgr hbk
                rw [← il_append] at hO'
                have hbk2 : v'.ownBlock = u9.ownBlock ∨ v'.ownBlock = some (wr.alloc (.cells #[.int .i64 nes.length] 3)).heap.size := by rw [World.size_alloc]; exact hbk
                have hS7 := HSe.out.tops (ts' := tops ++ [nes.length]) (by rw [List.length_append]; exact hO') hgr hbk2
                have hk7 := HKID.out.tops hgr hbk2
                have e1 : W6.cell? ⟨XB, 0, none⟩ = some (.slice ax nes.length cx) := hS7.xb.cell 0 rfl
                have kB := (Keeps.refl W6).alloc (.cells #[.int .i64 2, .int .i64 0, .int .i64 K.length, .slice none 0 0, .slice ak2 K.length ck2] 194)
                have e2 := kB.cell e1
                have HS8 := Lib.hid (hS7.keep kB)
                have HK8 := Lib.hid (hk7.keep kB)
                have r2 : Rd (W6.alloc (.cells #[.int .i64 2, .int .i64 0, .int .i64 K.length, .slice none 0 0, .slice ak2 K.length ck2] 194)) (some ⟨W6.heap.size, 0, none⟩) 1 1 5 (nel [(⟨thN K.length K, ak2, ck2⟩ : NE)]) := rd_new 194 5 W6 (nel [(⟨thN K.length K, ak2, ck2⟩ : NE)]) 1 (by decide) rfl
                have R2 := Lib.hid r2
                clear hO' hgr hbk hbk2 hS7 hk7 kB r2 HKID HSe R1 e0
                generalize Value.slice ax nes.length cx = xv2 at *
                go_wp2_with (at_builtin; refine wp_app ty_nel rfl _ _ rfl HS8.out.nd rfl rfl R2.out (nel_cells _) (by omega) ?_)
                intro v9 W7 hO' hgr
                obtain ⟨a9, c9, rfl, _⟩ := hO'.rd
                rw [← nel_append] at hO'
                have hx5 := HS8.out.xbg hgr
                have e3 : W7.cell? ⟨XB, 0, none⟩ = some xv2 := hx5.cell 0 rfl
                have e4 := hx5.frozen 0
                have hS9 := HS8.out.node hX0 HK8.out (by rw [List.length_append]; exact hO') hgr
                have HS9 := Lib.hid hS9
                clear hO' hgr hx5 hS9 e1 e2
                go_wp2_with fail
                go_roundw
                case rel => exact ⟨i + 1, _, _, tops ++ [nes.length], by omega, by go_num, HS9.out, Lib.hid (by rw [HST.out, List.map_append, HNX.out]; rfl), Lib.hid (by rw [HST.out, HTP.out, HNL.out])⟩
                case measure => simp [RowKit.intOf]; omega
        · obtain rfl : i = n1 := by omega
          have HNL := Lib.hid hnl; have HS := Lib.hid hS; have HTL := Lib.hid htl
          have hnb : nes.length ≤ 60 := by omega
          have hxe : ofX f = if tops.length = 1 then (nes.map NE.x, im tops 0) else (nes.map NE.x ++ [thN 1 tops], nes.length) := by
            rw [HOF.out, HRAW.out, ← HTP.out, ← HNX.out, List.length_map]
          have hvl := HVX.out.len
          obtain ⟨at9, ct9, rfl, htrd⟩ := HS.out.tp.rd
          obtain ⟨ax, cx, rfl, _⟩ := HS.out.nd.rd
          have e0 : wr.cell? ⟨XB, 0, none⟩ = some (.slice ax nes.length cx) := HS.out.xb.cell 0 rfl
          have e1 : wr.cell? ⟨XB, 1, none⟩ = some (.int .i64 0) := HS.out.xb.cell 1 rfl
          have e2 := HS.out.xb.frozen 0
          have e3 := HS.out.xb.frozen 1
          by_cases hT1 : tops.length = 1
          · rw [if_pos hT1] at hxe
            rw [hxe, List.length_map] at hvl
            have g0 := htrd.cell 0 _ (il_at tops 0 (by omega))
            have hat := htrd.isSome (by omega)
            have hb1 : ((tops.length : Int) == 1) = true := by simp; omega
            have hKp : (0 : Int) < (tops.length : Int) := by omega
            have HXE := Lib.hid hxe
            generalize im tops 0 = q at *
            have HS1 := Lib.hid (HS.out.root hX0 (q : Int))
            clear hxe hS htrd hnl htl HNL HTL hgl hT1
            go_upto_region 31 with fail
            clear e0 e1 e2 e3 g0
            generalize wr.setCell ⟨XB, 1, none⟩ (.int .i64 (q : Int)) = W6 at *
            have e0 : W6.cell? ⟨XB, 0, none⟩ = some (.slice ax nes.length cx) := HS1.out.xb.cell 0 rfl
            have e1 : W6.cell? ⟨XB, 1, none⟩ = some (.int .i64 q) := HS1.out.xb.cell 1 rfl
            have e2 := HS1.out.rb.frozen 0
            have e3 := HS1.out.rb.frozen 1
            have e4 : W6.cell? ⟨RB, 0, none⟩ = some (.slice none 0 0) := HS1.out.rb.cell 0 rfl
            have e5 : W6.cell? ⟨RB, 1, none⟩ = some (.int .i64 0) := HS1.out.rb.cell 1 rfl
            go_wp2_with fail
            refine bodyPost_ret (resExpr rfl ((HS1.out.rb.set 0 (.slice ax nes.length cx)).set 1 (.int .i64 (q : Int))) rfl rfl) rfl ?_
            have hfin := HS1.out.toX (x := ofX f) hR0 (by rw [HXE.out]) (by rw [HXE.out])
            exact ⟨_, rfl, hfin.1, hfin.2⟩
          · rw [if_neg hT1] at hxe
            rw [hxe, List.length_append, List.length_map, List.length_singleton] at hvl
            have hb1 : ((tops.length : Int) == 1) = false := by simp; omega
            have HXE := Lib.hid hxe
            have HS1 := Lib.hid ((HS.out.root hX0 (nes.length : Int)).drop)
            have HK1 : Hid (KidOk (wr.setCell ⟨XB, 1, none⟩ (.int .i64 (nes.length : Int))) (.slice none 0 0) ⟨thN 1 tops, at9, ct9⟩) := Lib.hid ⟨(HS.out.root hX0 (nes.length : Int)).tp.row0, by
              show _ = none ∨ _ ≠ none
              by_cases e : (Value.slice at9 tops.length ct9).ownBlock = none
              · exact .inl e
              · exact .inr e⟩
            clear hxe hS htrd hnl htl HNL HTL hgl hT1
            go_upto_region 30 with fail
            clear e0 e1 e2 e3
            generalize wr.setCell ⟨XB, 1, none⟩ (.int .i64 (nes.length : Int)) = W6 at *
            have e1 : W6.cell? ⟨XB, 0, none⟩ = some (.slice ax nes.length cx) := HS1.out.xb.cell 0 rfl
            have kB := (Keeps.refl W6).alloc (.cells #[.int .i64 2, .int .i64 0, .int .i64 1, .slice none 0 0, .slice at9 tops.length ct9] 194)
            have e2 := kB.cell e1
            have HS8 := Lib.hid (HS1.out.keep kB)
            have HK8 := Lib.hid (HK1.out.keep kB)
            have r2 : Rd (W6.alloc (.cells #[.int .i64 2, .int .i64 0, .int .i64 1, .slice none 0 0, .slice at9 tops.length ct9] 194)) (some ⟨W6.heap.size, 0, none⟩) 1 1 5 (nel [(⟨thN 1 tops, at9, ct9⟩ : NE)]) := rd_new 194 5 W6 (nel [(⟨thN 1 tops, at9, ct9⟩ : NE)]) 1 (by decide) rfl
            have R2 := Lib.hid r2
            clear kB r2 HS HS1 HK1
            generalize Value.slice ax nes.length cx = xv2 at *
            go_wp2_with (at_builtin; refine wp_app ty_nel rfl _ _ rfl HS8.out.nd rfl rfl R2.out (nel_cells _) (by omega) ?_)
            intro v9 W7 hO' hgr
            obtain ⟨a9, c9, rfl, _⟩ := hO'.rd
            rw [← nel_append] at hO'
            have hx5 := HS8.out.xbg hgr
            have e3 : W7.cell? ⟨XB, 0, none⟩ = some xv2 := hx5.cell 0 rfl
            have e4 := hx5.frozen 0
            have hS9 := HS8.out.node hX0 HK8.out (by rw [List.length_append]; exact hO') hgr
            have HS9 := Lib.hid hS9
            clear hO' hgr hx5 hS9 e1 e2
            go_upto_region 31 with fail
            clear e3 e4
            generalize W7.setCell ⟨XB, 0, none⟩ (.slice a9 (nes.length + 1) c9) = W8 at *
            have e0 : W8.cell? ⟨XB, 0, none⟩ = some (.slice a9 (nes.length + 1) c9) := HS9.out.xb.cell 0 rfl
            have e1 : W8.cell? ⟨XB, 1, none⟩ = some (.int .i64 nes.length) := HS9.out.xb.cell 1 rfl
            have e2 := HS9.out.rb.frozen 0
            have e3 := HS9.out.rb.frozen 1
            have e4 : W8.cell? ⟨RB, 0, none⟩ = some (.slice none 0 0) := HS9.out.rb.cell 0 rfl
            have e5 : W8.cell? ⟨RB, 1, none⟩ = some (.int .i64 0) := HS9.out.rb.cell 1 rfl
            go_wp2_with fail
            have hS10 : OfS w W8 RB XB PB M (.slice a9 (nes ++ [(⟨thN 1 tops, at9, ct9⟩ : NE)]).length c9) ((nes.length : Nat) : Int) (.slice none 0 0) (nes ++ [⟨thN 1 tops, at9, ct9⟩]) [] := by rw [List.length_append]; exact HS9.out
            have hfin := hS10.toX (x := ofX f) hR0 (by rw [HXE.out, List.map_append]; rfl) (by rw [HXE.out])
            rw [List.length_append] at hfin
            refine bodyPost_ret (resExpr rfl ((HS9.out.rb.set 0 (.slice a9 (nes.length + 1) c9)).set 1 (.int .i64 (nes.length : Int))) rfl rfl) rfl ?_
            exact ⟨_, rfl, hfin.1, hfin.2⟩
end Go.Proofs.YtijknodekomdfaaGreatDoor
