/- The reading of a list of rests, and that it reads the same in every world that extends it. -/

import Derived.Test.YtplddeboinhkbaaGreatDoorRRProg
import Derived.Test.YtplddeboinhkbaaGreatDoorRRLawB
import Derived.Test.YtplddeboinhkbaaGreatDoorRRRows
import Derived.Deep.Slices
import Derived.ChangeSame
import Derived.OpenShut
namespace Go.Proofs.YtplddeboinhkbaaGreatDoorRR
open Go.RowKit Go.ChangeShapes Go.WideShapes Go.Deep
theorem mapM_imp {α β : Type} {f g : α → Option β} : ∀ (l : List α) (bs : List β), (∀ a ∈ l, ∀ b, f a = some b → g a = some b) → l.mapM f = some bs → l.mapM g = some bs
  | [], bs, _, h => by simpa using h
  | a :: l, bs, hi, h => by
    simp only [List.mapM_cons, bind, Option.bind_eq_some_iff, pure] at h ⊢
    obtain ⟨b, hb, bs', hbs, h1⟩ := h
    exact ⟨b, hi a (by simp) b hb, bs', mapM_imp l bs' (fun x hx => hi x (by simp [hx])) hbs, h1⟩
theorem cells_ext {W W' : World} (hE : Ext W W') {base : Nat} {a : Addr} {n : Nat} {cs : List Value} (h : W.cells? base a n = some cs) : W'.cells? base a n = some cs := by
  unfold World.cells? at h ⊢
  split at h
  · rename_i hb
    rw [if_pos hb]
    exact mapM_imp _ _ (fun i _ v hv => hE.cell hv) h
  · cases h
section
variable {H : Type} {enc : TypeId × Value → H} {P : Program} {W W' : World} {base : Nat} {spare : Nat → Bool} {held : Bool}
theorem trod_ext (hE : Ext W W') : ∀ (fuel : Nat) (t : TypeId) (cs : List Value) (x : DataW H × List MemPlace), DataW.trod enc P W base spare held fuel t cs = some x → DataW.trod enc P W' base spare held fuel t cs = some x := by
  intro fuel
  induction fuel with
  | zero => intro t cs x h; simp [DataW.trod] at h
  | succ n ih =>
    intro t cs x h
    unfold DataW.trod at h ⊢
    have hcl : ∀ (a : Addr) (k : Nat) (e : TypeId) (y : DataW H × List MemPlace), (W.cells? base a k).bind (DataW.trod enc P W base spare held n e) = some y → (W'.cells? base a k).bind (DataW.trod enc P W' base spare held n e) = some y := fun a k e y hy => by
      obtain ⟨cs', h1, h2⟩ := Option.bind_eq_some_iff.1 hy
      exact Option.bind_eq_some_iff.2 ⟨cs', cells_ext hE h1, ih e cs' y h2⟩
    split at h
    all_goals (try exact h)
    · obtain ⟨y, h1, h2⟩ := Option.map_eq_some_iff.1 h
      exact Option.map_eq_some_iff.2 ⟨y, hcl _ _ _ _ h1, h2⟩
    · simp only at h ⊢
      split at h
      · rename_i hc
        rw [if_pos hc]
        obtain ⟨el, h1, h2⟩ := Option.bind_eq_some_iff.1 h
        refine Option.bind_eq_some_iff.2 ⟨el, mapM_imp _ _ (fun i _ y hy => hcl _ _ _ _ hy) h1, ?_⟩
        obtain ⟨re, h3, h4⟩ := Option.map_eq_some_iff.1 h2
        refine Option.map_eq_some_iff.2 ⟨re, ?_, h4⟩
        split at h3
        · rename_i hs
          rw [if_pos hs]
          exact mapM_imp _ _ (fun i _ y hy => hcl _ _ _ _ hy) h3
        · rename_i hs
          rw [if_neg hs]
          exact h3
      · cases h
    · split at h
      · rename_i hc
        rw [if_pos hc]
        obtain ⟨y, h1, h2⟩ := Option.map_eq_some_iff.1 h
        exact Option.map_eq_some_iff.2 ⟨y, mapM_imp _ _ (fun f _ z hz => ih _ _ _ hz) h1, h2⟩
      · cases h
    · split at h
      · rename_i hc
        rw [if_pos hc]
        obtain ⟨y, h1, h2⟩ := Option.map_eq_some_iff.1 h
        exact Option.map_eq_some_iff.2 ⟨y, mapM_imp _ _ (fun f _ z hz => ih _ _ _ hz) h1, h2⟩
      · cases h
    · split at h
      · exact h
      · obtain ⟨y, h1, h2⟩ := Option.map_eq_some_iff.1 h
        exact Option.map_eq_some_iff.2 ⟨y, ih _ _ _ h1, h2⟩
      · exact h
    · split at h
      · rename_i hb
        rw [hE.heap hb]
        simp only at h ⊢
        split at h
        · rename_i hc
          rw [if_pos hc]
          obtain ⟨el, h1, h2⟩ := Option.bind_eq_some_iff.1 h
          refine Option.bind_eq_some_iff.2 ⟨el, mapM_imp _ _ (fun f _ z hz => ?_) h1, h2⟩
          obtain ⟨ky, h3, h4⟩ := Option.bind_eq_some_iff.1 hz
          refine Option.bind_eq_some_iff.2 ⟨ky, h3, ?_⟩
          split at h4
          · rename_i hf
            rw [if_pos hf]
            obtain ⟨y, h5, h6⟩ := Option.map_eq_some_iff.1 h4
            exact Option.map_eq_some_iff.2 ⟨y, ih _ _ _ h5, h6⟩
          · cases h4
        · cases h
      · cases h
end
/-! ### What the cells of a rest are -/
theorem cells_ints {k : IntKind} {cs : List Value} {n : Nat} (hl : cs.length = n) (h : ∀ i, i < n → ∃ m : Int, cs[i]? = some (.int k m) ∧ (Lit.int k m).wf = true) :
    ∃ g : Nat → Int, cs = (List.range n).map (fun i => Value.int k (g i)) ∧ ∀ i, i < n → (Lit.int k (g i)).wf = true := by
  obtain ⟨g, hg⟩ := choose_lt (α := Int) (p := fun i m => cs[i]? = some (.int k m) ∧ (Lit.int k m).wf = true) h
  refine ⟨g, List.ext_getElem? fun i => ?_, fun i hi => (hg i hi).2⟩
  rcases Nat.lt_or_ge i n with hi | hi
  · rw [(hg i hi).1]
    simp [hi]
  · rw [List.getElem?_eq_none (by omega), List.getElem?_eq_none (by simpa using hi)]
section
variable {H : Type} {enc : TypeId × Value → H} {W : World} {base : Nat} {spare : Nat → Bool} {held : Bool}
theorem cells_arr {n : Nat} {e t : TypeId} {k : IntKind} {fuel : Nat} {cs : List Value} {x : DataW H × List MemPlace} (ht : Tryz.prog.underlying t = some (.array n e)) (he : Tryz.prog.underlying e = some (.int k)) (hc : Tryz.prog.cellsOf e = 1) (hct : Tryz.prog.cellsOf t = n) (h : DataW.trod enc Tryz.prog W base spare held fuel t cs = some x) :
    ∃ g : Nat → Int, cs = (List.range n).map (fun i => Value.int k (g i)) ∧ ∀ i, i < n → (Lit.int k (g i)).wf = true := by
  obtain ⟨xs, m, _, _, hl, hxl, hi⟩ := DataW.trod_array ht h
  rw [hct] at hl
  refine cells_ints hl fun i hin => ?_
  have h1 := hi i hin
  rw [hc, Nat.mul_one, List.getElem?_eq_getElem (by omega)] at h1
  obtain ⟨v, hv, _, hw⟩ := DataW.trod_int he h1
  refine ⟨v, ?_, hw⟩
  have h2 : ((cs.drop i).take 1)[0]? = some (.int k v) := by rw [hv]; rfl
  rw [List.getElem?_take] at h2
  simpa using h2
theorem split_list (cs : List Value) (hl : cs.length = 132) : cs = (cs.drop 0).take 1 ++ ((cs.drop 1).take 64 ++ ((cs.drop 65).take 64 ++ ((cs.drop 129).take 1 ++ ((cs.drop 130).take 1 ++ (cs.drop 131).take 1)))) := by
  have e (a n : Nat) : (cs.drop a).take n ++ cs.drop (a + n) = cs.drop a := by
    rw [← List.drop_drop, List.take_append_drop]
  rw [List.take_of_length_le (l := cs.drop 131) (by simp [hl]), e 130 1, e 129 1, e 65 64, e 1 64, e 0 1, List.drop_zero]
theorem rest_fields : Tryz.prog.underlying 30 = some (.struct (Tryz.prog.fieldsOf 30)) := by kernel_rfl
theorem rest_field (i : Nat) (hi : i < 6) : ∃ f, (Tryz.prog.fieldsOf 30)[i]? = some f ∧ (f.type, f.offset) = [(3, 0), (27, 1), (28, 65), (4, 129), (3, 130), (4, 131)].getD i (0, 0) := by
  have h : (List.range 6).all (fun i => (((Tryz.prog.fieldsOf 30)[i]?).map fun f => (f.type, f.offset)) == some ([(3, 0), (27, 1), (28, 65), (4, 129), (3, 130), (4, 131)].getD i (0, 0))) = true := by kernel_rfl
  rw [List.all_eq_true] at h
  have := h i (by simpa using hi)
  rw [beq_iff_eq, Option.map_eq_some_iff] at this
  exact this
theorem rest_cells : Tryz.prog.cellsOf 30 = 132 := by kernel_rfl
theorem frame_cells : Tryz.prog.cellsOf 27 = 64 := by kernel_rfl
theorem states_cells : Tryz.prog.cellsOf 28 = 64 := by kernel_rfl
theorem bool_cells : Tryz.prog.cellsOf 4 = 1 := by kernel_rfl
set_option maxRecDepth 100000 in
theorem rest_of_trod {fuel : Nat} {cs : List Value} {x : DataW H × List MemPlace} (h : DataW.trod enc Tryz.prog W base spare held fuel 30 cs = some x) : ∃ q : SR, RestOk q ∧ cs = (encR q).toList := by
  obtain ⟨xs, n, _, _, hl, hxl, hi⟩ := DataW.trod_struct rest_fields h
  rw [rest_cells] at hl
  have hsz : (Tryz.prog.fieldsOf 30).size = 6 := by kernel_rfl
  rw [hsz] at hxl
  have hf (i : Nat) (hi6 : i < 6) : DataW.trod enc Tryz.prog W base spare held n ([(3, 0), (27, 1), (28, 65), (4, 129), (3, 130), (4, 131)].getD i (0, 0)).1
      ((cs.drop ([(3, 0), (27, 1), (28, 65), (4, 129), (3, 130), (4, 131)].getD i (0, 0)).2).take (Tryz.prog.cellsOf ([(3, 0), (27, 1), (28, 65), (4, 129), (3, 130), (4, 131)].getD i (0, 0)).1)) = some (xs[i]'(by omega)) := by
    obtain ⟨f, h1, h2⟩ := rest_field i hi6
    rw [← h2, ← List.getElem?_eq_getElem]
    exact hi i f h1
  have c0 := hf 0 (by omega)
  have c1 := hf 1 (by omega)
  have c2 := hf 2 (by omega)
  have c3 := hf 3 (by omega)
  have c4 := hf 4 (by omega)
  have c5 := hf 5 (by omega)
  simp only [List.getD_cons_zero, List.getD_cons_succ, frame_cells, states_cells, bool_cells, cells_int] at c0 c1 c2 c3 c4 c5
  obtain ⟨n0, e0, _, _⟩ := DataW.trod_int Tryz.underlying3 c0
  obtain ⟨g1, e1, w1⟩ := cells_arr Tryz.underlying27 Tryz.underlying25 cells_u16 frame_cells c1
  obtain ⟨g2, e2, _⟩ := cells_arr Tryz.underlying28 Tryz.underlying3 cells_int states_cells c2
  obtain ⟨b3, e3, _⟩ := DataW.trod_bool Tryz.underlying4 c3
  obtain ⟨n4, e4, _, _⟩ := DataW.trod_int Tryz.underlying3 c4
  obtain ⟨b5, e5, _⟩ := DataW.trod_bool Tryz.underlying4 c5
  have hw : ∀ i, i < 64 → 0 ≤ g1 i ∧ g1 i < 65536 := fun i hi => by
    have := w1 i hi
    simp only [Lit.wf, Bool.and_eq_true, decide_eq_true_eq] at this
    have e1 : IntKind.u16.min = 0 := by kernel_rfl
    have e2 : IntKind.u16.max = 65535 := by kernel_rfl
    rw [e1, e2] at this
    omega
  refine ⟨⟨n0, (List.range 64).map (fun i => (g1 i).toNat), (List.range 64).map g2, b3, n4, b5⟩, ⟨⟨by simp, fun k => ?_⟩, by simp⟩, ?_⟩
  · rw [wd, List.getD_eq_getElem?_getD]
    rcases Nat.lt_or_ge k 64 with hk | hk
    · have := hw k hk
      simp [hk]
      omega
    · rw [List.getElem?_eq_none (by simpa using hk)]
      simp
  · rw [split_list cs hl, e0, e1, e2, e3, e4, e5]
    simp [encR]
    congr 1
    refine List.map_congr_left fun i hi => ?_
    have := hw i (by simpa using hi)
    simp only [Function.comp_apply, Value.int.injEq, true_and]
    omega
end
theorem at_block {w : World} {a : Addr} {v : Value} (h : w.cell? a = some v) : a.spot = none ∧ ∃ cs t fr, w.heap[a.block]? = some (.cells cs t fr) ∧ cs[a.off]? = some v := by
  unfold World.cell? at h
  split at h
  · rename_i c t fr hb
    split at h
    · cases h
    · rename_i hs
      exact ⟨by simpa using hs, c, t, fr, hb, h⟩
  · cases h
/-! ### The bulk -/
theorem bulk_pos {H : Type} (d : DataW H) : 1 ≤ Rows.uptoBulk d := by
  cases d with
  | lit l => cases l <;> simp [Rows.uptoBulk]
  | nil => simp [Rows.uptoBulk]
  | ptr d => simp [Rows.uptoBulk]
  | slice elems spare => simp [Rows.uptoBulk]
  | agg parts => simp [Rows.uptoBulk]
  | iface t d => simp [Rows.uptoBulk]
  | map entries => simp [Rows.uptoBulk]
  | held h => simp [Rows.uptoBulk]
theorem bulk_many {H : Type} (n : Nat) : ∀ (l : List (DataW H)), (∀ d ∈ l, n ≤ Rows.uptoBulk d) → n * l.length ≤ Rows.uptoBulkAll l
  | [], _ => by simp [Rows.uptoBulkAll]
  | d :: r, h => by
    have h1 := h d (by simp)
    have h2 := bulk_many n r fun x hx => h x (by simp [hx])
    simp only [Rows.uptoBulkAll, List.length_cons, Nat.mul_add, Nat.mul_one]
    omega
section
variable {H : Type} {enc : TypeId × Value → H} {W : World} {base : Nat} {spare : Nat → Bool} {held : Bool}
theorem arr_bulk {n : Nat} {e t : TypeId} {fuel : Nat} {cs : List Value} {x : DataW H × List MemPlace} (ht : Tryz.prog.underlying t = some (.array n e)) (h : DataW.trod enc Tryz.prog W base spare held fuel t cs = some x) : n ≤ Rows.uptoBulk x.1 := by
  obtain ⟨xs, m, _, rfl, _, hxl, _⟩ := DataW.trod_array ht h
  have := bulk_many 1 (xs.map (·.1)) fun d _ => bulk_pos d
  simp only [Rows.uptoBulk]
  simp at this
  omega
set_option maxRecDepth 100000 in
theorem rest_bulk {fuel : Nat} {cs : List Value} {x : DataW H × List MemPlace} (h : DataW.trod enc Tryz.prog W base spare held fuel 30 cs = some x) : 128 ≤ Rows.uptoBulk x.1 := by
  obtain ⟨xs, n, _, rfl, hl, hxl, hi⟩ := DataW.trod_struct rest_fields h
  have hsz : (Tryz.prog.fieldsOf 30).size = 6 := by kernel_rfl
  rw [hsz] at hxl
  obtain ⟨f1, h1, e1⟩ := rest_field 1 (by omega)
  obtain ⟨f2, h2, e2⟩ := rest_field 2 (by omega)
  have i1 := hi 1 f1 h1
  have i2 := hi 2 f2 h2
  simp only [List.getD_cons_zero, List.getD_cons_succ, Prod.mk.injEq] at e1 e2
  rw [e1.1] at i1
  rw [e2.1] at i2
  match xs, hxl with
  | [x0, x1, x2, x3, x4, x5], _ =>
    have b1 := arr_bulk Tryz.underlying27 (i1.trans rfl)
    have b2 := arr_bulk Tryz.underlying28 (i2.trans rfl)
    simp only [List.map_cons, List.map_nil, Rows.uptoBulk, Rows.uptoBulkAll]
    omega
set_option maxRecDepth 100000 in
/-- What the argument is. -/
theorem lat_of_trod {r : Reach} {b0 : Nat} {v : Value} {d : DataW H} {ps : List MemPlace} (hval : Value.okWide Tryz.prog W r b0 22 v) (hd : DataW.Trod enc Tryz.prog W base spare held 22 v d ps) :
    ∃ l : List SR, LAt W v l ∧ RsOk l ∧ 128 * l.length ≤ Rows.uptoBulk d := by
  obtain ⟨a0, len0, cap0, rfl⟩ := okWide_slice Tryz.underlying22 hval
  obtain ⟨fuel, h⟩ := hd
  rcases open_slice Tryz.underlying22 h with ⟨h1, h2⟩ | ⟨a, len, cap, m, n, D, Pl, h1, hb, hlc, hcm, hm, hx, hi⟩
  · simp [Value.cells] at h1
    obtain ⟨rfl, rfl, rfl⟩ := h1
    exact ⟨[], ⟨none, 0, rfl, fun h => absurd h (by simp)⟩, fun k hk => absurd hk (by simp), by simp⟩
  · simp [Value.cells] at h1
    obtain ⟨rfl, rfl, rfl⟩ := h1
    rw [rest_cells] at hi
    have hml : len0 ≤ m := by rw [hm]; split <;> omega
    obtain ⟨q, hq⟩ := choose_lt (α := SR) (p := fun i q => RestOk q ∧ W.cells? base (a.add (i * 132)) 132 = some (encR q).toList) (n := len0) (fun i hil => by
      obtain ⟨cs', h3, h4⟩ := hi i (by omega)
      obtain ⟨q, hqo, rfl⟩ := rest_of_trod h4
      exact ⟨q, hqo, h3⟩)
    have hlen : ((List.range len0).map q).length = len0 := by simp
    have hrv : ∀ k, k < len0 → rv ((List.range len0).map q) k = q k := fun k hk => by simp [rv, List.getD_eq_getElem?_getD, hk]
    refine ⟨(List.range len0).map q, ⟨some a, cap0, by rw [hlen], fun h0 => ?_⟩, fun k hk => ?_, ?_⟩
    · rw [hlen] at h0
      have hcell : ∀ k j, k < len0 → j < 132 → W.cell? (a.add (k * 132 + j)) = (encR (q k))[j]? := fun k j hk hj => by
        obtain ⟨_, _, h5⟩ := World.cells?_some (hq k hk).2
        have := h5 j hj
        rw [add_add] at this
        simpa using this
      have hz := hcell 0 0 h0 (by omega)
      rw [encR_num (hq 0 h0).1] at hz
      rw [show a.add (0 * 132 + 0) = a by simp [Addr.add]] at hz
      obtain ⟨hs, cs, t, fr, hblk, _⟩ := at_block hz
      obtain ⟨b, o, sp⟩ := a
      simp only at hs hblk
      subst hs
      refine ⟨b, o, rfl, cs, t, fr, hblk, fun k hk => ?_⟩
      rw [hlen] at hk
      have hsz := encR_size (hq k hk).1
      have hat : ∀ j, j < 132 → cs[o + k * 132 + j]? = (encR (q k))[j]? := fun j hj => by
        have := hcell k j hk hj
        have hadd : (⟨b, o, none⟩ : Addr).add (k * 132 + j) = ⟨b, o + k * 132 + j, none⟩ := by
          unfold Addr.add
          split
          · rename_i h0
            rw [show o + k * 132 + j = o by omega]
          · rw [Nat.add_assoc]
        rw [hadd, cell_of_row _ _ _ _ _ _ hblk] at this
        exact this
      have hbig : o + k * 132 + 132 ≤ cs.size := by
        have := hat 131 (by omega)
        rw [Array.getElem?_eq_getElem (by omega : 131 < (encR (q k)).size)] at this
        have := (Array.getElem?_eq_some_iff.1 this).1
        omega
      refine ⟨hbig, ?_⟩
      rw [hrv k hk]
      apply Array.ext_getElem?
      intro j
      rcases Nat.lt_or_ge j 132 with hj | hj
      · rw [← hat j hj, Array.getElem?_extract, if_pos (by omega)]
      · rw [Array.getElem?_eq_none (by simp; omega), Array.getElem?_eq_none (by omega)]
    · rw [hlen] at hk
      rw [hrv k hk]
      exact (hq k hk).1
    · rw [hlen]
      simp only [Prod.mk.injEq] at hx
      rw [hx.1]
      have := bulk_many 128 ((List.range len0).map D) fun d hd => by
        simp at hd
        obtain ⟨i, hil, rfl⟩ := hd
        obtain ⟨cs', h3, h4⟩ := hi i (by omega)
        exact rest_bulk h4
      simp only [Rows.uptoBulk]
      simp at this
      omega
end
end Go.Proofs.YtplddeboinhkbaaGreatDoorRR
