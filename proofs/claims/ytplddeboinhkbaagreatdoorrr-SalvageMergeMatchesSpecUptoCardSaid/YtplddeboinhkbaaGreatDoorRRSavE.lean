/- The program's scan, where one place alone is a sound frame. -/

import Derived.Test.YtplddeboinhkbaaGreatDoorRRProg
import Derived.Test.YtplddeboinhkbaaGreatDoorRRSavD
namespace Go.Proofs.YtplddeboinhkbaaGreatDoorRR
open Go.RowKit Go.Shelf
attribute [local go_sem] Oper.semAt_some
/-- The cells of what is found. -/
def foundL (at' : Int) (f : List Nat) : List Value := .int .i64 at' :: f.map fun n => Value.int .u16 (n : Nat)
theorem foundL_length (k : Int) {f : List Nat} (hf : FrameOk f) : (foundL k f).length = 65 := by simp [foundL, hf.1]
theorem foundL_one (k : Int) (f : List Nat) : ∀ u ∈ foundL k f, u.oneCell' = true := by
  intro u hu
  simp [foundL] at hu
  rcases hu with rfl | ⟨n, _, rfl⟩ <;> rfl
theorem info_found : (Tryz.prog.info? 90).map (fun i => (i.zero, i.size, i.bytes)) = some (some (.agg Tryz.zeroCells90), 65, 136) := by kernel_rfl
theorem zero_found : Tryz.zeroCells90.size = 65 := by kernel_rfl
theorem built_found (parts : List (Nat × Value)) : Tryz.prog.built 90 parts = Instr.fill (#[(0, 1), (1, 64)][·]?) Tryz.zeroCells90 parts := by kernel_rfl
theorem found_cells (k : Int) {f : List Nat} (hf : FrameOk f) : splice (splice Tryz.zeroCells90 0 #[.int .i64 k]) 1 (encF f) = (foundL k f).toArray := by
  have h0 := zero_found
  have h1 : (splice Tryz.zeroCells90 0 #[.int .i64 k]).size = 65 := by rw [splice_size _ _ _ (by simp [h0]), h0]
  generalize hz : splice Tryz.zeroCells90 0 #[.int .i64 k] = z at h1
  apply Array.ext'
  unfold splice
  rw [List.drop_of_length_le (by simp [encF, hf.1]; omega)]
  have h2 : z.toList.take 1 = [.int .i64 k] := by
    rw [← hz]
    simp [splice]
  rw [h2]
  simp [foundL, encF]
theorem built_found2 (k : Int) {f : List Nat} (hf : FrameOk f) : Tryz.prog.built 90 [(0, Value.int .i64 k), (1, .agg (encF f))] = some (foundL k f).toArray := by
  have h1 : (splice Tryz.zeroCells90 0 #[.int .i64 k]).size = 65 := by rw [splice_size _ _ _ (by simp), zero_found]
  rw [built_found]
  rw [fill_step _ _ 0 0 1 _ #[.int .i64 k] _ rfl rfl rfl (by rw [zero_found]; omega)]
  rw [fill_step _ _ 1 1 64 _ (encF f) _ rfl rfl (encF_size hf) (by rw [h1]; omega), found_cells k hf]
  rfl
/-- A slice of one element: its cells. -/
theorem fill_single {n : Nat} (_hn : 0 < n) (z xs : Array Value) (v : Value) (hv : v.cells = xs) (hx : xs.size = n) :
    Instr.fill (fun i => some (i * n, n)) ((Array.range (1 * n)).map (z[· % z.size]!)) [(0, v)] = some xs := by
  rw [fill_step _ _ 0 0 n v xs [] (by simp) hv hx (by simp)]
  show some _ = some _
  congr 1
  exact splice_whole (by simp [hx])
/-- Cells lie as they lay. -/
def CellsKept (X Y : World) : Prop := ∀ (k : Nat) (o : Obj), X.heap[k]? = some o → o.isCells = true → Y.heap[k]? = some o
theorem CellsKept.owns {X Y : World} (h : CellsKept X Y) {base : Nat} {e : TypeId} {size : Nat} {v : Value} {n : Nat} {xs : List Value} (ho : X.ownsRow base e size v n xs) : Y.ownsRow base e size v n xs := by
  refine ⟨ho.1, ?_⟩
  rcases ho.2 with hn | ⟨g, cap, cur, rfl, hb, hgg, r⟩
  · exact .inl hn
  · exact .inr ⟨g, cap, cur, rfl, hb, h g _ hgg rfl, r⟩
theorem cellsKept_of {B : Nat} {X Y : World} {row : Option Nat} (hg : X.grownBy Y row) (hr : ∀ r, row = some r → B ≤ r ∧ ∃ o : Obj, X.heap[r]? = some o ∧ o.isCells = false) : CellsKept X Y := fun k o hk hc => by
  refine (hg.block k (lt_of_block hk) (fun e => ?_)).trans hk
  obtain ⟨_, o', ho', hc'⟩ := hr k e.symm
  rw [hk] at ho'
  cases ho'
  rw [hc] at hc'
  cases hc'
theorem ext_of_grown {B : Nat} {w X Y : World} {row : Option Nat} (hE : Ext w X) (hB : w.heap.size ≤ B) (hg : X.grownBy Y row) (hr : ∀ r, row = some r → B ≤ r ∧ ∃ o : Obj, X.heap[r]? = some o ∧ o.isCells = false) : Ext w Y :=
  Below.grown hE hg hE.size fun k hk => Nat.le_trans hB (hr k hk).1
/-- Between two rounds. -/
def ScanI (w : World) (f : List Nat) (hb : Obj) (pre : List Unit) (W : World) : Prop :=
  (∃ v, W.heap[w.heap.size]? = some (.cells #[v] 85 (0, 0)) ∧ W.ownsRow w.heap.size 90 65 v pre.length (List.replicate pre.length (foundL 2 f)).flatten ∧ (pre = [] → v = .slice none 0 0)) ∧
  W.heap[w.heap.size + 1]? = some hb ∧ Ext w W
theorem scanI_own (w : World) (f : List Nat) (hb : Obj) (hc : hb.isCells = true) (B : Nat) (hB : w.heap.size ≤ B) : OwnFrom B (ScanI w f hb) := fun pre X Y row hs hg hr => by
  obtain ⟨⟨v, h1, h2, h3⟩, h4, h5⟩ := hs
  have hk := cellsKept_of hg hr
  exact ⟨⟨v, hk _ _ h1 rfl, hk.owns h2, h3⟩, hk _ _ h4 hc, ext_of_grown h5 hB hg hr⟩
theorem ScanI.ext {w W W' : World} {f : List Nat} {hb : Obj} {pre : List Unit} (h : ScanI w f hb pre W) (hE : Ext W W') : ScanI w f hb pre W' := by
  obtain ⟨⟨v, h1, h2, h3⟩, h4, h5⟩ := h
  exact ⟨⟨v, hE.heap h1, ownsRow_ext h2 hE, h3⟩, hE.heap h4, h5.trans hE⟩
section
variable {P : Program} {op : Oper} {a : Act} {w : World} {K : Act → World → Prop} {Q : Exit → Act → World → Prop}
theorem wp_build_to (t : TypeId) (L : List (Nat × Operand)) (ho : op.op = .build t L.toArray) (V : List (Nat × Value)) (hV : L.map (fun (x : Nat × Operand) => (x.1, a.eval x.2)) = V) (cells : Array Value)
    (hf : P.built t V = some cells) (h : K (a.put op.dst (.agg cells)) w) : op.wp P a w K Q := by
  have hf2 : P.built t (L.toArray.map fun (i, x) => (i, a.eval x)).toList = some cells := by
    rw [Array.toList_map, List.toList_toArray, ← hf, ← hV]
  exact wp_build t L.toArray ho (by rw [hf2]; rfl) (by rw [hf2]; exact h)
theorem wp_buildSlice_to (t e : TypeId) (len : Nat) (L : List (Nat × Operand)) (ho : op.op = .buildSlice t len L.toArray) (V : List (Nat × Value)) (hV : L.map (fun (x : Nat × Operand) => (x.1, a.eval x.2)) = V)
    (cells : Array Value) (ie : TypeInfo) (z : Value) (hu : P.underlying t = some (.slice e)) (hie : P.info? e = some ie) (hz : ie.zero = some z) (hsmall : ¬ len * ie.size > 2 ^ 24) (hpos : ¬ len * ie.size = 0)
    (hf : Instr.fill (fun i => some (i * ie.size, ie.size)) ((Array.range (len * ie.size)).map (z.cells[· % z.cells.size]!)) V = some cells)
    (h : K (a.put op.dst (.slice (some ⟨w.heap.size, 0, none⟩) len len)) (w.alloc (.cells cells e))) : op.wp P a w K Q := by
  refine wp_buildSlice t e len L.toArray ho cells ie z hu hie hz hsmall hpos ?_ h
  rw [Array.toList_map, List.toList_toArray, ← hf, ← hV]
end
theorem ownsRow_upd {w1 w2 : World} {base : Nat} {e t : TypeId} {size n b : Nat} {v : Value} {xs : List Value} {cs : Array Value} {fr : Nat × Nat} {o : Obj} (h : w1.ownsRow base e size v n xs) (hb : w1.heap[b]? = some (.cells cs t fr)) (u : Upd w1 b o w2) (ht : t ≠ e) : w2.ownsRow base e size v n xs := by
  refine ⟨h.1, ?_⟩
  rcases h.2 with hn | ⟨g, cap, cur, rfl, hbg, hgg, r⟩
  · exact .inl hn
  · refine .inr ⟨g, cap, cur, rfl, hbg, (u.other g (fun e' => ?_)).trans hgg, r⟩
    subst e'
    rw [hgg] at hb
    cases hb
    exact ht rfl
theorem flat_one (p : List Unit) (L : List Value) (h : p.length = 1) : (List.replicate p.length L).flatten = [] ++ L := by
  rw [h]
  simp
def ScanPost (f : List Nat) (w : World) (e : Ending) (w' : World) : Prop := ∃ v, e = .returned v ∧ w'.ownsRow w.heap.size 90 65 v 1 (foundL 2 f) ∧ Ext w w'
set_option maxRecDepth 100000 in
set_option maxHeartbeats 4000000 in
theorem scan_any (b c : Nat) (H f : List Nat) (w : World) (hO : OneAt H f) (hf : FrameOk f) (hc : 194 ≤ c) (hS : SyncAt w) (hB : w.heap[b]? = some (.cells (encB H) 5 (0, 0))) :
    Calls Tryz.prog 89 #[.slice (some ⟨b, 0, none⟩) 194 c] w (ScanPost f w) := by
  obtain ⟨i0, hi, hz0, hz1, hz2⟩ := info_parts info_found
  refine (callsIn_wide (n := 6)).1 ?_
  refine callsIn_of_wp_marks Tryz.func89 rfl trivial ?_ rfl
  simp only [Tryz.ntmps89, List.size_toArray, List.length_cons, List.length_nil, Nat.reduceAdd, Nat.reduceSub, Array.replicate_succ, Array.replicate_zero, List.push_toArray, List.append_toArray, List.nil_append, List.cons_append]
  gi_wp2_with fail
  refine ⟨trivial, (callsIn_wide.2 (sounds_any b 0 194 c _)).mono ?_⟩
  rintro e w1 ⟨rfl, rfl⟩
  gi_wp2
  have hsz : ((w.alloc (.cells #[.slice none 0 0] 85)).alloc (.cells #[.slice (some ⟨b, 0, none⟩) 194 c] 41)).heap.size = w.heap.size + 2 := by simp
  have hBo := block_old (.cells #[.slice (some ⟨b, 0, none⟩) 194 c] 41) (block_new w (.cells #[.slice none 0 0] 85))
  have hBn := heap_alloc2_new w (.cells #[.slice none 0 0] 85) (.cells #[.slice (some ⟨b, 0, none⟩) 194 c] 41)
  have hE0 := ext_of_alloc _ (ext_of_alloc _ (Ext.refl ((w.alloc (.cells #[.slice none 0 0] 85)).alloc (.cells #[.slice (some ⟨b, 0, none⟩) 194 c] 41))))
  have hB0 := hE0.heap hB
  have hS0 := hS.ext hE0
  obtain ⟨W0, hW0⟩ : ∃ W0, (w.alloc (.cells #[.slice none 0 0] 85)).alloc (.cells #[.slice (some ⟨b, 0, none⟩) 194 c] 41) = W0 := ⟨_, rfl⟩
  rw [hW0] at hsz hBo hBn hE0 hB0 hS0 ⊢
  clear hW0
  refine wpIn_rangeFunc_ownH rfl (by decide) (gf := 115) (lb := #[.pointer (some ⟨w.heap.size + 1, 0, none⟩)]) rfl trivial (enters_of Tryz.func115 (by kernel_rfl) rfl)
    (encs := fun (_ : Unit) => #[.int .i64 2, .agg (encF f)]) (Kp := SameB (w.heap.size + 1)) (S := fun xs => xs = [()]) (Sp := fun _ => True) (N := 1) (w0 := W0) ?contract (fun h k => h.trans k) ?kb (Below.refl _ _) (fun _ => rfl)
    (ScanI w f (.cells #[.slice (some ⟨b, 0, none⟩) 194 c] 41 (0, 0))) (fun _ _ _ => False) (scanI_own w f _ rfl _ (by omega)) (fun _ _ _ _ _ hs _ _ => hs)
    ⟨⟨_, hBo, World.ownsRow_nil _ _ _ _, fun _ => rfl⟩, hBn, hE0⟩
    ?Ax ?hAx ?assign ?body ?done ?stop
  case contract =>
    intro l J Jx W hW hJ hJx hY h0
    have hBn1 : W.heap[w.heap.size + 1]? = some (.cells #[.slice (some ⟨b, 0, none⟩) 194 c] 41 (0, 0)) := (hW.block _ (lt_of_block hBn)).trans hBn
    have hBw : W.heap[b]? = some (.cells (encB H) 5 (0, 0)) := (hW.block _ (lt_of_block hB0)).trans hB0
    exact sounds1_in (w.heap.size + 1) b c 5 l H f hO hf hc (by decide) J Jx W (hS0.ext hW) (by rw [cell_of_row _ _ _ _ _ _ hBn1]; rfl) hBw hJ hY h0
  case kb =>
    intro W l o o' hl ho hoc how
    show (W.putObj l o').heap[w.heap.size + 1]? = W.heap[w.heap.size + 1]?
    exact World.putObj_heap_other (by omega)
  case Ax => exact fun _ a' W => ∃ Bx, W.heap[Bx]? = some (Obj.cells (encF f) 27 (0, 0)) ∧ a' = { tmps := #[.slice (some ⟨b, 0, none⟩) 194 c, undef, .slice none 0 0, .pointer (some ⟨w.heap.size, 0, none⟩), .int .i64 2, .pointer (some ⟨Bx, 0, none⟩), .slice (some ⟨b, 0, none⟩) 194 c, .func (.func 115) #[] #[.pointer (some ⟨w.heap.size + 1, 0, none⟩)], .int .i64 2, .agg (encF f), undef, undef, undef, undef, undef, undef, undef], defers := [] }
  case hAx =>
    rintro x a' s X Y row ⟨Bx, h1, h2⟩ hg hr
    exact ⟨Bx, cellsKept_of hg hr _ _ h1 rfl, h2⟩
  case assign =>
    intro l pre x W K hi hK
    gi_wp2_with ((with_reducible refine stopIn_store 27 rfl ?_))
    apply Stop.go
    refine step_wpIn (.inr ⟨l, rfl⟩) rfl rfl fun K' hK' => ?_
    refine wp_store_blk 27 _ _ rfl W.heap.size 0 rfl (encF f) rfl _ _ (block_new W _) (by rw [encF_size hf]; exact info_frame) (by rw [encF_size hf]; exact Nat.le_refl _) (encF_one _) fun W' u => hK' _ _ ?_
    clear hK' K'
    have hE' : Ext W W' := ((Ext.refl W).alloc _).upd (by simp) u
    have hh := u.here
    rw [splice_whole (by rw [encF_size hf]; rfl)] at hh
    exact hK _ _ ⟨hE'.size, fun k o _ hk _ => hE'.heap hk⟩ (hE'.block _ (lt_of_block hi.2.1)) (hi.ext hE') ⟨W.heap.size, hh, rfl⟩
  case body =>
    rintro l pre x a' W hl hr ⟨⟨v, h1, h2, h3⟩, h4, h5⟩ ⟨Bx, hBx, rfl⟩ hlt
    obtain rfl : pre = [] := List.length_eq_zero_iff.1 (by omega)
    obtain rfl := h3 rfl
    have hcv : W.cell? ⟨w.heap.size, 0, none⟩ = some (.slice none 0 0) := by rw [cell_of_row _ _ _ _ _ _ h1]; rfl
    gi_wp2_with ((with_reducible refine stopIn_load 27 rfl ?_))
    apply Stop.go
    refine step_wpIn (.inr ⟨l, rfl⟩) rfl rfl fun K hK => ?_
    refine wp_load_blk _ _ rfl Bx 0 rfl 64 _ _ _ _ hBx Tryz.underlying27 rfl info_frame (by rw [encF_size hf]; omega) (encF f) (by rw [Nat.zero_add, ← encF_size hf, Array.extract_size]) (hK _ _ ?_)
    clear hK K
    simp only [Act.put, List.setIfInBounds_toArray, List.set_cons_zero, List.set_cons_succ]
    refine step_wpIn (.inr ⟨l, rfl⟩) rfl rfl fun K hK => ?_
    refine wp_build_to 90 _ rfl _ rfl _ (built_found2 2 hf) (hK _ _ ?_)
    clear hK K
    simp only [Act.put, List.setIfInBounds_toArray, List.set_cons_zero, List.set_cons_succ]
    refine step_wpIn (.inr ⟨l, rfl⟩) rfl rfl fun K hK => ?_
    refine wp_buildSlice_to 85 90 1 _ rfl _ rfl (foundL 2 f).toArray i0 _ Tryz.underlying85 hi hz0 (by rw [hz1]; decide) (by rw [hz1]; decide) (by rw [hz1]; exact fill_single (by decide) _ _ _ rfl (by simp [foundL_length 2 hf])) (hK _ _ ?_)
    clear hK K
    simp only [Act.put, List.setIfInBounds_toArray, List.set_cons_zero, List.set_cons_succ]
    refine wpListIn_append_own _ rfl _ _ 85 rfl w.heap.size 90 i0 _ 65 136 Tryz.underlying85 hi hz0 hz1 hz2 zero_found (by decide) (.slice none 0 0) 0 [] rfl (World.ownsRow_nil _ _ _ _) ⟨W.heap.size, 0, none⟩ 1 1 (foundL 2 f) rfl (by rw [foundL_length 2 hf]) (cells_new W _ _) (foundL_one 2 f) (by decide) (by decide) (by have := h5.size; simp; omega) fun v' w1 hown hgrow _ => ?_
    simp only [Act.put, List.setIfInBounds_toArray, List.set_cons_zero, List.set_cons_succ]
    have hE1 : Ext W w1 := ext_of_alloc _ ⟨hgrow.os, hgrow.tape, hgrow.output, hgrow.size, fun k hk => hgrow.block k hk (by simp [Value.ownBlock])⟩
    obtain ⟨va, vc, rfl⟩ := ownsRow_shape hown
    refine step_wpIn (.inr ⟨l, rfl⟩) rfl rfl fun K hK => ?_
    refine wp_store1 _ _ _ rfl w.heap.size 0 rfl (.slice va (0 + 1) vc) rfl _ _ (hE1.heap h1) (by kernel_rfl) (by decide) rfl fun w2 u2 => hK _ _ ?_
    clear hK K
    have hh := u2.here
    have hown2 : w2.ownsRow w.heap.size 90 65 (.slice va (0 + 1) vc) ([] ++ [x]).length (List.replicate ([] ++ [x]).length (foundL 2 f)).flatten := by
      rw [flat_one ([] ++ [x]) (foundL 2 f) rfl]
      exact ownsRow_upd hown (hE1.heap h1) u2 (by decide)
    refine ⟨⟨by rw [u2.size]; exact hE1.size, fun k o hBk hk _ => (u2.other k (by omega)).trans (hE1.heap hk)⟩, (u2.other _ (by omega)).trans (hE1.block _ (lt_of_block h4)), ⟨_, hh, hown2, fun h => by cases h⟩, (u2.other _ (by omega)).trans (hE1.heap h4), (h5.trans hE1).upd (Nat.le_refl _) u2⟩
  case done =>
    rintro D ys W hD rfl ⟨⟨v, h1, h2, h3⟩, h4, h5⟩ hK
    have hcv : W.cell? ⟨w.heap.size, 0, none⟩ = some v := by rw [cell_of_row _ _ _ _ _ _ h1]; rfl
    obtain ⟨va, vc, rfl⟩ := ownsRow_shape h2
    have h6 : W.ownsRow w.heap.size 90 65 (.slice va 1 vc) 1 (foundL 2 f) := by
      rw [flat_one [()] (foundL 2 f) rfl] at h2
      exact h2
    gi_wp2
    refine ⟨by simp, .inl ⟨_, _, rfl, run_takeDeferred hK, ?_⟩⟩
    exact ⟨_, results_tmp rfl _ _ _, _, rfl, ownsRow_putObj h6 _ hK rfl, ext_of_grown h5 (by omega : w.heap.size ≤ W0.heap.size) (grownBy_putObj' W D _) (fun r e => by cases e; exact ⟨hD, _, hK, rfl⟩)⟩
  case stop =>
    rintro D c pre W _ _ h _
    exact h.elim
end Go.Proofs.YtplddeboinhkbaaGreatDoorRR
