/- PROVED HERE: for every list of rests that, with the variable that the row lists, holds at most 1048576 values and letters, SalvageMergeIsRight returns true and leaves the list as it was. CONDITION: frame.syncs begins as the program's text lays it (the card ties it). -/

import Derived.Test.YtplddeboinhkbaaGreatDoorRRProg
import Derived.Test.YtplddeboinhkbaaGreatDoorRRLawC
import Derived.Test.YtplddeboinhkbaaGreatDoorRRCards
import Derived.Test.YtplddeboinhkbaaGreatDoorRRTie
import Derived.WalkKit
import Derived.ProofKit
import Derived.OpenShut
import Derived.Deep.DeepHandedRow
import Derived.Lib.LaidTab
namespace Go.Proofs.YtplddeboinhkbaaGreatDoorRR
open Go.ChangeShapes Go.WideShapes Go.ChangeAt Go.RowKit Go.Deep
set_option maxRecDepth 100000
/-- No pointer within. -/
def flat (P : Program) : Nat → TypeId → Bool
  | 0, _ => true
  | n + 1, t => match P.underlying t with
    | some .bool => true
    | some (.int _) => true
    | some (.struct fs) => fs.toList.all fun f => flat P n f.type
    | some (.array _ e) => flat P n e
    | _ => false
section
variable {H : Type} {enc : TypeId × Value → H} {P : Program} {W W' : World} {base base' : Nat} {sp sp' : Nat → Bool} {hd hd' : Bool}
theorem trod_flat : ∀ (fuel : Nat) (t : TypeId) (cs : List Value) (x : DataW H × List MemPlace), flat P fuel t = true → DataW.trod enc P W base sp hd fuel t cs = some x → DataW.trod enc P W' base' sp' hd' fuel t cs = some x := by
  intro fuel
  induction fuel with
  | zero => intro t cs x _ h; simp [DataW.trod] at h
  | succ n ih =>
    intro t cs x hf h
    unfold flat at hf
    split at hf
    · rename_i hu
      obtain ⟨b, rfl, rfl⟩ := DataW.trod_bool hu h
      simp [DataW.trod, hu]
    · rename_i hu
      obtain ⟨m, rfl, rfl, hw⟩ := DataW.trod_int hu h
      simp [DataW.trod, hu, hw]
    · rename_i hu
      unfold DataW.trod at h ⊢
      rw [hu] at h ⊢
      simp only at h ⊢
      split at h
      · rename_i hc
        rw [if_pos hc]
        obtain ⟨y, h1, h2⟩ := Option.map_eq_some_iff.1 h
        rw [List.all_eq_true] at hf
        exact Option.map_eq_some_iff.2 ⟨y, mapM_imp _ _ (fun f hfm z hz => ih _ _ _ (hf f hfm) hz) h1, h2⟩
      · cases h
    · rename_i hu
      unfold DataW.trod at h ⊢
      rw [hu] at h ⊢
      simp only at h ⊢
      split at h
      · rename_i hc
        rw [if_pos hc]
        obtain ⟨y, h1, h2⟩ := Option.map_eq_some_iff.1 h
        exact Option.map_eq_some_iff.2 ⟨y, mapM_imp _ _ (fun f _ z hz => ih _ _ _ hf hz) h1, h2⟩
      · cases h
    · cases hf
end
theorem rest_flat (n : Nat) : flat Tryz.prog n 30 = true :=
  match n with
  | 0 => rfl
  | 1 => by kernel_rfl
  | 2 => by kernel_rfl
  | _ + 3 => by kernel_rfl
section
variable {H : Type} {enc : TypeId × Value → H} {W W' : World}
theorem trodNil {n : Nat} {sp : Nat → Bool} : DataW.trod enc Tryz.prog W 0 sp true (n + 1) 22 [.slice none 0 0] = some (.nil, []) := by simp [DataW.trod, Tryz.underlying22]
theorem list_keep (hE : Ext W W') {fuel : Nat} {cs : List Value} {x : DataW H × List MemPlace} (h : DataW.trod enc Tryz.prog W 0 (fun _ => true) true fuel 22 cs = some x) (sp : Nat → Bool) (hsp : ∀ p ∈ x.2, sp p.block = true) :
    DataW.trod enc Tryz.prog W' 0 sp true fuel 22 cs = some x := by
  cases fuel with
  | zero => simp [DataW.trod] at h
  | succ n =>
    rcases DataW.trod_slice Tryz.underlying22 h with ⟨rfl, rfl⟩ | ⟨a, len, cap, _, _, _, _, rfl, _⟩
    · exact trodNil
    · have hcl : ∀ (a : Addr) (y : DataW H × List MemPlace), (W.cells? 0 a (Tryz.prog.cellsOf 30)).bind (DataW.trod enc Tryz.prog W 0 (fun _ => true) true n 30) = some y → (W'.cells? 0 a (Tryz.prog.cellsOf 30)).bind (DataW.trod enc Tryz.prog W' 0 sp true n 30) = some y := fun a y hy => by
        obtain ⟨cs', h1, h2⟩ := Option.bind_eq_some_iff.1 hy
        exact Option.bind_eq_some_iff.2 ⟨cs', cells_ext hE h1, trod_flat n _ cs' y (rest_flat n) h2⟩
      unfold DataW.trod at h ⊢
      rw [Tryz.underlying22] at h ⊢
      simp only at h ⊢
      split at h
      · rename_i hc
        rw [if_pos hc]
        obtain ⟨el, h1, h2⟩ := Option.bind_eq_some_iff.1 h
        refine Option.bind_eq_some_iff.2 ⟨el, mapM_imp _ _ (fun i _ y hy => hcl _ _ hy) h1, ?_⟩
        obtain ⟨re, h3, h4⟩ := Option.map_eq_some_iff.1 h2
        refine Option.map_eq_some_iff.2 ⟨re, ?_, h4⟩
        rw [if_pos trivial] at h3
        split
        · exact mapM_imp _ _ (fun i _ y hy => hcl _ _ hy) h3
        · rename_i hs
          have hz : re = [] := by
            cases hre : re with
            | nil => rfl
            | cons r0 rs =>
              refine absurd (hsp (.cell a.block (a.off + 0)) ?_) hs
              subst h4
              rw [List.mem_append]
              refine Or.inl ?_
              unfold MemPlace.row
              refine List.mem_map.2 ⟨0, ?_, rfl⟩
              rw [rest_cells, hre]
              simp
              omega
          rw [hz]
      · cases h
/-- What the law's row says behind a call that keeps all that was there. -/
theorem post_of_ext {f : Func} {s : ChangeSpec} {W W' : World} {args : Array Value} {v : Value} {ds gs : List (DataW H)} {before pa pv : List MemPlace}
    (hW : DataW.Whole enc Tryz.prog f.params.toList s.vars false W args.toList ds gs before)
    (hres : ∀ (b : Nat) (sp : Nat → Bool) (hd : Bool), DataW.TrodAll enc Tryz.prog W' b sp hd f.resultTypes.toList (v.resultList f.resultTypes.size) (s.fn H (ds ++ gs)).results [])
    (hargs : ∀ sp : Nat → Bool, (∀ p ∈ before, sp p.block = true) → DataW.TrodAll enc Tryz.prog W' 0 sp true f.params.toList args.toList (s.fn H (ds ++ gs)).args pa)
    (hvars : ∀ sp : Nat → Bool, (∀ p ∈ before, sp p.block = true) → DataW.TrodVars enc Tryz.prog W' sp s.vars (s.fn H (ds ++ gs)).vars pv)
    (hps : before = pa ++ pv) (hE : Ext W W')
    (hok : ∀ (j : Nat) (t : TypeId) (r : Value), f.resultTypes[j]? = some t → (v.resultList f.resultTypes.size)[j]? = some r → Value.okWide Tryz.prog W' .any 0 t r) :
    s.post enc Tryz.prog f false true false false W args v W' := by
  have hlt : ∀ p ∈ before, p.block < W.heap.size := fun p hp => hW.lt p hp
  have hold : ∀ p ∈ before, (fun b => decide (b < W.heap.size)) p.block = true := fun p hp => by simpa using hlt p hp
  refine ⟨ds, gs, before, [], pa, pv, hW, hres _ _ _, hargs _ hold, hvars _ hold, World.keptBut_mono (fun p hp => ⟨hp, ?_⟩) (Below.frame hE (· ∈ before)), fun _ => ?_⟩
  · rw [hps, List.mem_append] at hp
    exact Or.inr hp
  · obtain ⟨_, _, _, _, _, hz, hn⟩ := hW
    refine ⟨hok, _, _, ([] ++ pa) ++ pv, ⟨[] ++ pa, pv, trodAll_append (hargs _ (fun _ _ => rfl)) (hres _ _ _), hvars _ (fun _ _ => rfl), rfl, ?_, ?_⟩, ?_⟩
    · intro b off hp
      have hp' : MemPlace.cell b off ∈ before := by rw [hps]; simpa using hp
      rw [Ext.frozen hE (hlt _ hp')]
      exact hz b off hp'
    · intro ha
      cases ha
    · intro p hp _
      rw [hps]
      simpa using hp
end
/-! ### The row -/
theorem own : ownKnob Tryz.prog.godebug = none := by kernel_rfl
theorem gTab : Tryz.prog.globalNamed "orangebox/frame.syncs" = some 0 := by kernel_rfl
theorem gTabType : (Tryz.prog.globals[0]?).map (·.type) = some 114 := by kernel_rfl
theorem cellsTab : Tryz.prog.cellsOf 114 = 4 := by kernel_rfl
theorem table {W : World} (h : laidMetH Tryz.prog Rows.salvageMergeIsRightRow.laid W) : Lib.TabIs Tryz.prog W "orangebox/frame.syncs" .u16 [583, 1464, 2631, 3512] :=
  Lib.tabIs_of_head (rest := []) gTab gTabType Tryz.underlying114 Tryz.underlying25 cells_u16 cellsTab h
theorem syncAt_of {W : World} (h : laidMetH Tryz.prog Rows.salvageMergeIsRightRow.laid W) : SyncAt W := fun k hk => by
  have := (table h).cell gTab k hk
  rw [this]
  match k, hk with
  | 0, _ => rfl
  | 1, _ => rfl
  | 2, _ => rfl
  | 3, _ => rfl
/-- What a law of one list of rests gives the row. -/
theorem contract {f : FuncId} {fn : Func} {s : ChangeSpec} (hfp : fn.params = #[22]) (hfr : fn.resultTypes = #[4]) (hvars : s.vars = []) (hfn : ∀ (H : Type) (d : DataW H), s.fn H [d] = { results := [.lit (.bool true)], args := [d] })
    (hlaw : ∀ (v : Value) (l : List SR) (W : World), l.length < 10000 → LAt W v l → RsOk l → SyncAt W → Calls Tryz.prog f #[v] W fun e w' => e = .returned (.bool true) ∧ Ext W w')
    (H : Type) (enc : TypeId × Value → H) (W : World) (base : Nat) (args : Array Value) (ds gs : List (DataW H)) (before : List MemPlace)
    (hval : ∀ (j : Nat) t v, fn.params[j]? = some t → args[j]? = some v → Value.okWide Tryz.prog W .any base t v)
    (hW : DataW.Whole enc Tryz.prog fn.params.toList s.vars false W args.toList ds gs before) (hS : SyncAt W) (hk : Rows.uptoSmall H (ds ++ gs) = true) :
    Calls Tryz.prog f args W fun e W' => ∃ v, e = .returned v ∧ s.post enc Tryz.prog fn false true false false W args v W' := by
  have hW' := hW
  obtain ⟨p, q, hA0, hV, rfl, hfz, hnd⟩ := hW
  rw [hvars] at hV
  have hA : DataW.TrodAll enc Tryz.prog W 0 (fun _ => true) true fn.params.toList args.toList ds p := hA0
  rw [hfp] at hA hval
  obtain ⟨v0, vs0, d0, ds0, p0, q0, hargs, rfl, rfl, h0, r0⟩ := trodAll_cons hA
  obtain ⟨rfl, rfl, rfl⟩ := trodAll_nil r0
  obtain rfl : args = #[v0] := by cases args; simp_all
  obtain ⟨rfl, rfl⟩ := trodVars_none hV
  obtain ⟨l, hL, hO, hb⟩ := lat_of_trod (hval 0 22 v0 rfl rfl) h0
  have hl : l.length < 10000 := by
    have h1 : Rows.uptoBulkAll [d0] ≤ 1048576 := by
      have := of_decide_eq_true hk
      simpa using this
    simp only [Rows.uptoBulkAll] at h1
    omega
  clear hA0 hk
  refine (hlaw v0 l W hl hL hO hS).mono fun e W' ⟨he, hE⟩ => ?_
  subst he
  refine ⟨_, rfl, post_of_ext (pa := p0 ++ []) (pv := []) hW' ?_ ?_ ?_ (by simp) hE (ok_one hfr rfl (okWide_bool_mk Tryz.underlying4 _))⟩
  · intro b sp hd
    rw [hfr, show [d0] ++ [] = [d0] from rfl, hfn]
    exact trodAll_cons_mk (shut_bool Tryz.underlying4 _) trodAll_mk0
  · intro sp hsp
    rw [hfp, show [d0] ++ [] = [d0] from rfl, hfn]
    refine trodAll_cons_mk ?_ trodAll_mk0
    obtain ⟨fuel, h1⟩ := h0
    exact ⟨fuel, list_keep hE h1 sp fun p hp => hsp p (by simpa using hp)⟩
  · intro sp _
    rw [hvars, show [d0] ++ [] = [d0] from rfl, hfn]
    exact rfl
/-! ### The witness -/
noncomputable def laidWorld (os : Os) : World :=
  { World.holding Tryz.prog os ⟨#[], #[], []⟩ with heap := (World.holding Tryz.prog os ⟨#[], #[], []⟩).heap.modify 0 fun
      | .cells _ t frozen => .cells #[.int .u16 583, .int .u16 1464, .int .u16 2631, .int .u16 3512] t frozen
      | o => o }
theorem laid_met (os : Os) : laidMet Tryz.prog Rows.salvageMergeIsRightRow.laid ((laidWorld os).forCall (fun _ _ => 0) ⟨#[], #[.slice none 0 0], []⟩).memory :=
  laidMet_of_run' 8 (by kernel_rfl) (by kernel_rfl)
theorem reads4 (os : Os) {H : Type} (enc : TypeId × Value → H) : ∃ places, DataW.whole enc Tryz.prog ((laidWorld os).forCall (fun _ _ => 0) ⟨#[], #[.slice none 0 0], []⟩).memory Tryz.f4.params.toList Rows.salvageMergeIsRightSpec.vars false #[Value.slice none 0 0].toList 8 = some ([.nil], [], places) :=
  ⟨[], by kernel_rfl⟩
theorem small_nil : ∀ H : Type, Rows.uptoSmall H [DataW.nil] = true := fun H => by
  show decide (Rows.uptoBulkAll [DataW.nil (H := H)] ≤ 1048576) = true
  rw [decide_eq_true_eq]
  simp [Rows.uptoBulkAll, Rows.uptoBulk]
theorem liftedUpto4 (os : Os) (started : os.Started) (H : Type) (enc : TypeId × Value → H) (F : Stop.Interp) :
    ReturnsInHanded {} Tryz.checked os 4 .any ((Rows.OpenSpec.upto Rows.salvageMergeIsRightSpec).preRow enc Tryz.prog Tryz.f4 Rows.salvageMergeIsRightUptoRow.domain false Rows.salvageMergeIsRightUptoRow.laid) (((Rows.OpenSpec.upto Rows.salvageMergeIsRightSpec).at F).post enc Tryz.prog Tryz.f4 false true false false) := by
  obtain ⟨places, hx⟩ := reads4 os enc
  refine returnsInHanded_of_row (C := Tryz.checked) (s := Rows.OpenSpec.upto Rows.salvageMergeIsRightSpec) own started (by kernel_rfl) Tryz.func4
    (witness_row_at (enc := enc) (C := Tryz.checked) false (laidWorld os) #[.slice none 0 0] rfl (by kernel_rfl) (by kernel_rfl) (by kernel_rfl)
      (OpenSpec.preRow_of_cond 8 hx (by kernel_rfl) (fun k hk => by cases hk; exact small_nil H) (by kernel_rfl) (laid_met os))) ?_
  intro W base args ds gs before hval hW _ hcond _ hL _ _
  exact contract Tryz.params4 (by kernel_rfl) rfl (fun _ _ => rfl) (fun v l W hl hLA hO hS => right_any hl hLA hO hS) H enc W base args ds gs before hval hW (syncAt_of hL) (hcond _ rfl)
theorem saidUpto4 : Rows.SalvageMergeIsRightUptoSaid :=
  OpenClaim.holds_of_cond 4 Tryz.f4 rfl rfl rfl rfl rfl rfl rfl ⟨rfl, rfl, rfl, rfl, rfl⟩ rfl rfl rfl rfl rfl (by kernel_rfl) Tryz.func4 (by kernel_rfl)
    (of_decide_eq_true (by kernel_rfl)) (by unfold Func.isWrapper; first | (rw [if_pos (by decide +kernel)]; kernel_rfl) | (rw [if_neg (by decide +kernel)]; exact ⟨rfl, rfl⟩))
    (fun os started H enc _ F => by rw [OpenClaim.pre_eq_preRow]; exact liftedUpto4 os started H enc F)
theorem plain4 (f : FuncId) (fn : Func) (hf : Tryz.pinned.checked.prog.funcNamed "orangebox/orangeboxlaw4.SalvageMergeIsRight" = some f) (hfn : Tryz.pinned.checked.prog.funcs[f]? = some fn) :
    false = Tryz.pinned.checked.prog.looks [] ∧ ∀ (j : Nat) t, fn.params[j]? = some t → Tryz.pinned.checked.prog.wantsStandIn t = false := by
  obtain rfl : f = 4 := Option.some.inj ((show Tryz.prog.funcNamed "orangebox/orangeboxlaw4.SalvageMergeIsRight" = some 4 by kernel_rfl).symm.trans hf) |>.symm
  obtain rfl : fn = Tryz.f4 := (Option.some.inj (Tryz.func4.symm.trans hfn)).symm
  refine ⟨by kernel_rfl, fun j t ht => ?_⟩
  rw [Tryz.params4] at ht
  obtain rfl : t = 22 := by simpa using Array.mem_of_getElem? ht
  exact (show Tryz.prog.wantsStandIn 22 = false by kernel_rfl)
/-- The card of the second form. -/
theorem right_cardUpto : Rows.SalvageMergeIsRightUptoCardSaid :=
  Claim7.holds_tied_plain_at .later [] _ _ _ _ saidUpto4 (fun _ h => by cases h) (by kernel_rfl) (fun _ h => by cases h) salvageMergeIsRightUpto_row_tie rfl ⟨rfl, rfl⟩ (by kernel_rfl) rfl plain4 (by kernel_rfl)
end Go.Proofs.YtplddeboinhkbaaGreatDoorRR
