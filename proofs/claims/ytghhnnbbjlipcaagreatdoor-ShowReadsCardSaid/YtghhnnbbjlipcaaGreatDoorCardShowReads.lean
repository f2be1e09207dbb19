/-
  ShowReads is true of whatever comes in, and what came in reads behind the call as it did; proved by walking the law's own code. Conditions: the library's table and its two errors lie as their initialisers lay them (the row's own cell).
-/
import Derived.Test.YtghhnnbbjlipcaaGreatDoorErC
import Derived.Test.YtghhnnbbjlipcaaGreatDoorLaidG
import Derived.Test.YtghhnnbbjlipcaaGreatDoorCards
import Derived.Test.YtghhnnbbjlipcaaGreatDoorTie
import Derived.Test.YtghhnnbbjlipcaaGreatDoorRows
import Derived.ChangeMaps5
import Derived.WalkKit
import Derived.ProofKit
import Derived.OpenShut
import Derived.SliceStrings
import Derived.ChangeSlices
import Derived.Deep.DeepHandedRow
import Derived.Deep.DeepWitnessRowRef
import Derived.Lib.LaidTab
set_option linter.unusedVariables false
set_option linter.unusedSimpArgs false
namespace Go.Proofs.YtghhnnbbjlipcaaGreatDoor.showReads
open Go.ChangeShapes Go.WideShapes Go.ChangeAt Go.ChangeMaps Go.RowKit Go.Proofs.YtghhnnbbjlipcaaGreatDoor.X

theorem own : ownKnob Tryz.prog.godebug = none := by kernel_rfl
theorem laidOut : laidOutB Tryz.prog = true := by kernel_rfl
theorem cellsStr : Tryz.prog.cellsOf 9 = 1 := by kernel_rfl
set_option maxRecDepth 100000 in
theorem contract (H : Type) (enc : TypeId × Value → H) (W : World) (base : Nat) (args : Array Value) (ds gs : List (DataW H)) (before : List MemPlace)
    (hval : ∀ (j : Nat) t v, Tryz.f8.params[j]? = some t → args[j]? = some v → Value.okWide Tryz.prog W .any base t v)
    (hW : DataW.Whole enc Tryz.prog Tryz.f8.params.toList Rows.showReadsSpec.vars false W args.toList ds gs before) (hL : laidMetH Tryz.prog Rows.showReadsRow.laid W) (hSh : W.ShapedOpen Tryz.prog)
    (hS : (DataW.weightsEach Tryz.prog (Tryz.f8.params.toList ++ (OpenSpec.ofChange Rows.showReadsSpec).bare.plain.varTypes Tryz.prog) (ds ++ gs)).all (· ≤ reachBytes) = true) :
    Calls Tryz.prog 8 args W fun e W' => ∃ v, e = .returned v ∧ Rows.showReadsSpec.post enc Tryz.prog Tryz.f8 false true false false W args v W' := by
  have hW' := hW
  obtain ⟨p, q, hA0, hV, rfl, hfz, hnd⟩ := hW
  have hA : DataW.TrodAll enc Tryz.prog W 0 (fun _ => true) true Tryz.f8.params.toList args.toList ds p := hA0
  rw [Tryz.params8] at hA hval hS
  obtain ⟨v0, vs0, d0, ds0, p0, q0, hargs0, rfl, rfl, h0, r0⟩ := trodAll_cons hA
  obtain ⟨v1, vs1, d1, ds1, p1, q1, hargs1, rfl, rfl, h1, r1⟩ := trodAll_cons r0
  obtain ⟨rfl, rfl, rfl⟩ := trodAll_nil r1
  obtain rfl : args = #[v0, v1] := by
    cases args
    simp_all
  obtain ⟨rfl, rfl⟩ := trodVars_none hV
  have h0k := h0
  have h1k := h1
  have hw0 : ∀ n ∈ d0.weights Tryz.prog 25, n ≤ reachBytes := fun n hn => by
    have := List.all_eq_true.1 hS n (DataW.weights_mem_each (j := 0) rfl rfl n hn)
    simpa using this
  obtain ⟨A0, c0, l0, rfl, hc0, hF0, hsm0⟩ := Go.Proofs.YtghhnnbbjlipcaaGreatDoor.H.tree_of_trod (hval 0 25 v0 rfl rfl) h0 hw0
  have hw1 : ∀ n ∈ d1.weights Tryz.prog 25, n ≤ reachBytes := fun n hn => by
    have := List.all_eq_true.1 hS n (DataW.weights_mem_each (j := 1) rfl rfl n hn)
    simpa using this
  obtain ⟨A1, c1, l1, rfl, hc1, hF1, hsm1⟩ := Go.Proofs.YtghhnnbbjlipcaaGreatDoor.H.tree_of_trod (hval 1 25 v1 rfl rfl) h1 hw1
  clear hA0
  simp only [List.append_nil] at hW'
  have hlt : ∀ x ∈ (p0 ++ p1 : List MemPlace), x.block < W.heap.size := fun x hx => by first | (exfalso; simp at hx; done) | simpa using hW'.lt x (by simpa using hx)
  refine (showReads_any A0 c0 l0 A1 c1 l1 W ⟨⟨hF0, hc0, hsm0, (lw_of_laid hL hSh).tab, tab_big (lw_of_laid hL hSh)⟩, ⟨hF1, hc1, hsm1, (lw_of_laid hL hSh).tab, tab_big (lw_of_laid hL hSh)⟩, lw_of_laid hL hSh⟩).mono fun e W' ⟨he, hb⟩ => ?_
  subst he
  refine ⟨_, rfl, _, _, _, [], p0 ++ p1, [], hW', ?_, ?_, rfl, hb.frame _, fun h => by cases h⟩
  · exact trodAll_cons_mk (shut_bool Tryz.underlying4 _) trodAll_mk0
  · have := (trodAll_cons_mk (Below.trod laidOut (by kernel_rfl) (of_decide_eq_true (by kernel_rfl)) h0k hb (fun x hx => hlt x (by simp_all))) (trodAll_cons_mk (Below.trod laidOut (by kernel_rfl) (of_decide_eq_true (by kernel_rfl)) h1k hb (fun x hx => hlt x (by simp_all))) trodAll_mk0))
    simp only [List.append_nil] at this
    exact this

/-- The cells of a table. -/
def cellsOf : DataW Unit → Array Value
  | .agg l => (l.map fun
    | .lit (.int k z) => Value.int k z
    | _ => Value.nilIface).toArray
  | _ => #[]
def lay (h : Array Obj) (g : Nat) (c : Array Value) : Array Obj := h.modify g fun
  | .cells _ t frozen => .cells c t frozen
  | o => o
abbrev synS : ByteArray := { data := #[105, 110, 118, 97, 108, 105, 100, 32, 115, 121, 110, 116, 97, 120] }
abbrev rngS : ByteArray := { data := #[118, 97, 108, 117, 101, 32, 111, 117, 116, 32, 111, 102, 32, 114, 97, 110, 103, 101] }
/-- So many blocks has the settled world. -/
noncomputable def lowB : Nat := (World.holding Tryz.prog default ⟨#[], #[], []⟩).heap.size
/-- A world for the witness: the settled one, the tables and the two errors as their initialisers lay them. -/
noncomputable def laidWorld (os : Os) : World :=
  let w0 := World.holding Tryz.prog os ⟨#[.cells #[.string synS] 184, .cells #[.string rngS] 184], #[], []⟩
  { w0 with heap := lay (lay (lay (lay (lay w0.heap 0 (cellsOf Rows.laid_internal_strconv_uint64pow10)) 3 (cellsOf Rows.laid_math_bits_deBruijn32tab)) 4 (cellsOf Rows.laid_math_bits_deBruijn64tab)) 1 #[.iface 182 (.pointer (some ⟨lowB, 0, none⟩))]) 2 #[.iface 182 (.pointer (some ⟨lowB + 1, 0, none⟩))] }
theorem laid_met (os : Os) : laidMet Tryz.prog Rows.showReadsRow.laid ((laidWorld os).forCall (fun _ _ => 0) ⟨#[], #[.agg #[.slice none 0 0], .agg #[.slice none 0 0]], []⟩).memory :=
  laidMet_of_run' 8 (by kernel_rfl) (by kernel_rfl)
theorem reads (os : Os) {H : Type} (enc : TypeId × Value → H) : ∃ places, DataW.whole enc Tryz.prog ((laidWorld os).forCall (fun _ _ => 0) ⟨#[], #[.agg #[.slice none 0 0], .agg #[.slice none 0 0]], []⟩).memory Tryz.f8.params.toList Rows.showReadsSpec.vars false #[Value.agg #[.slice none 0 0], Value.agg #[.slice none 0 0]].toList 8 = some ([.agg [.nil], .agg [.nil]], [], places) :=
  ⟨[], by kernel_rfl⟩
set_option maxRecDepth 100000 in
theorem lifted (os : Os) (started : os.Started) (H : Type) (enc : TypeId × Value → H) (F : Stop.Interp) :
    ReturnsInHanded {} Tryz.checked os 8 .any ((OpenSpec.ofChange Rows.showReadsSpec).preRow enc Tryz.prog Tryz.f8 Rows.showReadsRow.domain false Rows.showReadsRow.laid) (((OpenSpec.ofChange Rows.showReadsSpec).at F).post enc Tryz.prog Tryz.f8 false true false false) := by
  obtain ⟨places, hx⟩ := reads os enc
  refine returnsInHanded_of_row (C := Tryz.checked) (s := (OpenSpec.ofChange Rows.showReadsSpec)) own started (by kernel_rfl) Tryz.func8
    (witness_row_atRef (enc := enc) (C := Tryz.checked) false (laidWorld os) #[.agg #[.slice none 0 0], .agg #[.slice none 0 0]] rfl (by kernel_rfl) (by kernel_rfl) (by kernel_rfl)
      (OpenSpec.preRow_of_cond 8 hx (by kernel_rfl) (fun k hk => by cases hk) (by kernel_rfl) (laid_met os))) ?_
  intro W base args ds gs before hval hW _ hcond hS hL hSh _
  exact contract H enc W base args ds gs before hval hW hL hSh hS
theorem said : Rows.ShowReadsSaid :=
  OpenClaim.holds_of_cond 8 Tryz.f8 rfl rfl rfl rfl rfl rfl rfl ⟨rfl, rfl, rfl, rfl, rfl⟩ rfl rfl rfl rfl rfl (by kernel_rfl) Tryz.func8 (by kernel_rfl)
    (of_decide_eq_true (by kernel_rfl)) (by unfold Func.isWrapper; first | (rw [if_pos (by decide +kernel)]; kernel_rfl) | (rw [if_neg (by decide +kernel)]; exact ⟨rfl, rfl⟩))
    (fun os started H enc _ F => by rw [OpenClaim.pre_eq_preRow]; exact lifted os started H enc F)
/-- No parameter wants a stand-in; the program looks as the card says. -/
theorem plain (f : FuncId) (fn : Func) (hf : Tryz.pinned.checked.prog.funcNamed "berth/berthlaw13.ShowReads" = some f) (hfn : Tryz.pinned.checked.prog.funcs[f]? = some fn) :
    true = Tryz.pinned.checked.prog.looks [] ∧ ∀ (j : Nat) t, fn.params[j]? = some t → Tryz.pinned.checked.prog.wantsStandIn t = false := by
  obtain rfl : f = 8 := Option.some.inj ((show Tryz.prog.funcNamed "berth/berthlaw13.ShowReads" = some 8 by kernel_rfl).symm.trans hf) |>.symm
  obtain rfl : fn = Tryz.f8 := (Option.some.inj (Tryz.func8.symm.trans hfn)).symm
  refine ⟨by kernel_rfl, fun j t ht => ?_⟩
  rw [Tryz.params8] at ht
  have hm := Array.mem_of_getElem? ht
  have hm2 : t = 25 ∨ t = 25 := by simpa using hm
  rcases hm2 with rfl | rfl
  · exact (show Tryz.prog.wantsStandIn 25 = false by kernel_rfl)
  · exact (show Tryz.prog.wantsStandIn 25 = false by kernel_rfl)
/-- The card. -/
theorem proved : Rows.ShowReadsCardSaid :=
  Claim7.holds_tied_plain_at .later [] _ _ _ _ said (fun _ h => by cases h) (by kernel_rfl) (fun _ h => by cases h) showReads_row_tie rfl ⟨rfl, rfl⟩ (by kernel_rfl) rfl plain (by kernel_rfl)
#print axioms proved

end Go.Proofs.YtghhnnbbjlipcaaGreatDoor.showReads
