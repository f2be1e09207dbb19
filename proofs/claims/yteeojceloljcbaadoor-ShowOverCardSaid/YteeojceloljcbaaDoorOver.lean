/-
  The walk of over.
-/
import Derived.Test.YteeojceloljcbaaDoorHung
set_option linter.unusedVariables false
set_option linter.unusedSimpArgs false
namespace Go.Proofs.YteeojceloljcbaaDoor.H
open Go.RowKit Go.Proofs.YteeojceloljcbaaDoorW.PrintWords Go.Proofs.YteeojceloljcbaaDoorW.PrintLast Go.Proofs.YteeojceloljcbaaDoor.P

/-- A tree that is read. -/
structure TreeAt (w : World) (A : Option Addr) (c : Nat) (l : List Pt) : Prop where
  tree : Kd.F k45 w (fun _ => True) A l.length l
  cap : l.length ≤ c
theorem TreeAt.below {w w' : World} {A : Option Addr} {c : Nat} {l : List Pt} (h : TreeAt w A c l) (k : Below w.heap.size w w') : TreeAt w' A c l :=
  ⟨Kd.F_mono (Kd.F_step (Kd.F_bound h.tree) (fun j hj hl => k.block j hl)) (fun _ _ => trivial), h.cap⟩
def zone : ByteArray := ⟨#[122, 111, 34, 110, 101]⟩
def nil_ : ByteArray := ⟨#[]⟩
/-- What over finds. -/
structure OvAt (w W : World) (A : Option Addr) (c : Nat) (l0 : List Pt) (A1 : Option Addr) (c1 n1 : Nat) (A2 : Option Addr) (c2 n2 : Nat) : Prop where
  bel : Below w.heap.size w W
  law : Law W A c l0
  not : TreeAt W A1 c1 (hungL l0 3 nil_)
  near : TreeAt W A2 c2 (hungL l0 8 zone)
  b0 : W.heap[w.heap.size]? = some (.cells #[.slice A l0.length c] 24 (0, 0))
  b1 : W.heap[w.heap.size + 1]? = some (.cells #[.slice A1 n1 c1] 24 (0, 0))
  b2 : W.heap[w.heap.size + 2]? = some (.cells #[.slice A2 n2 c2] 24 (0, 0))
  e1 : n1 = (hungL l0 3 nil_).length
  e2 : n2 = (hungL l0 8 zone).length
theorem OvAt.next {w W W' : World} {A : Option Addr} {c : Nat} {l0 : List Pt} {A1 : Option Addr} {c1 n1 : Nat} {A2 : Option Addr} {c2 n2 : Nat} (h : OvAt w W A c l0 A1 c1 n1 A2 c2 n2) (k : Below W.heap.size W W') : OvAt w W' A c l0 A1 c1 n1 A2 c2 n2 :=
  ⟨below_then h.bel h.bel.size k, h.law.below k, h.not.below k, h.near.below k, (k.block _ (Array.getElem?_eq_some_iff.1 h.b0).1).trans h.b0, (k.block _ (Array.getElem?_eq_some_iff.1 h.b1).1).trans h.b1, (k.block _ (Array.getElem?_eq_some_iff.1 h.b2).1).trans h.b2, h.e1, h.e2⟩
section
variable {w W : World} {A : Option Addr} {c : Nat} {l0 : List Pt} {A1 : Option Addr} {c1 n1 : Nat} {A2 : Option Addr} {c2 n2 : Nat}
theorem OvAt.x0 (h : OvAt w W A c l0 A1 c1 n1 A2 c2 n2) : W.cell? ⟨w.heap.size, 0, none⟩ = some (.slice A l0.length c) := (Lib.cell_of_heap h.b0 _).trans rfl
theorem OvAt.x1 (h : OvAt w W A c l0 A1 c1 n1 A2 c2 n2) : W.cell? ⟨w.heap.size + 1, 0, none⟩ = some (.slice A1 n1 c1) := (Lib.cell_of_heap h.b1 _).trans rfl
theorem OvAt.x2 (h : OvAt w W A c l0 A1 c1 n1 A2 c2 n2) : W.cell? ⟨w.heap.size + 2, 0, none⟩ = some (.slice A2 n2 c2) := (Lib.cell_of_heap h.b2 _).trans rfl
/-- The three calls over one of the trees. -/
theorem TreeAt.nest {l : List Pt} (h : TreeAt w A c l) (n : Nat) (hn : n = l.length) : Calls Tryd.prog 13 #[.agg #[.slice A n c]] w (NestAns w (nestOf l) (validSpec l)) := by
  subst hn; exact show_nest A c l w (Kd.F_now h.tree) h.cap
theorem TreeAt.valid {l : List Pt} (h : TreeAt w A c l) (n : Nat) (hn : n = l.length) : Calls Tryd.prog 11 #[.agg #[.slice A n c]] w fun e w' => ∃ v, e = .returned v ∧ ErrIs w' v (validSpec l) ∧ Below w.heap.size w w' := by
  subst hn; exact show_valid A c l w (Kd.F_now h.tree) h.cap
theorem TreeAt.text {l : List Pt} (h : TreeAt w A c l) (n : Nat) (hn : n = l.length) (ht : Lib.TabIs Tryd.prog w "internal/strconv.uint64pow10" .u64 Lib.pow10Tab) (hg : 0 < w.heap.size) :
    Calls Tryd.prog 15 #[.agg #[.slice A n c]] w (TextAns w (textSpec l).1 (textSpec l).2) := by
  subst hn; exact show_text A c l w h.tree h.cap ht hg
end
/-- What over asks for: the numbers. -/
structure OvL (l0 : List Pt) : Prop where
  ok : validSpec l0 = none
  few : l0.length < 1000
  room : nestOf l0 < 32
  nlo : 0 ≤ nestOf l0
theorem hangs_not (l0 : List Pt) (h : validSpec l0 = none) : Hangs l0 3 nil_ := by
  have hS := formSpec_shape l0 (nest_facts l0 h).1
  have h0 := hS.pos
  have hr := hS.root
  rw [show ((l0.length : Int) - 1) = ((l0.length - 1 : Nat) : Int) by omega] at hr
  exact ⟨(show ∀ x : Int, partFitsB ⟨3, nil_, 0, [x]⟩ = true from fun _ => rfl) _, by simpa [kidFitsB] using hr, by simp [condB]⟩
theorem hangs_near (l0 : List Pt) (h : validSpec l0 = none) : Hangs l0 8 zone := by
  have hS := formSpec_shape l0 (nest_facts l0 h).1
  have h0 := hS.pos
  have hr := hS.root
  rw [show ((l0.length : Int) - 1) = ((l0.length - 1 : Nat) : Int) by omega] at hr
  exact ⟨(show ∀ x : Int, partFitsB ⟨8, zone, 0, [x]⟩ = true from fun _ => rfl) _, by simpa [kidFitsB] using hr, by simp [condB]⟩
theorem more_near (l0 : List Pt) : moreB l0 8 = 1 := by simp [moreB, roundB, brackB]
/-- The whole is a conjunction or a disjunction. -/
def rootB (l0 : List Pt) : Bool := (rdp l0 ((l0.length - 1 : Nat) : Int)).f0 == 4 || (rdp l0 ((l0.length - 1 : Nat) : Int)).f0 == 5
theorem more_not (l0 : List Pt) : moreB l0 3 = if rootB l0 then 2 else 1 := by
  simp only [moreB, roundB, brackB, rootB]; simp only [true_or, if_true]
  split <;> rename_i h <;> simp [h]
/-- The whole's text. -/
abbrev wholeT (l0 : List Pt) : Bs := txt l0 ((l0.length - 1 : Nat) : Int)
theorem text_not (l0 : List Pt) (h : validSpec l0 = none) (h1 : validSpec (hungL l0 3 nil_) = none) :
    wholeT (hungL l0 3 nil_) = if rootB l0 then [33, 40] ++ wholeT l0 ++ [41] else 33 :: wholeT l0 := by
  have hS := formSpec_shape l0 (nest_facts l0 h).1
  have hS1 := formSpec_shape _ (nest_facts _ h1).1
  have ht := hung_text l0 3 nil_ hS hS1
  have h0 := hS.pos
  have hr := hung_rd l0 3 nil_ (l0.length - 1) (by omega)
  have e : (((hungL l0 3 nil_).length - 1 : Nat) : Int) = (l0.length : Int) := by rw [hung_len]; omega
  show txt (hungL l0 3 nil_) (((hungL l0 3 nil_).length - 1 : Nat) : Int) = _
  rw [e, ht]
  simp only [partT, joinT, oneT]
  rw [show rd_T45 (hungL l0 3 nil_) ((l0.length - 1 : Nat) : Int) = rdp l0 ((l0.length - 1 : Nat) : Int) from hr]
  simp [brackB, rootB]
  split <;> rfl
theorem text_near (l0 : List Pt) (h : validSpec l0 = none) (h1 : validSpec (hungL l0 8 zone) = none) :
    wholeT (hungL l0 8 zone) = [110, 101, 97, 114, 40, 34, 122, 111, 92, 34, 110, 101, 34, 44, 32] ++ wholeT l0 ++ [41] := by
  have hS := formSpec_shape l0 (nest_facts l0 h).1
  have hS1 := formSpec_shape _ (nest_facts _ h1).1
  have ht := hung_text l0 8 zone hS hS1
  have h0 := hS.pos
  have e : (((hungL l0 8 zone).length - 1 : Nat) : Int) = (l0.length : Int) := by rw [hung_len]; omega
  show txt (hungL l0 8 zone) (((hungL l0 8 zone).length - 1 : Nat) : Int) = _
  rw [e, ht]
  have hq : quoteT zone = [34, 122, 111, 92, 34, 110, 101, 34] := by decide
  simp [partT, selT, hq, joinT, oneT, brackB]
theorem textSpec_ok (l : List Pt) (h : validSpec l = none) (hl : (wholeT l).length ≤ 4096) : textSpec l = (wholeT l, none) := by
  unfold textSpec; rw [h]; simp only; rw [if_neg (by show ¬ 4096 < (wholeT l).length; omega)]
end Go.Proofs.YteeojceloljcbaaDoor.H
