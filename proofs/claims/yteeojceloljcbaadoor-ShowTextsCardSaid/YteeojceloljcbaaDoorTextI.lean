/-
  What the document's text of a part wants.
-/
import Derived.Test.YteeojceloljcbaaDoorTextR
set_option linter.unusedVariables false
set_option linter.unusedSimpArgs false
namespace Go.Proofs.YteeojceloljcbaaDoor.H
open Go.RowKit Go.Proofs.YteeojceloljcbaaDoorW.PrintWords Go.Proofs.YteeojceloljcbaaDoorW.PrintLast Go.Proofs.YteeojceloljcbaaDoor.P

/-- What the text of a part wants: the tree, the part's kids, their texts. -/
structure TIn (w : World) (A : Option Addr) (l0 : List Pt) (f : Int → Bs) (p : Pt) (A3 : Option Addr) (g n : Nat) : Prop where
  parts : Kd.F k45 w (fun _ => True) A l0.length l0
  kids : Kd.F (Kd.int .i64) w (fun _ => True) A3 p.f3.length p.f3
  ok : ∀ k ∈ p.f3, 0 ≤ k ∧ k < (l0.length : Int)
  few0 : l0.length ≤ 1000
  few : p.f3.length ≤ 1000
  texts : TextsAt w g n f p.f3
  text : p.f1.size ≤ 200000
  lo : -9223372036854775807 ≤ p.f2
  hi : p.f2 ≤ 9223372036854775807
theorem TIn.below {w w' : World} {A : Option Addr} {l0 : List Pt} {f : Int → Bs} {p : Pt} {A3 : Option Addr} {g n : Nat} (h : TIn w A l0 f p A3 g n) (hb : Below w.heap.size w w') : TIn w' A l0 f p A3 g n :=
  ⟨Kd.F_step h.parts (fun j hj hl => hb.block j hl), Kd.F_step h.kids (fun j hj hl => hb.block j hl), h.ok, h.few0, h.few, h.texts.below hb, h.text, h.lo, h.hi⟩
theorem TIn.joined {w : World} {A : Option Addr} {l0 : List Pt} {f : Int → Bs} {p : Pt} {A3 : Option Addr} {g n : Nat} (h : TIn w A l0 f p A3 g n) (c c3 : Nat) (sep : ByteArray) (hlen : (joinT l0 p sep.data.toList f p.f3).length ≤ 2000000) :
    Calls Tryd.prog 43 #[.agg #[.slice A l0.length c], pval p A3 c3, .slice (some ⟨g, 0, none⟩) n n, .string sep] w fun e w' => e = .returned (.string ⟨(joinT l0 p sep.data.toList f p.f3).toArray⟩) ∧ Below w.heap.size w w' :=
  joined_any A c l0 f p sep A3 c3 g n w h.parts h.kids h.ok h.few0 h.texts h.few hlen
theorem TIn.kid0 {w : World} {A : Option Addr} {l0 : List Pt} {f : Int → Bs} {k : Int} {s : ByteArray} {m x : Int} {A3 : Option Addr} {g n : Nat} (h : TIn w A l0 f ⟨k, s, m, [x]⟩ A3 g n) :
    ∃ ad, A3 = some ad ∧ w.cell? ad = some (.int .i64 x) ∧ 0 ≤ x ∧ x < (n : Int) ∧ n ≤ 1000 ∧ w.cell? ⟨g, x.toNat, none⟩ = some (.string ⟨(f x).toArray⟩) := by
  obtain ⟨ad, y, rfl, hy, hc⟩ := C_int_at (Kd.F_now h.kids) 0 (by simp)
  rw [addr_zero] at hc
  obtain rfl : x = y := by simpa using hy
  obtain ⟨h1, h2, h3⟩ := h.texts.2.2 x (by simp)
  exact ⟨ad, rfl, hc, h1, h2, h.texts.2.1, h3⟩

end Go.Proofs.YteeojceloljcbaaDoor.H
