/-
  The walks of the machine's tolerated, resource, selector, who. Printed by gen_mcj.py.
  The walk of the machine's who. Printed by gen_mck.py.
  The walk of the machine's set. Printed by gen_mcl.py.
  The walk of the machine's unit. Printed by gen_mcm.py.
  The walk of the machine's term. Printed by gen_mcn.py.
-/
import Derived.Test.YtfiljgkcipnghaaGreatDoorMcMem
set_option linter.unusedVariables false
set_option linter.unusedSimpArgs false
namespace Go.Proofs.YtfiljgkcipnghaaGreatDoor.X
open Go.RowKit
theorem exc_cases {α : Type} (x : Except PF α) : (∃ f, x = .error f) ∨ ∃ a, x = .ok a := by
  cases x with
  | error f => exact .inl ⟨f, rfl⟩
  | ok a => exact .inr ⟨a, rfl⟩
set_option maxHeartbeats 4000000 in
set_option maxRecDepth 100000 in
theorem m_tolerated {ts : List Tk} {B : Nat} {M : MM} {ws : List Wn} {fr : List Nat} {S : PS} {w : World} (h : MAt ts B M ws fr S w) (hT : TOK ts) (bd : MBd ws fr S) (hk : (pk ts S).kind ≠ 0) :
    Calls Tryz.prog 80 #[.pointer (some ⟨M.P, 0, none⟩)] w (MVoid ts B M ws w (tolM ts fr S)) := by
  obtain ⟨g, cap, c0, c1, hg, a0, a1, a2, a3, a4⟩ := h.tok
  have HH := Lib.hid h
  have hl := hT.len
  have hp := h.pos
  have hz := h.lt
  have cf := h.cf
  have hI : (S.pos : Int) < (ts.length : Int) := by omega
  have hp2 := pos_next hT h.pos hk
  have H1 := Lib.hid ((h.onS hp2).below ((Below.refl _ _).drew))
  have B1 := Lib.hid (((Below.refl B w).setCell (p := ⟨M.P, 1, none⟩) h.PB (.int .i64 (S.pos + 1))).drew)
  clear h hk
  go_enter Tryz.func80, Tryz.ntmps80
  go_wp2_with fail
  go_region
  go_wp2_with fail
  refine (m_take H1.out hT ⟨#[40]⟩).mono ?_
  intro e w1x hM
  rw [show (⟨#[40]⟩ : ByteArray).data.toList = [40] from rfl] at hM
  obtain ⟨f, hm1⟩ | ⟨S1, hm1⟩ := exc_cases (markP ts [40] (on S))
  · rw [hm1] at hM
    obtain ⟨rfl, hf, hB⟩ := hM
    have F := Lib.hid hf
    have BB := Lib.hid (B1.out.trans hB)
    clear hB hf
    go_wp2
    go_end0
    exact void_err (by simp only [tolM, hm1, thenS, bindS]) F.out BB.out
  rw [hm1] at hM
  obtain ⟨rfl, hMA, hB⟩ := hM
  have H2 := Lib.hid hMA
  have B2 := Lib.hid (B1.out.trans hB)
  clear hB hMA
  go_wp2_with fail
  refine (m_text H2.out hT).mono ?_
  intro e w2x hM
  obtain ⟨f, hm2⟩ | ⟨⟨key, S2⟩, hm2⟩ := exc_cases (textP ts S1)
  · rw [hm2] at hM
    obtain ⟨rfl, hf, hB⟩ := hM
    have F := Lib.hid hf
    have BB := Lib.hid (B2.out.trans hB)
    clear hB hf
    go_wp2
    go_end0
    exact void_err (by simp only [tolM, hm1, hm2, thenS, bindS]) F.out BB.out
  rw [hm2] at hM
  obtain ⟨rfl, hMA, hB⟩ := hM
  have H3 := Lib.hid hMA
  have B3 := Lib.hid (B2.out.trans hB)
  clear hB hMA
  go_wp2_with fail
  refine (m_take H3.out hT ⟨#[41]⟩).mono ?_
  intro e w3x hM
  rw [show (⟨#[41]⟩ : ByteArray).data.toList = [41] from rfl] at hM
  obtain ⟨f, hm3⟩ | ⟨S3, hm3⟩ := exc_cases (markP ts [41] S2)
  · rw [hm3] at hM
    obtain ⟨rfl, hf, hB⟩ := hM
    have F := Lib.hid hf
    have BB := Lib.hid (B3.out.trans hB)
    clear hB hf
    go_wp2
    go_end0
    exact void_err (by simp only [tolM, hm1, hm2, hm3, thenS, bindS]) F.out BB.out
  rw [hm3] at hM
  obtain ⟨rfl, hMA, hB⟩ := hM
  have H4 := Lib.hid hMA
  have B4 := Lib.hid (B3.out.trans hB)
  clear hB hMA
  have bd4 : MBd ws fr S3 := by rw [mark_fair hm3, text_fair hm2, mark_fair hm1]; exact bd.on.on.on.on
  go_wp2_with fail
  refine (m_leaf H4.out bd4 10 key 0 S.pos).mono ?_
  intro e wl hV
  obtain rfl := void_ret hV
  have VL := Lib.hid hV
  clear hV
  go_wp2
  go_end0
  exact void_last VL.out (by simp only [tolM, hm1, hm2, hm3, thenS, bindS]) rfl B4.out
/-- Behind cap. -/
def resM (ts : List Tk) (at_ : Nat) (of_ : Int) (fr : List Nat) (S : PS) : MR :=
  thenS (markP ts [40] S) fun S3 => bindS (textP ts S3) fun s S4 => thenS (markP ts [41] S4) fun S5 => leafR at_ ⟨18, s, of_, []⟩ fr S5
set_option maxHeartbeats 4000000 in
set_option maxRecDepth 100000 in
theorem m_resource {ts : List Tk} {B : Nat} {M : MM} {ws : List Wn} {fr : List Nat} {S : PS} {w : World} (h : MAt ts B M ws fr S w) (hT : TOK ts) (bd : MBd ws fr S) (at_ : Nat) (of_ : Int) :
    Calls Tryz.prog 108 #[.pointer (some ⟨M.P, 0, none⟩), .int .i64 of_, .int .i64 (placeT ts at_ : Nat)] w (MVoid ts B M ws w (resM ts at_ of_ fr S)) := by
  have H1 := Lib.hid h
  have B1 := Lib.hid (Below.refl B w)
  clear h
  go_enter Tryz.func108, Tryz.ntmps108
  go_wp2_with fail
  refine (m_take H1.out hT ⟨#[40]⟩).mono ?_
  intro e w1x hM
  rw [show (⟨#[40]⟩ : ByteArray).data.toList = [40] from rfl] at hM
  obtain ⟨f, hm1⟩ | ⟨S1, hm1⟩ := exc_cases (markP ts [40] S)
  · rw [hm1] at hM
    obtain ⟨rfl, hf, hB⟩ := hM
    have F := Lib.hid hf
    have BB := Lib.hid (B1.out.trans hB)
    clear hB hf
    go_wp2
    go_end0
    exact void_err (by simp only [resM, hm1, thenS, bindS]) F.out BB.out
  rw [hm1] at hM
  obtain ⟨rfl, hMA, hB⟩ := hM
  have H2 := Lib.hid hMA
  have B2 := Lib.hid (B1.out.trans hB)
  clear hB hMA
  go_wp2_with fail
  refine (m_text H2.out hT).mono ?_
  intro e w2x hM
  obtain ⟨f, hm2⟩ | ⟨⟨key, S2⟩, hm2⟩ := exc_cases (textP ts S1)
  · rw [hm2] at hM
    obtain ⟨rfl, hf, hB⟩ := hM
    have F := Lib.hid hf
    have BB := Lib.hid (B2.out.trans hB)
    clear hB hf
    go_wp2
    go_end0
    exact void_err (by simp only [resM, hm1, hm2, thenS, bindS]) F.out BB.out
  rw [hm2] at hM
  obtain ⟨rfl, hMA, hB⟩ := hM
  have H3 := Lib.hid hMA
  have B3 := Lib.hid (B2.out.trans hB)
  clear hB hMA
  go_wp2_with fail
  refine (m_take H3.out hT ⟨#[41]⟩).mono ?_
  intro e w3x hM
  rw [show (⟨#[41]⟩ : ByteArray).data.toList = [41] from rfl] at hM
  obtain ⟨f, hm3⟩ | ⟨S3, hm3⟩ := exc_cases (markP ts [41] S2)
  · rw [hm3] at hM
    obtain ⟨rfl, hf, hB⟩ := hM
    have F := Lib.hid hf
    have BB := Lib.hid (B3.out.trans hB)
    clear hB hf
    go_wp2
    go_end0
    exact void_err (by simp only [resM, hm1, hm2, hm3, thenS, bindS]) F.out BB.out
  rw [hm3] at hM
  obtain ⟨rfl, hMA, hB⟩ := hM
  have H4 := Lib.hid hMA
  have B4 := Lib.hid (B3.out.trans hB)
  clear hB hMA
  have bd4 : MBd ws fr S3 := by rw [mark_fair hm3, text_fair hm2, mark_fair hm1]; exact bd.on.on.on
  go_wp2_with fail
  refine (m_leaf H4.out bd4 18 key of_ at_).mono ?_
  intro e wl hV
  obtain rfl := void_ret hV
  have VL := Lib.hid hV
  clear hV
  go_wp2
  go_end0
  exact void_last VL.out (by simp only [resM, hm1, hm2, hm3, thenS, bindS]) rfl B4.out
set_option maxHeartbeats 4000000 in
set_option maxRecDepth 100000 in
theorem m_selector {ts : List Tk} {B : Nat} {M : MM} {ws : List Wn} {fr : List Nat} {S : PS} {w : World} (h : MAt ts B M ws fr S w) (hT : TOK ts) (bd : MBd ws fr S) (hk : (pk ts S).kind ≠ 0) (kind : Int) :
    Calls Tryz.prog 79 #[.pointer (some ⟨M.P, 0, none⟩), .int .i64 kind] w (MVoid ts B M ws w (selectorM ts kind fr S)) := by
  obtain ⟨g, cap, c0, c1, hg, a0, a1, a2, a3, a4⟩ := h.tok
  have HH := Lib.hid h
  have hl := hT.len
  have hp := h.pos
  have hz := h.lt
  have cf := h.cf
  have hI : (S.pos : Int) < (ts.length : Int) := by omega
  have hp2 := pos_next hT h.pos hk
  have H1 := Lib.hid ((h.onS hp2).below ((Below.refl _ _).drew))
  have B1 := Lib.hid (((Below.refl B w).setCell (p := ⟨M.P, 1, none⟩) h.PB (.int .i64 (S.pos + 1))).drew)
  clear h hk
  go_enter Tryz.func79, Tryz.ntmps79
  go_wp2_with fail
  go_region
  go_wp2_with fail
  refine (m_takeOpen H1.out hT bd.nest).mono ?_
  intro e w1x hM
  obtain ⟨f, hm1⟩ | ⟨S1, hm1⟩ := exc_cases (openP ts [40] (on S))
  · rw [hm1] at hM
    obtain ⟨rfl, hf, hB⟩ := hM
    have F := Lib.hid hf
    have BB := Lib.hid (B1.out.trans hB)
    clear hB hf
    go_wp2
    go_end0
    exact void_err (by simp only [selectorM, hm1, thenS, bindS]) F.out BB.out
  rw [hm1] at hM
  obtain ⟨rfl, hMA, hB⟩ := hM
  have H2 := Lib.hid hMA
  have B2 := Lib.hid (B1.out.trans hB)
  clear hB hMA
  go_wp2_with fail
  refine (m_text H2.out hT).mono ?_
  intro e w2x hM
  obtain ⟨f, hm2⟩ | ⟨⟨key, S2⟩, hm2⟩ := exc_cases (textP ts S1)
  · rw [hm2] at hM
    obtain ⟨rfl, hf, hB⟩ := hM
    have F := Lib.hid hf
    have BB := Lib.hid (B2.out.trans hB)
    clear hB hf
    go_wp2
    go_end0
    exact void_err (by simp only [selectorM, hm1, hm2, thenS, bindS]) F.out BB.out
  rw [hm2] at hM
  obtain ⟨rfl, hMA, hB⟩ := hM
  have H3 := Lib.hid hMA
  have B3 := Lib.hid (B2.out.trans hB)
  clear hB hMA
  go_wp2_with fail
  refine (m_take H3.out hT ⟨#[44]⟩).mono ?_
  intro e w3x hM
  rw [show (⟨#[44]⟩ : ByteArray).data.toList = [44] from rfl] at hM
  obtain ⟨f, hm3⟩ | ⟨S3, hm3⟩ := exc_cases (markP ts [44] S2)
  · rw [hm3] at hM
    obtain ⟨rfl, hf, hB⟩ := hM
    have F := Lib.hid hf
    have BB := Lib.hid (B3.out.trans hB)
    clear hB hf
    go_wp2
    go_end0
    exact void_err (by simp only [selectorM, hm1, hm2, hm3, thenS, bindS]) F.out BB.out
  rw [hm3] at hM
  obtain ⟨rfl, hMA, hB⟩ := hM
  have H4 := Lib.hid hMA
  have B4 := Lib.hid (B3.out.trans hB)
  clear hB hMA
  obtain ⟨Af, cfr, hvf⟩ := own_shape H4.out.rows.free
  have c5 : w3x.cell? ⟨M.P, 5, none⟩ = some (.slice Af fr.length cfr) := by rw [← hvf]; exact H4.out.c5
  have hz4 := H4.out.lt
  have hwl := bd.wsl
  clear hvf
  go_wp2_with fail
  refine (m_push H4.out (.part kind key S.pos fr.length) (by omega)).mono ?_
  rintro e w4x ⟨rfl, v1, hA, hB⟩
  have H5 := Lib.hid hA
  have B5 := Lib.hid (B4.out.trans hB)
  clear hA hB c5
  go_wp2_with fail
  refine (m_push H5.out .close (by simp; omega)).mono ?_
  rintro e w5x ⟨rfl, v2, hA, hB⟩
  have H6 := Lib.hid hA
  have B6 := Lib.hid (B5.out.trans hB)
  clear hA hB
  go_wp2_with fail
  refine (m_push H6.out .expr (by simp; omega)).mono ?_
  rintro e w6x ⟨rfl, v3, hA, hB⟩
  have H7 := Lib.hid hA
  have B7 := Lib.hid (B6.out.trans hB)
  clear hA hB
  go_wp2
  go_end0
  exact void_ok (ws' := [.expr, .close, .part kind key S.pos fr.length]) (fr' := fr) (S' := S3) (by simp only [selectorM, hm1, hm2, hm3, thenS, bindS]) _ (by exact rfl) H7.out B7.out
/-- What belongs to node, pod, it. -/
def whoM (ts : List Tk) (of_ : Int) (fr : List Nat) (S : PS) : MR := oneM (ownK ts S.pos of_ (on S)) fr
theorem res_one (ts : List Tk) (at_ : Nat) (of_ : Int) (fr : List Nat) (S : PS) : resM ts at_ of_ fr S = oneM (thenS (markP ts [40] S) fun S3 => bindS (textP ts S3) fun s S4 => thenS (markP ts [41] S4) fun S5 => putP at_ ⟨18, s, of_, []⟩ S5) fr := by
  unfold resM oneM
  cases markP ts [40] S with
  | error e => rfl
  | ok S1 =>
    simp only [thenS]
    cases textP ts S1 with
    | error e => rfl
    | ok q =>
      obtain ⟨s, S2⟩ := q
      simp only [bindS]
      cases markP ts [41] S2 with
      | error e => rfl
      | ok S3 => rfl
set_option maxHeartbeats 4000000 in
set_option maxRecDepth 100000 in
theorem m_who_label {ts : List Tk} {B : Nat} {M : MM} {ws : List Wn} {fr : List Nat} {S : PS} {w : World} (h : MAt ts B M ws fr S w) (hT : TOK ts) (bd : MBd ws fr S) (hk : (pk ts S).kind ≠ 0) (of_ : Int) (hb : isT ts (on S) 4 [91] = true) :
    Calls Tryz.prog 82 #[.pointer (some ⟨M.P, 0, none⟩), .int .i64 of_] w (MVoid ts B M ws w (whoM ts of_ fr S)) := by
  obtain ⟨g, cap, c0, c1, hg, a0, a1, a2, a3, a4⟩ := h.tok
  have HH := Lib.hid h
  have hl := hT.len
  have hp := h.pos
  have hz := h.lt
  have cf := h.cf
  have hI : (S.pos : Int) < (ts.length : Int) := by omega
  have hp2 := pos_next hT h.pos hk
  have H1 := Lib.hid ((h.onS hp2).below ((Below.refl _ _).drew))
  have B1 := Lib.hid (((Below.refl B w).setCell (p := ⟨M.P, 1, none⟩) h.PB (.int .i64 (S.pos + 1))).drew)
  clear h hk
  have HN := Lib.hid (pos_next hT (S := on S) hp2 (by rw [isT_kind hb]; decide))
  go_enter Tryz.func82, Tryz.ntmps82
  go_wp2_with fail
  go_region
  go_wp2_with fail
  refine (m_mark H1.out hT ⟨#[91]⟩).mono ?_
  rw [show (⟨#[91]⟩ : ByteArray).data.toList = [91] from rfl, hb]
  rintro e w0x ⟨rfl, hB⟩
  have H2 := Lib.hid (H1.out.below hB)
  have B2 := Lib.hid (B1.out.trans (hB.mono H1.out.bsz))
  have d1 := H2.out.c1
  have df := H2.out.cf
  have hz2 := H2.out.lt
  have H3 := Lib.hid (H2.out.onS HN.out)
  have B3 := Lib.hid (B2.out.setCell (p := ⟨M.P, 1, none⟩) H2.out.PB (.int .i64 ((on S).pos + 1)))
  have hp4 : (on S).pos < ts.length := hp2
  have hp5 : (on S).pos = S.pos + 1 := rfl
  have hcs : ((on S).pos : Int) = (S.pos : Int) + 1 := by rw [hp5]; omega
  clear hB hp5
  go_wp2_with fail
  refine (m_text H3.out hT).mono ?_
  intro e w1x hM
  obtain ⟨f, hm1⟩ | ⟨⟨key, S1⟩, hm1⟩ := exc_cases (textP ts (on (on S)))
  · rw [hm1] at hM
    obtain ⟨rfl, hf, hB⟩ := hM
    have F := Lib.hid hf
    have BB := Lib.hid (B3.out.trans hB)
    clear hB hf
    go_wp2
    go_end0
    exact void_err (by simp only [whoM, oneM, ownK, hb, if_true, hm1, thenS, bindS]) F.out BB.out
  rw [hm1] at hM
  obtain ⟨rfl, hMA, hB⟩ := hM
  have H4 := Lib.hid hMA
  have B4 := Lib.hid (B3.out.trans hB)
  clear hB hMA
  go_wp2_with fail
  refine (m_take H4.out hT ⟨#[93]⟩).mono ?_
  intro e w2x hM
  rw [show (⟨#[93]⟩ : ByteArray).data.toList = [93] from rfl] at hM
  obtain ⟨f, hm2⟩ | ⟨S2, hm2⟩ := exc_cases (markP ts [93] S1)
  · rw [hm2] at hM
    obtain ⟨rfl, hf, hB⟩ := hM
    have F := Lib.hid hf
    have BB := Lib.hid (B4.out.trans hB)
    clear hB hf
    go_wp2
    go_end0
    exact void_err (by simp only [whoM, oneM, ownK, hb, if_true, hm1, hm2, thenS, bindS]) F.out BB.out
  rw [hm2] at hM
  obtain ⟨rfl, hMA, hB⟩ := hM
  have H5 := Lib.hid hMA
  have B5 := Lib.hid (B4.out.trans hB)
  clear hB hMA
  have bd4 : MBd ws fr S2 := by rw [mark_fair hm2, text_fair hm1]; exact bd.on.on.on.on
  go_wp2_with fail
  refine (m_leaf H5.out bd4 14 key of_ S.pos).mono ?_
  intro e wl hV
  obtain rfl := void_ret hV
  have VL := Lib.hid hV
  clear hV
  go_wp2
  go_end0
  exact void_last VL.out (by simp only [whoM, oneM, ownK, hb, if_true, hm1, hm2, thenS, bindS, putP, leafR]) rfl B5.out

end Go.Proofs.YtfiljgkcipnghaaGreatDoor.X
set_option linter.unusedVariables false
set_option linter.unusedSimpArgs false
namespace Go.Proofs.YtfiljgkcipnghaaGreatDoor.X
open Go.RowKit
set_option maxHeartbeats 4000000 in
set_option maxRecDepth 100000 in
theorem m_who_none {ts : List Tk} {B : Nat} {M : MM} {ws : List Wn} {fr : List Nat} {S : PS} {w : World} (h : MAt ts B M ws fr S w) (hT : TOK ts) (bd : MBd ws fr S) (hk : (pk ts S).kind ≠ 0) (of_ : Int) (hb : isT ts (on S) 4 [91] = false) (f : PF) (hm1 : markP ts [46] (on S) = .error f) :
    Calls Tryz.prog 82 #[.pointer (some ⟨M.P, 0, none⟩), .int .i64 of_] w (MVoid ts B M ws w (whoM ts of_ fr S)) := by
  obtain ⟨g, cap, c0, c1, hg, a0, a1, a2, a3, a4⟩ := h.tok
  have HH := Lib.hid h
  have hl := hT.len
  have hp := h.pos
  have hz := h.lt
  have cf := h.cf
  have hI : (S.pos : Int) < (ts.length : Int) := by omega
  have hp2 := pos_next hT h.pos hk
  have H1 := Lib.hid ((h.onS hp2).below ((Below.refl _ _).drew))
  have B1 := Lib.hid (((Below.refl B w).setCell (p := ⟨M.P, 1, none⟩) h.PB (.int .i64 (S.pos + 1))).drew)
  clear h hk
  go_enter Tryz.func82, Tryz.ntmps82
  go_wp2_with fail
  go_region
  go_wp2_with fail
  refine (m_mark H1.out hT ⟨#[91]⟩).mono ?_
  rw [show (⟨#[91]⟩ : ByteArray).data.toList = [91] from rfl, hb]
  rintro e w0x ⟨rfl, hB⟩
  have H2 := Lib.hid (H1.out.below hB)
  have B2 := Lib.hid (B1.out.trans (hB.mono H1.out.bsz))
  clear hB
  go_wp2_with fail
  refine (m_take H2.out hT ⟨#[46]⟩).mono ?_
  rw [show (⟨#[46]⟩ : ByteArray).data.toList = [46] from rfl, hm1]
  rintro e w1x ⟨rfl, hf, hB⟩
  have F := Lib.hid hf
  have BB := Lib.hid (B2.out.trans hB)
  clear hB hf
  go_wp2
  go_end0
  have he : isT ts (on S) 4 [46] = false := by
    cases hc : isT ts (on S) 4 [46] with
    | false => rfl
    | true => unfold markP at hm1; rw [if_pos hc] at hm1; cases hm1
  have hf2 : f = wrongP ts (on S) := by
    unfold markP at hm1; rw [if_neg (by rw [he]; decide)] at hm1; injection hm1 with hm1; exact hm1.symm
  exact void_err (by simp only [whoM, oneM, ownK, hb, he, hf2, thenS, bindS, Bool.false_eq_true, if_false]) F.out BB.out
set_option maxHeartbeats 4000000 in
set_option maxRecDepth 100000 in
theorem m_who_name {ts : List Tk} {B : Nat} {M : MM} {ws : List Wn} {fr : List Nat} {S : PS} {w : World} (h : MAt ts B M ws fr S w) (hT : TOK ts) (bd : MBd ws fr S) (hk : (pk ts S).kind ≠ 0) (of_ : Int) (hb : isT ts (on S) 4 [91] = false) (S1 : PS) (hm1 : markP ts [46] (on S) = .ok S1) (ht : isT ts S1 3 [110, 97, 109, 101] = true) :
    Calls Tryz.prog 82 #[.pointer (some ⟨M.P, 0, none⟩), .int .i64 of_] w (MVoid ts B M ws w (whoM ts of_ fr S)) := by
  obtain ⟨g, cap, c0, c1, hg, a0, a1, a2, a3, a4⟩ := h.tok
  have HH := Lib.hid h
  have hl := hT.len
  have hp := h.pos
  have hz := h.lt
  have cf := h.cf
  have hI : (S.pos : Int) < (ts.length : Int) := by omega
  have hp2 := pos_next hT h.pos hk
  have H1 := Lib.hid ((h.onS hp2).below ((Below.refl _ _).drew))
  have B1 := Lib.hid (((Below.refl B w).setCell (p := ⟨M.P, 1, none⟩) h.PB (.int .i64 (S.pos + 1))).drew)
  clear h hk
  have hk3 : (pk ts S1).kind ≠ 0 := by rw [isT_kind ht]; decide
  go_enter Tryz.func82, Tryz.ntmps82
  go_wp2_with fail
  go_region
  go_wp2_with fail
  refine (m_mark H1.out hT ⟨#[91]⟩).mono ?_
  rw [show (⟨#[91]⟩ : ByteArray).data.toList = [91] from rfl, hb]
  rintro e w0x ⟨rfl, hB⟩
  have H2 := Lib.hid (H1.out.below hB)
  have B2 := Lib.hid (B1.out.trans (hB.mono H1.out.bsz))
  clear hB
  go_wp2_with fail
  refine (m_take H2.out hT ⟨#[46]⟩).mono ?_
  rw [show (⟨#[46]⟩ : ByteArray).data.toList = [46] from rfl, hm1]
  rintro e w1x ⟨rfl, hMA, hB⟩
  have H3 := Lib.hid hMA
  have B3 := Lib.hid (B2.out.trans hB)
  clear hB hMA
  go_wp2_with fail
  refine (m_word H3.out hT ⟨#[110, 97, 109, 101]⟩).mono ?_
  rw [show (⟨#[110, 97, 109, 101]⟩ : ByteArray).data.toList = [110, 97, 109, 101] from rfl, ht]
  rintro e w2x ⟨rfl, hB⟩
  have H4 := Lib.hid (H3.out.below hB)
  have B4 := Lib.hid (B3.out.trans (hB.mono H3.out.bsz))
  clear hB
  go_wp2_with fail
  refine (m_word H4.out hT ⟨#[107, 101, 121, 115]⟩).mono ?_
  rw [show (⟨#[107, 101, 121, 115]⟩ : ByteArray).data.toList = [107, 101, 121, 115] from rfl]
  rintro e w3x ⟨rfl, hB⟩
  have H5 := Lib.hid (H4.out.below hB)
  have B5 := Lib.hid (B4.out.trans (hB.mono H4.out.bsz))
  clear hB
  generalize isT ts S1 3 [107, 101, 121, 115] = y1
  go_wp2_with fail
  refine (m_word H5.out hT ⟨#[116, 97, 105, 110, 116, 115]⟩).mono ?_
  rw [show (⟨#[116, 97, 105, 110, 116, 115]⟩ : ByteArray).data.toList = [116, 97, 105, 110, 116, 115] from rfl]
  rintro e w4x ⟨rfl, hB⟩
  have H6 := Lib.hid (H5.out.below hB)
  have B6 := Lib.hid (B5.out.trans (hB.mono H5.out.bsz))
  clear hB
  generalize isT ts S1 3 [116, 97, 105, 110, 116, 115] = y2
  go_wp2_with fail
  refine (m_word H6.out hT ⟨#[99, 97, 112]⟩).mono ?_
  rw [show (⟨#[99, 97, 112]⟩ : ByteArray).data.toList = [99, 97, 112] from rfl]
  rintro e w5x ⟨rfl, hB⟩
  have H7 := Lib.hid (H6.out.below hB)
  have B7 := Lib.hid (B6.out.trans (hB.mono H6.out.bsz))
  clear hB
  generalize isT ts S1 3 [99, 97, 112] = y3
  have d1 := H7.out.c1
  have df := H7.out.cf
  have hz7 := H7.out.lt
  have hp3 := pos_next hT H7.out.pos hk3
  have H8 := Lib.hid (H7.out.onS hp3)
  have B8 := Lib.hid (B7.out.setCell (p := ⟨M.P, 1, none⟩) H7.out.PB (.int .i64 (S1.pos + 1)))
  have bd1 : MBd ws fr S1 := by rw [mark_fair hm1]; exact bd.on.on
  go_wp2_with fail
  refine (m_leaf H8.out bd1.on 15 [] of_ S.pos).mono ?_
  intro e wl hV
  obtain rfl := void_ret hV
  have VL := Lib.hid hV
  clear hV
  go_wp2
  go_end0
  have he : isT ts (on S) 4 [46] = true := by
    cases hc : isT ts (on S) 4 [46] with
    | true => rfl
    | false => unfold markP at hm1; rw [if_neg (by rw [hc]; decide)] at hm1; cases hm1
  have hs1 : S1 = on (on S) := mark_fair hm1
  subst hs1
  exact void_last VL.out (by simp only [whoM, oneM, ownK, hb, he, ownN, ht, thenS, bindS, putP, leafR, Bool.false_eq_true, if_false, if_true]) rfl B8.out
set_option maxHeartbeats 4000000 in
set_option maxRecDepth 100000 in
theorem m_who_keys {ts : List Tk} {B : Nat} {M : MM} {ws : List Wn} {fr : List Nat} {S : PS} {w : World} (h : MAt ts B M ws fr S w) (hT : TOK ts) (bd : MBd ws fr S) (hk : (pk ts S).kind ≠ 0) (of_ : Int) (hb : isT ts (on S) 4 [91] = false) (S1 : PS) (hm1 : markP ts [46] (on S) = .ok S1) (hf0 : isT ts S1 3 [110, 97, 109, 101] = false) (ht : isT ts S1 3 [107, 101, 121, 115] = true) :
    Calls Tryz.prog 82 #[.pointer (some ⟨M.P, 0, none⟩), .int .i64 of_] w (MVoid ts B M ws w (whoM ts of_ fr S)) := by
  obtain ⟨g, cap, c0, c1, hg, a0, a1, a2, a3, a4⟩ := h.tok
  have HH := Lib.hid h
  have hl := hT.len
  have hp := h.pos
  have hz := h.lt
  have cf := h.cf
  have hI : (S.pos : Int) < (ts.length : Int) := by omega
  have hp2 := pos_next hT h.pos hk
  have H1 := Lib.hid ((h.onS hp2).below ((Below.refl _ _).drew))
  have B1 := Lib.hid (((Below.refl B w).setCell (p := ⟨M.P, 1, none⟩) h.PB (.int .i64 (S.pos + 1))).drew)
  clear h hk
  have hk3 : (pk ts S1).kind ≠ 0 := by rw [isT_kind ht]; decide
  go_enter Tryz.func82, Tryz.ntmps82
  go_wp2_with fail
  go_region
  go_wp2_with fail
  refine (m_mark H1.out hT ⟨#[91]⟩).mono ?_
  rw [show (⟨#[91]⟩ : ByteArray).data.toList = [91] from rfl, hb]
  rintro e w0x ⟨rfl, hB⟩
  have H2 := Lib.hid (H1.out.below hB)
  have B2 := Lib.hid (B1.out.trans (hB.mono H1.out.bsz))
  clear hB
  go_wp2_with fail
  refine (m_take H2.out hT ⟨#[46]⟩).mono ?_
  rw [show (⟨#[46]⟩ : ByteArray).data.toList = [46] from rfl, hm1]
  rintro e w1x ⟨rfl, hMA, hB⟩
  have H3 := Lib.hid hMA
  have B3 := Lib.hid (B2.out.trans hB)
  clear hB hMA
  go_wp2_with fail
  refine (m_word H3.out hT ⟨#[110, 97, 109, 101]⟩).mono ?_
  rw [show (⟨#[110, 97, 109, 101]⟩ : ByteArray).data.toList = [110, 97, 109, 101] from rfl, hf0]
  rintro e w2x ⟨rfl, hB⟩
  have H4 := Lib.hid (H3.out.below hB)
  have B4 := Lib.hid (B3.out.trans (hB.mono H3.out.bsz))
  clear hB
  go_wp2_with fail
  refine (m_word H4.out hT ⟨#[107, 101, 121, 115]⟩).mono ?_
  rw [show (⟨#[107, 101, 121, 115]⟩ : ByteArray).data.toList = [107, 101, 121, 115] from rfl, ht]
  rintro e w3x ⟨rfl, hB⟩
  have H5 := Lib.hid (H4.out.below hB)
  have B5 := Lib.hid (B4.out.trans (hB.mono H4.out.bsz))
  clear hB
  go_wp2_with fail
  refine (m_word H5.out hT ⟨#[116, 97, 105, 110, 116, 115]⟩).mono ?_
  rw [show (⟨#[116, 97, 105, 110, 116, 115]⟩ : ByteArray).data.toList = [116, 97, 105, 110, 116, 115] from rfl]
  rintro e w4x ⟨rfl, hB⟩
  have H6 := Lib.hid (H5.out.below hB)
  have B6 := Lib.hid (B5.out.trans (hB.mono H5.out.bsz))
  clear hB
  generalize isT ts S1 3 [116, 97, 105, 110, 116, 115] = y2
  go_wp2_with fail
  refine (m_word H6.out hT ⟨#[99, 97, 112]⟩).mono ?_
  rw [show (⟨#[99, 97, 112]⟩ : ByteArray).data.toList = [99, 97, 112] from rfl]
  rintro e w5x ⟨rfl, hB⟩
  have H7 := Lib.hid (H6.out.below hB)
  have B7 := Lib.hid (B6.out.trans (hB.mono H6.out.bsz))
  clear hB
  generalize isT ts S1 3 [99, 97, 112] = y3
  have d1 := H7.out.c1
  have df := H7.out.cf
  have hz7 := H7.out.lt
  have hp3 := pos_next hT H7.out.pos hk3
  have H8 := Lib.hid (H7.out.onS hp3)
  have B8 := Lib.hid (B7.out.setCell (p := ⟨M.P, 1, none⟩) H7.out.PB (.int .i64 (S1.pos + 1)))
  have bd1 : MBd ws fr S1 := by rw [mark_fair hm1]; exact bd.on.on
  go_wp2_with fail
  refine (m_leaf H8.out bd1.on 16 [] of_ S.pos).mono ?_
  intro e wl hV
  obtain rfl := void_ret hV
  have VL := Lib.hid hV
  clear hV
  go_wp2
  go_end0
  have he : isT ts (on S) 4 [46] = true := by
    cases hc : isT ts (on S) 4 [46] with
    | true => rfl
    | false => unfold markP at hm1; rw [if_neg (by rw [hc]; decide)] at hm1; cases hm1
  have hs1 : S1 = on (on S) := mark_fair hm1
  subst hs1
  exact void_last VL.out (by simp only [whoM, oneM, ownK, hb, he, ownN, hf0, ht, thenS, bindS, putP, leafR, Bool.false_eq_true, if_false, if_true]) rfl B8.out
set_option maxHeartbeats 4000000 in
set_option maxRecDepth 100000 in
theorem m_who_taints {ts : List Tk} {B : Nat} {M : MM} {ws : List Wn} {fr : List Nat} {S : PS} {w : World} (h : MAt ts B M ws fr S w) (hT : TOK ts) (bd : MBd ws fr S) (hk : (pk ts S).kind ≠ 0) (of_ : Int) (hb : isT ts (on S) 4 [91] = false) (S1 : PS) (hm1 : markP ts [46] (on S) = .ok S1) (hf0 : isT ts S1 3 [110, 97, 109, 101] = false) (hf1 : isT ts S1 3 [107, 101, 121, 115] = false) (ht : isT ts S1 3 [116, 97, 105, 110, 116, 115] = true) :
    Calls Tryz.prog 82 #[.pointer (some ⟨M.P, 0, none⟩), .int .i64 of_] w (MVoid ts B M ws w (whoM ts of_ fr S)) := by
  obtain ⟨g, cap, c0, c1, hg, a0, a1, a2, a3, a4⟩ := h.tok
  have HH := Lib.hid h
  have hl := hT.len
  have hp := h.pos
  have hz := h.lt
  have cf := h.cf
  have hI : (S.pos : Int) < (ts.length : Int) := by omega
  have hp2 := pos_next hT h.pos hk
  have H1 := Lib.hid ((h.onS hp2).below ((Below.refl _ _).drew))
  have B1 := Lib.hid (((Below.refl B w).setCell (p := ⟨M.P, 1, none⟩) h.PB (.int .i64 (S.pos + 1))).drew)
  clear h hk
  have hk3 : (pk ts S1).kind ≠ 0 := by rw [isT_kind ht]; decide
  go_enter Tryz.func82, Tryz.ntmps82
  go_wp2_with fail
  go_region
  go_wp2_with fail
  refine (m_mark H1.out hT ⟨#[91]⟩).mono ?_
  rw [show (⟨#[91]⟩ : ByteArray).data.toList = [91] from rfl, hb]
  rintro e w0x ⟨rfl, hB⟩
  have H2 := Lib.hid (H1.out.below hB)
  have B2 := Lib.hid (B1.out.trans (hB.mono H1.out.bsz))
  clear hB
  go_wp2_with fail
  refine (m_take H2.out hT ⟨#[46]⟩).mono ?_
  rw [show (⟨#[46]⟩ : ByteArray).data.toList = [46] from rfl, hm1]
  rintro e w1x ⟨rfl, hMA, hB⟩
  have H3 := Lib.hid hMA
  have B3 := Lib.hid (B2.out.trans hB)
  clear hB hMA
  go_wp2_with fail
  refine (m_word H3.out hT ⟨#[110, 97, 109, 101]⟩).mono ?_
  rw [show (⟨#[110, 97, 109, 101]⟩ : ByteArray).data.toList = [110, 97, 109, 101] from rfl, hf0]
  rintro e w2x ⟨rfl, hB⟩
  have H4 := Lib.hid (H3.out.below hB)
  have B4 := Lib.hid (B3.out.trans (hB.mono H3.out.bsz))
  clear hB
  go_wp2_with fail
  refine (m_word H4.out hT ⟨#[107, 101, 121, 115]⟩).mono ?_
  rw [show (⟨#[107, 101, 121, 115]⟩ : ByteArray).data.toList = [107, 101, 121, 115] from rfl, hf1]
  rintro e w3x ⟨rfl, hB⟩
  have H5 := Lib.hid (H4.out.below hB)
  have B5 := Lib.hid (B4.out.trans (hB.mono H4.out.bsz))
  clear hB
  go_wp2_with fail
  refine (m_word H5.out hT ⟨#[116, 97, 105, 110, 116, 115]⟩).mono ?_
  rw [show (⟨#[116, 97, 105, 110, 116, 115]⟩ : ByteArray).data.toList = [116, 97, 105, 110, 116, 115] from rfl, ht]
  rintro e w4x ⟨rfl, hB⟩
  have H6 := Lib.hid (H5.out.below hB)
  have B6 := Lib.hid (B5.out.trans (hB.mono H5.out.bsz))
  clear hB
  go_wp2_with fail
  refine (m_word H6.out hT ⟨#[99, 97, 112]⟩).mono ?_
  rw [show (⟨#[99, 97, 112]⟩ : ByteArray).data.toList = [99, 97, 112] from rfl]
  rintro e w5x ⟨rfl, hB⟩
  have H7 := Lib.hid (H6.out.below hB)
  have B7 := Lib.hid (B6.out.trans (hB.mono H6.out.bsz))
  clear hB
  generalize isT ts S1 3 [99, 97, 112] = y3
  have d1 := H7.out.c1
  have df := H7.out.cf
  have hz7 := H7.out.lt
  have hp3 := pos_next hT H7.out.pos hk3
  have H8 := Lib.hid (H7.out.onS hp3)
  have B8 := Lib.hid (B7.out.setCell (p := ⟨M.P, 1, none⟩) H7.out.PB (.int .i64 (S1.pos + 1)))
  have bd1 : MBd ws fr S1 := by rw [mark_fair hm1]; exact bd.on.on
  go_wp2_with fail
  refine (m_leaf H8.out bd1.on 17 [] of_ S.pos).mono ?_
  intro e wl hV
  obtain rfl := void_ret hV
  have VL := Lib.hid hV
  clear hV
  go_wp2
  go_end0
  have he : isT ts (on S) 4 [46] = true := by
    cases hc : isT ts (on S) 4 [46] with
    | true => rfl
    | false => unfold markP at hm1; rw [if_neg (by rw [hc]; decide)] at hm1; cases hm1
  have hs1 : S1 = on (on S) := mark_fair hm1
  subst hs1
  exact void_last VL.out (by simp only [whoM, oneM, ownK, hb, he, ownN, hf0, hf1, ht, thenS, bindS, putP, leafR, Bool.false_eq_true, if_false, if_true]) rfl B8.out
set_option maxHeartbeats 4000000 in
set_option maxRecDepth 100000 in
theorem m_who_cap {ts : List Tk} {B : Nat} {M : MM} {ws : List Wn} {fr : List Nat} {S : PS} {w : World} (h : MAt ts B M ws fr S w) (hT : TOK ts) (bd : MBd ws fr S) (hk : (pk ts S).kind ≠ 0) (of_ : Int) (hb : isT ts (on S) 4 [91] = false) (S1 : PS) (hm1 : markP ts [46] (on S) = .ok S1) (hf0 : isT ts S1 3 [110, 97, 109, 101] = false) (hf1 : isT ts S1 3 [107, 101, 121, 115] = false) (hf2 : isT ts S1 3 [116, 97, 105, 110, 116, 115] = false) (ht : isT ts S1 3 [99, 97, 112] = true) :
    Calls Tryz.prog 82 #[.pointer (some ⟨M.P, 0, none⟩), .int .i64 of_] w (MVoid ts B M ws w (whoM ts of_ fr S)) := by
  obtain ⟨g, cap, c0, c1, hg, a0, a1, a2, a3, a4⟩ := h.tok
  have HH := Lib.hid h
  have hl := hT.len
  have hp := h.pos
  have hz := h.lt
  have cf := h.cf
  have hI : (S.pos : Int) < (ts.length : Int) := by omega
  have hp2 := pos_next hT h.pos hk
  have H1 := Lib.hid ((h.onS hp2).below ((Below.refl _ _).drew))
  have B1 := Lib.hid (((Below.refl B w).setCell (p := ⟨M.P, 1, none⟩) h.PB (.int .i64 (S.pos + 1))).drew)
  clear h hk
  have hk3 : (pk ts S1).kind ≠ 0 := by rw [isT_kind ht]; decide
  go_enter Tryz.func82, Tryz.ntmps82
  go_wp2_with fail
  go_region
  go_wp2_with fail
  refine (m_mark H1.out hT ⟨#[91]⟩).mono ?_
  rw [show (⟨#[91]⟩ : ByteArray).data.toList = [91] from rfl, hb]
  rintro e w0x ⟨rfl, hB⟩
  have H2 := Lib.hid (H1.out.below hB)
  have B2 := Lib.hid (B1.out.trans (hB.mono H1.out.bsz))
  clear hB
  go_wp2_with fail
  refine (m_take H2.out hT ⟨#[46]⟩).mono ?_
  rw [show (⟨#[46]⟩ : ByteArray).data.toList = [46] from rfl, hm1]
  rintro e w1x ⟨rfl, hMA, hB⟩
  have H3 := Lib.hid hMA
  have B3 := Lib.hid (B2.out.trans hB)
  clear hB hMA
  go_wp2_with fail
  refine (m_word H3.out hT ⟨#[110, 97, 109, 101]⟩).mono ?_
  rw [show (⟨#[110, 97, 109, 101]⟩ : ByteArray).data.toList = [110, 97, 109, 101] from rfl, hf0]
  rintro e w2x ⟨rfl, hB⟩
  have H4 := Lib.hid (H3.out.below hB)
  have B4 := Lib.hid (B3.out.trans (hB.mono H3.out.bsz))
  clear hB
  go_wp2_with fail
  refine (m_word H4.out hT ⟨#[107, 101, 121, 115]⟩).mono ?_
  rw [show (⟨#[107, 101, 121, 115]⟩ : ByteArray).data.toList = [107, 101, 121, 115] from rfl, hf1]
  rintro e w3x ⟨rfl, hB⟩
  have H5 := Lib.hid (H4.out.below hB)
  have B5 := Lib.hid (B4.out.trans (hB.mono H4.out.bsz))
  clear hB
  go_wp2_with fail
  refine (m_word H5.out hT ⟨#[116, 97, 105, 110, 116, 115]⟩).mono ?_
  rw [show (⟨#[116, 97, 105, 110, 116, 115]⟩ : ByteArray).data.toList = [116, 97, 105, 110, 116, 115] from rfl, hf2]
  rintro e w4x ⟨rfl, hB⟩
  have H6 := Lib.hid (H5.out.below hB)
  have B6 := Lib.hid (B5.out.trans (hB.mono H5.out.bsz))
  clear hB
  go_wp2_with fail
  refine (m_word H6.out hT ⟨#[99, 97, 112]⟩).mono ?_
  rw [show (⟨#[99, 97, 112]⟩ : ByteArray).data.toList = [99, 97, 112] from rfl, ht]
  rintro e w5x ⟨rfl, hB⟩
  have H7 := Lib.hid (H6.out.below hB)
  have B7 := Lib.hid (B6.out.trans (hB.mono H6.out.bsz))
  clear hB
  have d1 := H7.out.c1
  have df := H7.out.cf
  have hz7 := H7.out.lt
  have hp3 := pos_next hT H7.out.pos hk3
  have H8 := Lib.hid (H7.out.onS hp3)
  have B8 := Lib.hid (B7.out.setCell (p := ⟨M.P, 1, none⟩) H7.out.PB (.int .i64 (S1.pos + 1)))
  have bd1 : MBd ws fr S1 := by rw [mark_fair hm1]; exact bd.on.on
  go_wp2_with fail
  refine (m_resource H8.out hT bd1.on S.pos of_).mono ?_
  intro e wl hV
  obtain rfl := void_ret hV
  have VL := Lib.hid hV
  clear hV
  go_wp2
  go_end0
  have he : isT ts (on S) 4 [46] = true := by
    cases hc : isT ts (on S) 4 [46] with
    | true => rfl
    | false => unfold markP at hm1; rw [if_neg (by rw [hc]; decide)] at hm1; cases hm1
  have hs1 : S1 = on (on S) := mark_fair hm1
  subst hs1
  exact void_last VL.out (by rw [res_one]; simp only [whoM, ownK, hb, he, ownN, hf0, hf1, hf2, ht, Bool.false_eq_true, if_false, if_true]) rfl B8.out
set_option maxHeartbeats 4000000 in
set_option maxRecDepth 100000 in
theorem m_who_else {ts : List Tk} {B : Nat} {M : MM} {ws : List Wn} {fr : List Nat} {S : PS} {w : World} (h : MAt ts B M ws fr S w) (hT : TOK ts) (bd : MBd ws fr S) (hk : (pk ts S).kind ≠ 0) (of_ : Int) (hb : isT ts (on S) 4 [91] = false) (S1 : PS) (hm1 : markP ts [46] (on S) = .ok S1) (hf0 : isT ts S1 3 [110, 97, 109, 101] = false) (hf1 : isT ts S1 3 [107, 101, 121, 115] = false) (hf2 : isT ts S1 3 [116, 97, 105, 110, 116, 115] = false) (hf3 : isT ts S1 3 [99, 97, 112] = false) :
    Calls Tryz.prog 82 #[.pointer (some ⟨M.P, 0, none⟩), .int .i64 of_] w (MVoid ts B M ws w (whoM ts of_ fr S)) := by
  obtain ⟨g, cap, c0, c1, hg, a0, a1, a2, a3, a4⟩ := h.tok
  have HH := Lib.hid h
  have hl := hT.len
  have hp := h.pos
  have hz := h.lt
  have cf := h.cf
  have hI : (S.pos : Int) < (ts.length : Int) := by omega
  have hp2 := pos_next hT h.pos hk
  have H1 := Lib.hid ((h.onS hp2).below ((Below.refl _ _).drew))
  have B1 := Lib.hid (((Below.refl B w).setCell (p := ⟨M.P, 1, none⟩) h.PB (.int .i64 (S.pos + 1))).drew)
  clear h hk
  go_enter Tryz.func82, Tryz.ntmps82
  go_wp2_with fail
  go_region
  go_wp2_with fail
  refine (m_mark H1.out hT ⟨#[91]⟩).mono ?_
  rw [show (⟨#[91]⟩ : ByteArray).data.toList = [91] from rfl, hb]
  rintro e w0x ⟨rfl, hB⟩
  have H2 := Lib.hid (H1.out.below hB)
  have B2 := Lib.hid (B1.out.trans (hB.mono H1.out.bsz))
  clear hB
  go_wp2_with fail
  refine (m_take H2.out hT ⟨#[46]⟩).mono ?_
  rw [show (⟨#[46]⟩ : ByteArray).data.toList = [46] from rfl, hm1]
  rintro e w1x ⟨rfl, hMA, hB⟩
  have H3 := Lib.hid hMA
  have B3 := Lib.hid (B2.out.trans hB)
  clear hB hMA
  go_wp2_with fail
  refine (m_word H3.out hT ⟨#[110, 97, 109, 101]⟩).mono ?_
  rw [show (⟨#[110, 97, 109, 101]⟩ : ByteArray).data.toList = [110, 97, 109, 101] from rfl, hf0]
  rintro e w2x ⟨rfl, hB⟩
  have H4 := Lib.hid (H3.out.below hB)
  have B4 := Lib.hid (B3.out.trans (hB.mono H3.out.bsz))
  clear hB
  go_wp2_with fail
  refine (m_word H4.out hT ⟨#[107, 101, 121, 115]⟩).mono ?_
  rw [show (⟨#[107, 101, 121, 115]⟩ : ByteArray).data.toList = [107, 101, 121, 115] from rfl, hf1]
  rintro e w3x ⟨rfl, hB⟩
  have H5 := Lib.hid (H4.out.below hB)
  have B5 := Lib.hid (B4.out.trans (hB.mono H4.out.bsz))
  clear hB
  go_wp2_with fail
  refine (m_word H5.out hT ⟨#[116, 97, 105, 110, 116, 115]⟩).mono ?_
  rw [show (⟨#[116, 97, 105, 110, 116, 115]⟩ : ByteArray).data.toList = [116, 97, 105, 110, 116, 115] from rfl, hf2]
  rintro e w4x ⟨rfl, hB⟩
  have H6 := Lib.hid (H5.out.below hB)
  have B6 := Lib.hid (B5.out.trans (hB.mono H5.out.bsz))
  clear hB
  go_wp2_with fail
  refine (m_word H6.out hT ⟨#[99, 97, 112]⟩).mono ?_
  rw [show (⟨#[99, 97, 112]⟩ : ByteArray).data.toList = [99, 97, 112] from rfl, hf3]
  rintro e w5x ⟨rfl, hB⟩
  have H7 := Lib.hid (H6.out.below hB)
  have B7 := Lib.hid (B6.out.trans (hB.mono H6.out.bsz))
  clear hB
  go_wp2_with fail
  refine (m_wrong H7.out hT).mono ?_
  rintro e wl ⟨rfl, hf, hB⟩
  have F := Lib.hid hf
  have BB := Lib.hid (B7.out.trans hB)
  clear hB hf
  go_wp2
  go_end0
  have he : isT ts (on S) 4 [46] = true := by
    cases hc : isT ts (on S) 4 [46] with
    | true => rfl
    | false => unfold markP at hm1; rw [if_neg (by rw [hc]; decide)] at hm1; cases hm1
  have hs1 : S1 = on (on S) := mark_fair hm1
  subst hs1
  exact void_err (f := wrongP ts (on (on S))) (by simp only [whoM, oneM, ownK, hb, he, ownN, hf0, hf1, hf2, hf3, thenS, bindS, putP, leafR, Bool.false_eq_true, if_false, if_true]) F.out BB.out
theorem m_who {ts : List Tk} {B : Nat} {M : MM} {ws : List Wn} {fr : List Nat} {S : PS} {w : World} (h : MAt ts B M ws fr S w) (hT : TOK ts) (bd : MBd ws fr S) (hk : (pk ts S).kind ≠ 0) (of_ : Int) :
    Calls Tryz.prog 82 #[.pointer (some ⟨M.P, 0, none⟩), .int .i64 of_] w (MVoid ts B M ws w (whoM ts of_ fr S)) := by
  cases hb : isT ts (on S) 4 [91] with
  | true => exact m_who_label h hT bd hk of_ hb
  | false =>
    obtain ⟨f, hm1⟩ | ⟨S1, hm1⟩ := exc_cases (markP ts [46] (on S))
    · exact m_who_none h hT bd hk of_ hb f hm1
    cases h0 : isT ts S1 3 [110, 97, 109, 101] with
    | true => exact m_who_name h hT bd hk of_ hb S1 hm1 h0
    | false =>
      cases h1 : isT ts S1 3 [107, 101, 121, 115] with
      | true => exact m_who_keys h hT bd hk of_ hb S1 hm1 h0 h1
      | false =>
        cases h2 : isT ts S1 3 [116, 97, 105, 110, 116, 115] with
        | true => exact m_who_taints h hT bd hk of_ hb S1 hm1 h0 h1 h2
        | false =>
          cases h3 : isT ts S1 3 [99, 97, 112] with
          | true => exact m_who_cap h hT bd hk of_ hb S1 hm1 h0 h1 h2 h3
          | false => exact m_who_else h hT bd hk of_ hb S1 hm1 h0 h1 h2 h3

end Go.Proofs.YtfiljgkcipnghaaGreatDoor.X
set_option linter.unusedVariables false
set_option linter.unusedSimpArgs false
namespace Go.Proofs.YtfiljgkcipnghaaGreatDoor.X
open Go.RowKit
/-- A set from an element on. -/
def elemP (ts : List Tk) (n : Nat) (kids : List Nat) (T : PS) : PR (List Nat) :=
  if (pk ts T).kind ≠ 1 ∧ (pk ts T).kind ≠ 2 then .error (wrongP ts T)
  else if kids.length = 64 then .error (124, T.pos)
  else if (pk ts T).kind = 1 then setLoop ts n (kids ++ [T.parts.length]) (putS T.pos ⟨11, (pk ts T).text, 0, []⟩ (on T))
  else setLoop ts n (kids ++ [T.parts.length]) (putS T.pos ⟨12, [], (pk ts T).num, []⟩ (on T))
theorem loop_end {ts : List Tk} {n : Nat} {kids : List Nat} {T : PS} (h : isT ts T 4 [125] = true) : setLoop ts (n + 1) kids T = .ok (kids, T) := by
  simp only [setLoop, h, if_true]
theorem loop_elem {ts : List Tk} {n : Nat} {T : PS} (h : isT ts T 4 [125] = false) : setLoop ts (n + 1) [] T = elemP ts n [] T := by
  simp only [setLoop, h, Bool.false_eq_true, if_false, List.length_nil, Nat.lt_irrefl, thenS, elemP]
theorem not_both {ts : List Tk} {T : PS} (h : isT ts T 4 [44] = true) : isT ts T 4 [125] = false := by
  unfold isT at h ⊢
  rw [Bool.and_eq_true] at h
  have h2 := eq_of_beq h.2
  rw [h2]
  simp
theorem loop_more {ts : List Tk} {n : Nat} {kids : List Nat} {T : PS} (hk : 0 < kids.length) (h : isT ts T 4 [44] = true) : setLoop ts (n + 1) kids T = elemP ts n kids (on T) := by
  simp only [setLoop, not_both h, Bool.false_eq_true, if_false, if_pos hk, markP, h, if_true, thenS, elemP]
theorem loop_bad {ts : List Tk} {n : Nat} {kids : List Nat} {T : PS} (hk : 0 < kids.length) (h : isT ts T 4 [44] = false) (h2 : isT ts T 4 [125] = false) : setLoop ts (n + 1) kids T = .error (wrongP ts T) := by
  simp only [setLoop, h2, Bool.false_eq_true, if_false, if_pos hk, markP, h, thenS]
/-- What a set comes to behind its elements. -/
def setEnd (at_ : Nat) (kids : List Nat) (S2 : PS) : PR Nat := putP at_ ⟨13, [], 0, kids⟩ (on S2)
theorem set_head {ts : List Tk} {S : PS} (h : isT ts S 4 [123] = true) : setP ts S = bindS (setLoop ts 5000 [] (on S)) (setEnd S.pos) := by
  unfold setP markP
  rw [if_pos h]
  rfl
theorem set_lay (at_ : Nat) (fr kids : List Nat) (S2 : PS) : oneM (setEnd at_ kids S2) fr = layR at_ ⟨13, [], 0, []⟩ fr.length (fr ++ kids) (on S2) := by
  unfold layR
  rw [List.take_left, List.drop_left]
  rfl
set_option maxHeartbeats 2000000 in
set_option maxRecDepth 100000 in
theorem m_set_empty {ts : List Tk} {B : Nat} {M : MM} {ws : List Wn} {fr : List Nat} {S : PS} {w : World} (h : MAt ts B M ws fr S w) (hT : TOK ts) (bd : MBd ws fr S) (hs : fr.length ≤ 4100 ∧ S.parts.length ≤ 4100 ∧ S.offs.length ≤ 4100) (hk : (pk ts S).kind ≠ 0) (hb : isT ts S 4 [123] = true) (he : isT ts (on S) 4 [125] = true) :
    Calls Tryz.prog 81 #[.pointer (some ⟨M.P, 0, none⟩)] w (MVoid ts B M ws w (oneM (setP ts S) fr)) := by
  obtain ⟨g, cap, c0, c1, hg, a0, a1, a2, a3, a4⟩ := h.tok
  have HH := Lib.hid h
  have hl := hT.len
  have hp := h.pos
  have hz := h.lt
  have cf := h.cf
  have hI : (S.pos : Int) < (ts.length : Int) := by omega
  have hp2 := pos_next hT h.pos hk
  have H1 := Lib.hid ((h.onS hp2).below ((Below.refl _ _).drew))
  have B1 := Lib.hid (((Below.refl B w).setCell (p := ⟨M.P, 1, none⟩) h.PB (.int .i64 (S.pos + 1))).drew)
  clear h hk
  have hp3 := pos_next hT (S := on S) hp2 (by rw [isT_kind he]; decide)
  go_enter Tryz.func81, Tryz.ntmps81
  go_wp2_with fail
  go_region
  have hcs : ((on S).pos : Int) = (S.pos : Int) + 1 := by show ((S.pos + 1 : Nat) : Int) = _; omega
  obtain ⟨Af, cfr, hvf⟩ := own_shape H1.out.rows.free
  have c5 : w.cell? ⟨M.P, 5, none⟩ = some (.slice Af fr.length cfr) := by rw [← hvf]; exact HH.out.c5
  clear hvf
  go_wp2_with fail
  refine (m_mark H1.out hT ⟨#[125]⟩).mono ?_
  rw [show (⟨#[125]⟩ : ByteArray).data.toList = [125] from rfl, he]
  rintro e w0x ⟨rfl, hB⟩
  have H2 := Lib.hid (H1.out.below hB)
  have B2 := Lib.hid (B1.out.trans (hB.mono H1.out.bsz))
  have d1 := H2.out.c1
  have df := H2.out.cf
  have hz2 := H2.out.lt
  have hp4 : (on S).pos < ts.length := hp2
  have H3 := Lib.hid (H2.out.onS hp3)
  have B3 := Lib.hid (B2.out.setCell (p := ⟨M.P, 1, none⟩) H2.out.PB (.int .i64 ((on S).pos + 1)))
  clear hB c5
  go_wp2_with fail
  refine (m_lay' H3.out bd.on.on 13 [] 0 S.pos fr.length (Nat.le_refl _)).mono ?_
  intro e wl hV
  obtain rfl := void_ret hV
  have VL := Lib.hid hV
  clear hV
  go_wp2
  go_end0
  refine void_last VL.out ?_ rfl B3.out
  rw [set_head hb, loop_end he]
  have h := set_lay S.pos fr [] (on S)
  rw [List.append_nil] at h
  exact h
set_option maxHeartbeats 2000000 in
set_option maxRecDepth 100000 in
theorem m_set_loop {ts : List Tk} {B : Nat} {M : MM} {ws : List Wn} {fr : List Nat} {S : PS} {w : World} (h : MAt ts B M ws fr S w) (hT : TOK ts) (bd : MBd ws fr S) (hs : fr.length ≤ 4100 ∧ S.parts.length ≤ 4100 ∧ S.offs.length ≤ 4100) (hk : (pk ts S).kind ≠ 0) (hb : isT ts S 4 [123] = true) (he : isT ts (on S) 4 [125] = false) :
    Calls Tryz.prog 81 #[.pointer (some ⟨M.P, 0, none⟩)] w (MVoid ts B M ws w (oneM (setP ts S) fr)) := by
  obtain ⟨g, cap, c0, c1, hg, a0, a1, a2, a3, a4⟩ := h.tok
  have HH := Lib.hid h
  have hl := hT.len
  have hp := h.pos
  have hz := h.lt
  have cf := h.cf
  have hI : (S.pos : Int) < (ts.length : Int) := by omega
  have hp2 := pos_next hT h.pos hk
  have H1 := Lib.hid ((h.onS hp2).below ((Below.refl _ _).drew))
  have B1 := Lib.hid (((Below.refl B w).setCell (p := ⟨M.P, 1, none⟩) h.PB (.int .i64 (S.pos + 1))).drew)
  clear h hk
  have E0 : Hid (setP ts S = bindS (elemP ts 4999 [] (on S)) (setEnd S.pos)) := Lib.hid (by rw [set_head hb, loop_elem he])
  go_enter Tryz.func81, Tryz.ntmps81
  go_wp2_with fail
  go_region
  have hcs : ((on S).pos : Int) = (S.pos : Int) + 1 := by show ((S.pos + 1 : Nat) : Int) = _; omega
  obtain ⟨Af, cfr, hvf⟩ := own_shape H1.out.rows.free
  have c5 : w.cell? ⟨M.P, 5, none⟩ = some (.slice Af fr.length cfr) := by rw [← hvf]; exact HH.out.c5
  clear hvf
  go_wp2_with fail
  refine (m_mark H1.out hT ⟨#[125]⟩).mono ?_
  rw [show (⟨#[125]⟩ : ByteArray).data.toList = [125] from rfl, he]
  rintro e w0x ⟨rfl, hB⟩
  have H2 := Lib.hid (H1.out.below hB)
  have B2 := Lib.hid (B1.out.trans (hB.mono H1.out.bsz))
  clear hB c5 he c0 c1 a0 a1 a2 a3 a4 cf
  go_wp2_with fail
  go_loopw [5] (fun v wr => ∃ (kids : List Nat) (T : PS) (M1 : MM), kids.length ≤ 64 ∧ v = .int .i64 ((kids.length : Int) + 1) ∧ M1.P = M.P ∧ T.parts.length ≤ 4100 + kids.length ∧ T.offs.length ≤ 4100 + kids.length ∧ T.nest = S.nest ∧ Hid (setP ts S = bindS (elemP ts (4999 - kids.length) kids T) (setEnd S.pos)) ∧ Hid (MAt ts B M1 ws (fr ++ kids) T wr) ∧ Hid (Below B w wr)) (fun v _ => 70 - (intOf v).toNat)
  case atStart => exact ⟨[], on S, M, by simp, rfl, rfl, by have := hs.2.1; simpa [on] using this, by have := hs.2.2; simpa [on] using this, rfl, E0, Lib.hid (by rw [List.append_nil]; exact H2.out), B2⟩
  case round =>
    obtain ⟨kids, T, M1, hkl, rfl, hP, hpl, hol, hnn, hEq, HR, BR⟩ := hrel
    obtain ⟨P1, vt1, vw1, vp1, vo1, vf1, kv1⟩ := M1
    obtain rfl : P1 = M.P := hP
    obtain ⟨g', cap', x0, x1, hg', b0, b1, b2, b3, b4⟩ := HR.out.tok
    have hzr := HR.out.lt
    have xf := HR.out.cf
    dsimp only at x0 x1 hzr xf
    have hpT := HR.out.pos
    have hIT : (T.pos : Int) < (ts.length : Int) := by omega
    obtain ⟨hs1, hs2, hs3⟩ := hs
    have hwl := bd.wsl
    go_wp2_with fail
    go_region
    by_cases ek : (pk ts T).kind = 1 ∨ (pk ts T).kind = 2
    · by_cases h64 : kids.length = 64
      · have hJ : (kids.length : Int) + 1 > 64 := by omega
        have hJ2 : (64 : Int) < (kids.length : Int) + 1 := by omega
        rcases ek with ek | ek
        · have e1 : ((pk ts T).kind == 1) = true := by rw [ek]; rfl
          have EK := Lib.hid ek
          clear ek
          go_wp2_with fail
          refine (m_fail (HR.out.below (((Below.refl _ _).alloc (Nat.le_refl _) _).drew)) hT 124 (by decide)).mono ?_
          rintro e w4x ⟨rfl, hf, hB⟩
          have FF := Lib.hid (show MFault ts M.P (124, T.pos) w4x from hf)
          have BB := Lib.hid ((((BR.out.alloc HR.out.bsz _).drew).trans hB))
          clear hB hf
          go_wp2
          go_end0
          exact void_err (f := (124, T.pos)) (by rw [hEq.out]; unfold elemP; rw [if_neg (by rw [EK.out]; decide), if_pos h64]; rfl) FF.out BB.out
        · have e1 : ((pk ts T).kind == 1) = false := by rw [ek]; rfl
          have e2 : ((pk ts T).kind == 2) = true := by rw [ek]; rfl
          have n1 : ¬ (pk ts T).kind = 1 := by rw [ek]; decide
          have m1 : ((pk ts T).kind != 1) = true := by rw [ek]; rfl
          have m2 : ((pk ts T).kind != 2) = false := by rw [ek]; rfl
          have EK := Lib.hid ek
          clear ek
          go_wp2_with fail
          refine (m_fail (HR.out.below (((Below.refl _ _).alloc (Nat.le_refl _) _).drew)) hT 124 (by decide)).mono ?_
          rintro e w4x ⟨rfl, hf, hB⟩
          have FF := Lib.hid (show MFault ts M.P (124, T.pos) w4x from hf)
          have BB := Lib.hid ((((BR.out.alloc HR.out.bsz _).drew).trans hB))
          clear hB hf
          go_wp2
          go_end0
          exact void_err (f := (124, T.pos)) (by rw [hEq.out]; unfold elemP; rw [if_neg (by rw [EK.out]; decide), if_pos h64]; rfl) FF.out BB.out
      · have hJ : ¬ (kids.length : Int) + 1 > 64 := by omega
        have hJ2 : ¬ (64 : Int) < (kids.length : Int) + 1 := by omega
        rcases ek with ek | ek
        · have e1 : ((pk ts T).kind == 1) = true := by rw [ek]; rfl
          have hp3 := pos_next hT HR.out.pos (by rw [ek]; decide)
          have EK := Lib.hid ek
          clear ek
          have bd3 : MBd ws (fr ++ kids) (on T) := ⟨by simp; omega, by show T.parts.length ≤ _; omega, by show T.offs.length ≤ _; omega, bd.wsl, by show T.nest ≤ _; rw [hnn]; exact bd.nest⟩
          go_wp2_with fail
          refine (m_leaf ((HR.out.onS hp3).below (((Below.refl _ _).alloc (Nat.le_refl _) _).drew)) bd3 11 (pk ts T).text 0 T.pos).mono ?_
          rintro e w4x ⟨rfl, M2, hP2, hA, hB⟩
          obtain ⟨P2, vt2, vw2, vp2, vo2, vf2, kv2⟩ := M2
          obtain rfl : P2 = M.P := hP2
          have H4 : Hid (MAt ts B ⟨M.P, vt2, vw2, vp2, vo2, vf2, kv2⟩ ws (fr ++ (kids ++ [T.parts.length])) (putS T.pos ⟨11, (pk ts T).text, 0, []⟩ (on T)) w4x) := Lib.hid (by rw [← List.append_assoc]; exact hA)
          have B4 := Lib.hid ((((BR.out.setCell (p := ⟨M.P, 1, none⟩) HR.out.PB (.int .i64 (T.pos + 1))).alloc (by simpa using HR.out.bsz) _).drew).trans hB)
          have hEq2 : Hid (setP ts S = bindS (setLoop ts (4999 - kids.length) (kids ++ [T.parts.length]) (putS T.pos ⟨11, (pk ts T).text, 0, []⟩ (on T))) (setEnd S.pos)) := Lib.hid (by rw [hEq.out]; unfold elemP; rw [if_neg (by rw [EK.out]; decide), if_neg h64, if_pos EK.out])
          have hfu : Hid (4999 - kids.length = (4998 - kids.length) + 1) := Lib.hid (by omega)
          have hkp : Hid (0 < (kids ++ [T.parts.length]).length) := Lib.hid (by simp)
          have hpt : ((putS T.pos ⟨11, (pk ts T).text, 0, []⟩ (on T)) : PS).parts.length = T.parts.length + 1 := by simp [putS, on]
          have hot : ((putS T.pos ⟨11, (pk ts T).text, 0, []⟩ (on T)) : PS).offs.length = T.offs.length + 1 := by simp [putS, on]
          have hnt : ((putS T.pos ⟨11, (pk ts T).text, 0, []⟩ (on T)) : PS).nest = T.nest := rfl
          have HTT : ∃ T2, T2 = (putS T.pos ⟨11, (pk ts T).text, 0, []⟩ (on T)) := ⟨_, rfl⟩
          obtain ⟨T2, hT2⟩ := HTT
          rw [← hT2] at H4 hEq2 hpt hot hnt
          clear hA hB hT2
          go_wp2_with fail
          refine (m_mark H4.out hT ⟨#[44]⟩).mono ?_
          rw [show (⟨#[44]⟩ : ByteArray).data.toList = [44] from rfl]
          cases hc : isT ts T2 4 [44] with
          | true =>
            rintro e w5x ⟨rfl, hB⟩
            have H5 := Lib.hid (H4.out.below hB)
            have B5 := Lib.hid (B4.out.trans (hB.mono H4.out.bsz))
            have f1 := H5.out.c1
            have ff := H5.out.cf
            have hz5 := H5.out.lt
            dsimp only at f1 ff hz5
            have hp6 := H5.out.pos
            have hp7 := pos_next hT H5.out.pos (by rw [isT_kind hc]; decide)
            have H6 := Lib.hid (H5.out.onS hp7)
            have B6 := Lib.hid (B5.out.setCell (p := ⟨M.P, 1, none⟩) H5.out.PB (.int .i64 (T2.pos + 1)))
            have hEq3 := Lib.hid (show setP ts S = _ by rw [hEq2.out, hfu.out, loop_more hkp.out hc])
            clear hB
            go_wp2
            go_roundw
            case rel => exact ⟨kids ++ [T.parts.length], on T2, ⟨M.P, vt2, vw2, vp2, vo2, vf2, kv2⟩, by simp; omega, by simp only [List.length_append, List.length_singleton]; go_num, rfl, by rw [show (on T2).parts.length = T2.parts.length from rfl, hpt]; simp; omega, by rw [show (on T2).offs.length = T2.offs.length from rfl, hot]; simp; omega, by rw [show (on T2).nest = T2.nest from rfl, hnt]; exact hnn, Lib.hid (by rw [List.length_append, List.length_singleton, show 4999 - (kids.length + 1) = 4998 - kids.length by omega]; exact hEq3.out), H6, B6⟩
            case measure => simp [intOf]; omega
          | false =>
            rintro e w5x ⟨rfl, hB⟩
            have H5 := Lib.hid (H4.out.below hB)
            have B5 := Lib.hid (B4.out.trans (hB.mono H4.out.bsz))
            have hcn := Lib.hid hc
            clear hB hc
            go_wp2_with fail
            refine (m_take H5.out hT ⟨#[125]⟩).mono ?_
            intro e w6x hM
            rw [show (⟨#[125]⟩ : ByteArray).data.toList = [125] from rfl] at hM
            obtain ⟨f, hm⟩ | ⟨T3, hm⟩ := exc_cases (markP ts [125] T2)
            · rw [hm] at hM
              obtain ⟨rfl, hf, hB⟩ := hM
              have FF := Lib.hid (show MFault ts M.P f w6x from hf)
              have BB := Lib.hid (B5.out.trans hB)
              clear hB hf
              go_wp2
              go_end0
              have he : isT ts T2 4 [125] = false := by
                cases hx : isT ts T2 4 [125] with
                | false => rfl
                | true => unfold markP at hm; rw [if_pos hx] at hm; cases hm
              have hf2 : f = wrongP ts T2 := by
                unfold markP at hm; rw [if_neg (by rw [he]; decide)] at hm; injection hm with hm; exact hm.symm
              exact void_err (f := f) (by rw [hEq2.out, hfu.out, loop_bad hkp.out hcn.out he, hf2]; rfl) FF.out BB.out
            · rw [hm] at hM
              obtain ⟨rfl, hMA, hB⟩ := hM
              have H7 := Lib.hid hMA
              have B7 := Lib.hid (B5.out.trans hB)
              have he : isT ts T2 4 [125] = true := by
                cases hx : isT ts T2 4 [125] with
                | true => rfl
                | false => unfold markP at hm; rw [if_neg (by rw [hx]; decide)] at hm; cases hm
              have ht3 : T3 = on T2 := mark_fair hm
              have hEq3 := Lib.hid (show setP ts S = setEnd S.pos (kids ++ [T.parts.length]) T2 by rw [hEq2.out, hfu.out, loop_end he]; rfl)
              have bd7 : MBd ws (fr ++ (kids ++ [T.parts.length])) T3 := ⟨by simp; omega, by rw [ht3, show (on T2).parts.length = T2.parts.length from rfl, hpt]; omega, by rw [ht3, show (on T2).offs.length = T2.offs.length from rfl, hot]; omega, bd.wsl, by rw [ht3, show (on T2).nest = T2.nest from rfl, hnt, hnn]; exact bd.nest⟩
              have HT3 := Lib.hid ht3
              clear hB hMA he ht3
              go_wp2_with fail
              refine (m_lay' H7.out bd7 13 [] 0 S.pos fr.length (by simp)).mono ?_
              intro e wl hV
              obtain rfl := void_ret hV
              have VL := Lib.hid hV
              clear hV
              go_wp2
              go_end0
              refine void_last VL.out ?_ rfl B7.out
              rw [hEq3.out, set_lay, HT3.out]
        · have e1 : ((pk ts T).kind == 1) = false := by rw [ek]; rfl
          have e2 : ((pk ts T).kind == 2) = true := by rw [ek]; rfl
          have n1 : ¬ (pk ts T).kind = 1 := by rw [ek]; decide
          have m1 : ((pk ts T).kind != 1) = true := by rw [ek]; rfl
          have m2 : ((pk ts T).kind != 2) = false := by rw [ek]; rfl
          have hp3 := pos_next hT HR.out.pos (by rw [ek]; decide)
          have EK := Lib.hid ek
          clear ek
          have bd3 : MBd ws (fr ++ kids) (on T) := ⟨by simp; omega, by show T.parts.length ≤ _; omega, by show T.offs.length ≤ _; omega, bd.wsl, by show T.nest ≤ _; rw [hnn]; exact bd.nest⟩
          go_wp2_with fail
          refine (m_leaf ((HR.out.onS hp3).below (((Below.refl _ _).alloc (Nat.le_refl _) _).drew)) bd3 12 [] (pk ts T).num T.pos).mono ?_
          rintro e w4x ⟨rfl, M2, hP2, hA, hB⟩
          obtain ⟨P2, vt2, vw2, vp2, vo2, vf2, kv2⟩ := M2
          obtain rfl : P2 = M.P := hP2
          have H4 : Hid (MAt ts B ⟨M.P, vt2, vw2, vp2, vo2, vf2, kv2⟩ ws (fr ++ (kids ++ [T.parts.length])) (putS T.pos ⟨12, [], (pk ts T).num, []⟩ (on T)) w4x) := Lib.hid (by rw [← List.append_assoc]; exact hA)
          have B4 := Lib.hid ((((BR.out.setCell (p := ⟨M.P, 1, none⟩) HR.out.PB (.int .i64 (T.pos + 1))).alloc (by simpa using HR.out.bsz) _).drew).trans hB)
          have hEq2 : Hid (setP ts S = bindS (setLoop ts (4999 - kids.length) (kids ++ [T.parts.length]) (putS T.pos ⟨12, [], (pk ts T).num, []⟩ (on T))) (setEnd S.pos)) := Lib.hid (by rw [hEq.out]; unfold elemP; rw [if_neg (by rw [EK.out]; decide), if_neg h64, if_neg (by rw [EK.out]; decide)])
          have hfu : Hid (4999 - kids.length = (4998 - kids.length) + 1) := Lib.hid (by omega)
          have hkp : Hid (0 < (kids ++ [T.parts.length]).length) := Lib.hid (by simp)
          have hpt : ((putS T.pos ⟨12, [], (pk ts T).num, []⟩ (on T)) : PS).parts.length = T.parts.length + 1 := by simp [putS, on]
          have hot : ((putS T.pos ⟨12, [], (pk ts T).num, []⟩ (on T)) : PS).offs.length = T.offs.length + 1 := by simp [putS, on]
          have hnt : ((putS T.pos ⟨12, [], (pk ts T).num, []⟩ (on T)) : PS).nest = T.nest := rfl
          have HTT : ∃ T2, T2 = (putS T.pos ⟨12, [], (pk ts T).num, []⟩ (on T)) := ⟨_, rfl⟩
          obtain ⟨T2, hT2⟩ := HTT
          rw [← hT2] at H4 hEq2 hpt hot hnt
          clear hA hB hT2
          go_wp2_with fail
          refine (m_mark H4.out hT ⟨#[44]⟩).mono ?_
          rw [show (⟨#[44]⟩ : ByteArray).data.toList = [44] from rfl]
          cases hc : isT ts T2 4 [44] with
          | true =>
            rintro e w5x ⟨rfl, hB⟩
            have H5 := Lib.hid (H4.out.below hB)
            have B5 := Lib.hid (B4.out.trans (hB.mono H4.out.bsz))
            have f1 := H5.out.c1
            have ff := H5.out.cf
            have hz5 := H5.out.lt
            dsimp only at f1 ff hz5
            have hp6 := H5.out.pos
            have hp7 := pos_next hT H5.out.pos (by rw [isT_kind hc]; decide)
            have H6 := Lib.hid (H5.out.onS hp7)
            have B6 := Lib.hid (B5.out.setCell (p := ⟨M.P, 1, none⟩) H5.out.PB (.int .i64 (T2.pos + 1)))
            have hEq3 := Lib.hid (show setP ts S = _ by rw [hEq2.out, hfu.out, loop_more hkp.out hc])
            clear hB
            go_wp2
            go_roundw
            case rel => exact ⟨kids ++ [T.parts.length], on T2, ⟨M.P, vt2, vw2, vp2, vo2, vf2, kv2⟩, by simp; omega, by simp only [List.length_append, List.length_singleton]; go_num, rfl, by rw [show (on T2).parts.length = T2.parts.length from rfl, hpt]; simp; omega, by rw [show (on T2).offs.length = T2.offs.length from rfl, hot]; simp; omega, by rw [show (on T2).nest = T2.nest from rfl, hnt]; exact hnn, Lib.hid (by rw [List.length_append, List.length_singleton, show 4999 - (kids.length + 1) = 4998 - kids.length by omega]; exact hEq3.out), H6, B6⟩
            case measure => simp [intOf]; omega
          | false =>
            rintro e w5x ⟨rfl, hB⟩
            have H5 := Lib.hid (H4.out.below hB)
            have B5 := Lib.hid (B4.out.trans (hB.mono H4.out.bsz))
            have hcn := Lib.hid hc
            clear hB hc
            go_wp2_with fail
            refine (m_take H5.out hT ⟨#[125]⟩).mono ?_
            intro e w6x hM
            rw [show (⟨#[125]⟩ : ByteArray).data.toList = [125] from rfl] at hM
            obtain ⟨f, hm⟩ | ⟨T3, hm⟩ := exc_cases (markP ts [125] T2)
            · rw [hm] at hM
              obtain ⟨rfl, hf, hB⟩ := hM
              have FF := Lib.hid (show MFault ts M.P f w6x from hf)
              have BB := Lib.hid (B5.out.trans hB)
              clear hB hf
              go_wp2
              go_end0
              have he : isT ts T2 4 [125] = false := by
                cases hx : isT ts T2 4 [125] with
                | false => rfl
                | true => unfold markP at hm; rw [if_pos hx] at hm; cases hm
              have hf2 : f = wrongP ts T2 := by
                unfold markP at hm; rw [if_neg (by rw [he]; decide)] at hm; injection hm with hm; exact hm.symm
              exact void_err (f := f) (by rw [hEq2.out, hfu.out, loop_bad hkp.out hcn.out he, hf2]; rfl) FF.out BB.out
            · rw [hm] at hM
              obtain ⟨rfl, hMA, hB⟩ := hM
              have H7 := Lib.hid hMA
              have B7 := Lib.hid (B5.out.trans hB)
              have he : isT ts T2 4 [125] = true := by
                cases hx : isT ts T2 4 [125] with
                | true => rfl
                | false => unfold markP at hm; rw [if_neg (by rw [hx]; decide)] at hm; cases hm
              have ht3 : T3 = on T2 := mark_fair hm
              have hEq3 := Lib.hid (show setP ts S = setEnd S.pos (kids ++ [T.parts.length]) T2 by rw [hEq2.out, hfu.out, loop_end he]; rfl)
              have bd7 : MBd ws (fr ++ (kids ++ [T.parts.length])) T3 := ⟨by simp; omega, by rw [ht3, show (on T2).parts.length = T2.parts.length from rfl, hpt]; omega, by rw [ht3, show (on T2).offs.length = T2.offs.length from rfl, hot]; omega, bd.wsl, by rw [ht3, show (on T2).nest = T2.nest from rfl, hnt, hnn]; exact bd.nest⟩
              have HT3 := Lib.hid ht3
              clear hB hMA he ht3
              go_wp2_with fail
              refine (m_lay' H7.out bd7 13 [] 0 S.pos fr.length (by simp)).mono ?_
              intro e wl hV
              obtain rfl := void_ret hV
              have VL := Lib.hid hV
              clear hV
              go_wp2
              go_end0
              refine void_last VL.out ?_ rfl B7.out
              rw [hEq3.out, set_lay, HT3.out]
    · have n1 : ¬ (pk ts T).kind = 1 := fun e => ek (.inl e)
      have n2 : ¬ (pk ts T).kind = 2 := fun e => ek (.inr e)
      have e1 : ((pk ts T).kind == 1) = false := by rw [beq_eq_false_iff_ne]; exact n1
      have e2 : ((pk ts T).kind == 2) = false := by rw [beq_eq_false_iff_ne]; exact n2
      have N1 := Lib.hid n1
      have N2 := Lib.hid n2
      have m1 : ((pk ts T).kind != 1) = true := by rw [bne, e1]; rfl
      have m2 : ((pk ts T).kind != 2) = true := by rw [bne, e2]; rfl
      clear ek
      go_wp2_with fail
      refine (m_wrong (HR.out.below (((Below.refl _ _).alloc (Nat.le_refl _) _).drew)) hT).mono ?_
      rintro e w4x ⟨rfl, hf, hB⟩
      have FF := Lib.hid (show MFault ts M.P (wrongP ts T) w4x from hf)
      have BB := Lib.hid ((((BR.out.alloc HR.out.bsz _).drew).trans hB))
      clear hB hf
      go_wp2
      go_end0
      exact void_err (f := wrongP ts T) (by rw [hEq.out]; unfold elemP; rw [if_pos ⟨N1.out, N2.out⟩]; rfl) FF.out BB.out
theorem m_set {ts : List Tk} {B : Nat} {M : MM} {ws : List Wn} {fr : List Nat} {S : PS} {w : World} (h : MAt ts B M ws fr S w) (hT : TOK ts) (bd : MBd ws fr S) (hs : fr.length ≤ 4100 ∧ S.parts.length ≤ 4100 ∧ S.offs.length ≤ 4100) (hk : (pk ts S).kind ≠ 0) (hb : isT ts S 4 [123] = true) :
    Calls Tryz.prog 81 #[.pointer (some ⟨M.P, 0, none⟩)] w (MVoid ts B M ws w (oneM (setP ts S) fr)) := by
  cases he : isT ts (on S) 4 [125] with
  | true => exact m_set_empty h hT bd hs hk hb he
  | false => exact m_set_loop h hT bd hs hk hb he

end Go.Proofs.YtfiljgkcipnghaaGreatDoor.X
set_option linter.unusedVariables false
set_option linter.unusedSimpArgs false
namespace Go.Proofs.YtfiljgkcipnghaaGreatDoor.X
open Go.RowKit
/-- A step that turns the machine's own block alone. -/
def MStepK (ts : List Tk) (B : Nat) (M : MM) (ws : List Wn) (fr : List Nat) (w : World) (r : Except PF PS) (e : Ending) (w' : World) : Prop := match r with
  | .ok S1 => e = .returned (.bool true) ∧ MAt ts B M ws fr S1 w' ∧ Below B w w' ∧ ∀ k, k < w.heap.size → k ≠ M.P → w'.heap[k]? = w.heap[k]?
  | .error f => e = .returned (.bool false) ∧ MFault ts M.P f w' ∧ Below B w w'
set_option maxHeartbeats 4000000 in
set_option maxRecDepth 100000 in
theorem m_openK {ts : List Tk} {B : Nat} {M : MM} {ws : List Wn} {fr : List Nat} {S : PS} {w : World} (h : MAt ts B M ws fr S w) (hT : TOK ts) (h32 : S.nest ≤ 32) (hk : (pk ts S).kind ≠ 0) :
    Calls Tryz.prog 77 #[.pointer (some ⟨M.P, 0, none⟩)] w (MStepK ts B M ws fr w (openN S)) := by
  have HH := Lib.hid h
  have hl := hT.len
  have hpl := h.pos
  have hp2 := pos_next hT h.pos hk
  have c1 := h.c1
  have c6 := h.c6
  have cf := h.cf
  have hz := h.lt
  unfold openN
  clear h hk
  by_cases hn : S.nest = 32
  · have hI : (S.nest : Int) ≥ 32 := by omega
    have hI2 : (32 : Int) ≤ (S.nest : Int) := by omega
    simp only [if_pos hn, MStepK]
    clear hn
    go_enter Tryz.func77, Tryz.ntmps77
    go_wp2_with fail
    refine (m_fail HH.out hT 122 (by decide)).mono ?_
    rintro e w3 ⟨rfl, hf, hB⟩
    have F3 := Lib.hid hf
    have B3 := Lib.hid hB
    clear hB hf
    go_wp2
    go_ret
    exact ⟨rfl, F3.out, B3.out⟩
  · have hI : ¬ (S.nest : Int) ≥ 32 := by omega
    have hI2 : ¬ (32 : Int) ≤ (S.nest : Int) := by omega
    have hI3 : (S.nest : Int) < 32 := by omega
    simp only [if_neg hn, MStepK]
    go_enter Tryz.func77, Tryz.ntmps77
    go_wp2
    go_ret
    exact ⟨rfl, (HH.out.turnNest (S.nest + 1)).turnPos (S.pos + 1) hp2, ((Below.refl _ _).setCell (p := ⟨M.P, 6, none⟩) HH.out.PB _).setCell (p := ⟨M.P, 1, none⟩) HH.out.PB _, fun k hk hne => (heap_setCell_other _ _ _ _ hne).trans (heap_setCell_other _ _ _ _ hne)⟩
set_option maxHeartbeats 4000000 in
set_option maxRecDepth 100000 in
theorem m_takeOpenK {ts : List Tk} {B : Nat} {M : MM} {ws : List Wn} {fr : List Nat} {S : PS} {w : World} (h : MAt ts B M ws fr S w) (hT : TOK ts) (h32 : S.nest ≤ 32) :
    Calls Tryz.prog 83 #[.pointer (some ⟨M.P, 0, none⟩)] w (MStepK ts B M ws fr w (openP ts [40] S)) := by
  have MC := Lib.hid (m_mark h hT ⟨#[40]⟩)
  have HH := Lib.hid h
  unfold openP
  rw [show (⟨#[40]⟩ : ByteArray).data.toList = [40] from rfl] at MC
  cases hi : isT ts S 4 [40] with
  | true =>
    rw [hi] at MC
    have HK : Hid ((pk ts S).kind ≠ 0) := Lib.hid (by rw [isT_kind hi]; decide)
    simp only [if_true]
    clear hi h
    have OC := Lib.hid (fun W (hW : MAt ts B M ws fr S W) => m_openK hW hT h32 HK.out)
    unfold openN at OC
    by_cases hn : S.nest = 32
    · simp only [if_pos hn, MStepK] at OC ⊢
      clear hn
      go_enter Tryz.func83, Tryz.ntmps83
      go_wp2_with fail
      refine MC.out.mono ?_
      rintro e w2 ⟨rfl, hB⟩
      have H2 := Lib.hid (HH.out.below hB)
      have B2 := Lib.hid (hB.mono HH.out.bsz)
      clear hB
      go_wp2_with fail
      refine (OC.out _ H2.out).mono ?_
      rintro e w3 ⟨rfl, hf, hB⟩
      have F3 := Lib.hid hf
      have B3 := Lib.hid (B2.out.trans hB)
      clear hB hf
      go_wp2
      go_ret
      exact ⟨rfl, F3.out, B3.out⟩
    · simp only [if_neg hn, MStepK] at OC ⊢
      clear hn
      go_enter Tryz.func83, Tryz.ntmps83
      go_wp2_with fail
      refine MC.out.mono ?_
      rintro e w2 ⟨rfl, hB⟩
      have K2 := Lib.hid (fun k hk => hB.block k hk)
      have Z2 := Lib.hid hB.size
      have H2 := Lib.hid (HH.out.below hB)
      have B2 := Lib.hid (hB.mono HH.out.bsz)
      clear hB
      go_wp2_with fail
      refine (OC.out _ H2.out).mono ?_
      rintro e w3 ⟨rfl, hf, hB, hK⟩
      have F3 := Lib.hid hf
      have B3 := Lib.hid (B2.out.trans hB)
      have K3 := Lib.hid hK
      clear hB hf hK
      go_wp2
      go_ret
      exact ⟨rfl, F3.out, B3.out, fun k hk hne => (K3.out k (Nat.lt_of_lt_of_le hk Z2.out) hne).trans (K2.out k hk)⟩
  | false =>
    rw [hi] at MC
    simp only [Bool.false_eq_true, if_false, MStepK]
    clear hi h
    go_enter Tryz.func83, Tryz.ntmps83
    go_wp2_with fail
    refine MC.out.mono ?_
    rintro e w2 ⟨rfl, hB⟩
    have H2 := Lib.hid (HH.out.below hB)
    have B2 := Lib.hid (hB.mono HH.out.bsz)
    clear hB
    go_wp2_with fail
    refine (m_wrong H2.out hT).mono ?_
    rintro e w3 ⟨rfl, hf, hB⟩
    have F3 := Lib.hid hf
    have B3 := Lib.hid (B2.out.trans hB)
    clear hB hf
    go_wp2
    go_ret
    exact ⟨rfl, F3.out, B3.out⟩
/-- The token that a function of the machine has taken beside it. -/
def TBox (w : World) (z : Nat) (t : Tk) : Prop := w.heap[z]? = some (.cells #[.int .i64 t.kind, .string ⟨t.text.toArray⟩, .int .i64 t.num, .int .i64 (t.at_ : Nat), .int .i64 (t.end_ : Nat)] 73 (0, 0))
theorem TBox.new (w : World) (t : Tk) : TBox (w.alloc (.cells #[.int .i64 t.kind, .string ⟨t.text.toArray⟩, .int .i64 t.num, .int .i64 (t.at_ : Nat), .int .i64 (t.end_ : Nat)] 73)).drew w.heap.size t := heap_alloc_new w _
theorem TBox.below {w w' : World} {z : Nat} {t : Tk} (h : TBox w z t) (k : Below w.heap.size w w') : TBox w' z t := (k.block z (Array.getElem?_eq_some_iff.1 h).1).trans h
theorem TBox.lt {w : World} {z : Nat} {t : Tk} (h : TBox w z t) : z < w.heap.size := (Array.getElem?_eq_some_iff.1 h).1
theorem TBox.k {w : World} {z : Nat} {t : Tk} (h : TBox w z t) : w.cell? ⟨z, 0, none⟩ = some (.int .i64 t.kind) := (Lib.cell_of_heap h _).trans rfl
theorem TBox.x {w : World} {z : Nat} {t : Tk} (h : TBox w z t) : w.cell? ⟨z, 1, none⟩ = some (.string ⟨t.text.toArray⟩) := (Lib.cell_of_heap h _).trans rfl
theorem TBox.n {w : World} {z : Nat} {t : Tk} (h : TBox w z t) : w.cell? ⟨z, 2, none⟩ = some (.int .i64 t.num) := (Lib.cell_of_heap h _).trans rfl
theorem TBox.a {w : World} {z : Nat} {t : Tk} (h : TBox w z t) : w.cell? ⟨z, 3, none⟩ = some (.int .i64 (t.at_ : Nat)) := (Lib.cell_of_heap h _).trans rfl
set_option maxHeartbeats 2000000 in
set_option maxRecDepth 100000 in
theorem m_unit_not_deep {ts : List Tk} {B : Nat} {M : MM} {ws : List Wn} {fr : List Nat} {S : PS} {w : World} (h : MAt ts B M ws fr S w) (hT : TOK ts) (bd : MBd ws fr S) (hm : isT ts S 4 [33] = true) (hn : S.nest = 32) :
    Calls Tryz.prog 53 #[.pointer (some ⟨M.P, 0, none⟩)] w (MVoid ts B M ws w (unitM ts fr S)) := by
  have hk : (pk ts S).kind ≠ 0 := by rw [isT_kind hm]; decide
  obtain ⟨g, cap, c0, c1, hg, a0, a1, a2, a3, a4⟩ := h.tok
  have HH := Lib.hid h
  have hl := hT.len
  have hp := h.pos
  have hz := h.lt
  have hI : (S.pos : Int) < (ts.length : Int) := by omega
  have hwl := bd.wsl
  have HPA : Hid (placeT ts S.pos = (pk ts S).at_) := Lib.hid rfl
  have HM := Lib.hid hm
  have HN := Lib.hid hn
  have OC := Lib.hid (fun W (hW : MAt ts B M ws fr S W) => m_openK hW hT bd.nest hk)
  unfold openN at OC
  rw [if_pos hn] at OC
  clear h hk hn
  go_enter Tryz.func53, Tryz.ntmps53
  go_wp2_with fail
  go_region
  go_wp2_with fail
  refine (m_mark (HH.out.below (((Below.refl _ _).alloc (Nat.le_refl _) _).drew)) hT ⟨#[33]⟩).mono ?_
  rw [show (⟨#[33]⟩ : ByteArray).data.toList = [33] from rfl, HM.out]
  rintro e v1 ⟨rfl, hB⟩
  have H1 := Lib.hid ((HH.out.below (((Below.refl _ _).alloc (Nat.le_refl _) _).drew)).below hB)
  have B1 := Lib.hid ((((Below.refl B w).alloc HH.out.bsz _).drew).trans (hB.mono (by simp; have := HH.out.bsz; omega)))
  have X1 : Hid (TBox v1 w.heap.size (pk ts S)) := Lib.hid ((TBox.new w (pk ts S)).below hB)
  clear hB
  go_wp2_with fail
  refine (m_mark H1.out hT ⟨#[40]⟩).mono ?_
  rw [show (⟨#[40]⟩ : ByteArray).data.toList = [40] from rfl]
  rintro e v2 ⟨rfl, hB⟩
  have H2 := Lib.hid (H1.out.below hB)
  have B2 := Lib.hid (B1.out.trans (hB.mono H1.out.bsz))
  have X2 := Lib.hid (X1.out.below hB)
  clear hB
  generalize isT ts S 4 [40] = y1
  clear hm
  go_wp2_with fail
  refine (OC.out _ H2.out).mono ?_
  rintro e v3 ⟨rfl, hf, hB⟩
  have F3 := Lib.hid hf
  have B3 := Lib.hid (B2.out.trans hB)
  clear hB hf
  go_wp2
  go_end0
  exact void_err (f := (122, S.pos)) (by simp only [unitM, HM.out, openP, HN.out, if_true, thenS]) F3.out B3.out
set_option maxHeartbeats 2000000 in
set_option maxRecDepth 100000 in
theorem m_unit_not {ts : List Tk} {B : Nat} {M : MM} {ws : List Wn} {fr : List Nat} {S : PS} {w : World} (h : MAt ts B M ws fr S w) (hT : TOK ts) (bd : MBd ws fr S) (hm : isT ts S 4 [33] = true) (hn : ¬ S.nest = 32) :
    Calls Tryz.prog 53 #[.pointer (some ⟨M.P, 0, none⟩)] w (MVoid ts B M ws w (unitM ts fr S)) := by
  have hk : (pk ts S).kind ≠ 0 := by rw [isT_kind hm]; decide
  obtain ⟨g, cap, c0, c1, hg, a0, a1, a2, a3, a4⟩ := h.tok
  have HH := Lib.hid h
  have hl := hT.len
  have hp := h.pos
  have hz := h.lt
  have hI : (S.pos : Int) < (ts.length : Int) := by omega
  have hwl := bd.wsl
  have HPA : Hid (placeT ts S.pos = (pk ts S).at_) := Lib.hid rfl
  obtain ⟨Af, cfr, hvf⟩ := own_shape h.rows.free
  have HVF := Lib.hid hvf
  have HM := Lib.hid hm
  have HN := Lib.hid hn
  have OC := Lib.hid (fun W (hW : MAt ts B M ws fr S W) => m_openK hW hT bd.nest hk)
  unfold openN at OC
  rw [if_neg hn] at OC
  clear h hk hn hvf
  go_enter Tryz.func53, Tryz.ntmps53
  go_wp2_with fail
  go_region
  go_wp2_with fail
  refine (m_mark (HH.out.below (((Below.refl _ _).alloc (Nat.le_refl _) _).drew)) hT ⟨#[33]⟩).mono ?_
  rw [show (⟨#[33]⟩ : ByteArray).data.toList = [33] from rfl, HM.out]
  rintro e v1 ⟨rfl, hB⟩
  have H1 := Lib.hid ((HH.out.below (((Below.refl _ _).alloc (Nat.le_refl _) _).drew)).below hB)
  have B1 := Lib.hid ((((Below.refl B w).alloc HH.out.bsz _).drew).trans (hB.mono (by simp; have := HH.out.bsz; omega)))
  have X1 : Hid (TBox v1 w.heap.size (pk ts S)) := Lib.hid ((TBox.new w (pk ts S)).below hB)
  clear hB
  go_wp2_with fail
  refine (m_mark H1.out hT ⟨#[40]⟩).mono ?_
  rw [show (⟨#[40]⟩ : ByteArray).data.toList = [40] from rfl]
  rintro e v2 ⟨rfl, hB⟩
  have H2 := Lib.hid (H1.out.below hB)
  have B2 := Lib.hid (B1.out.trans (hB.mono H1.out.bsz))
  have X2 := Lib.hid (X1.out.below hB)
  clear hB
  generalize isT ts S 4 [40] = y1
  clear hm
  go_wp2_with fail
  refine (OC.out _ H2.out).mono ?_
  rintro e v3 ⟨rfl, hA, hB, hK⟩
  have H3 := Lib.hid hA
  have B3 := Lib.hid (B2.out.trans hB)
  have hx3 : TBox v3 w.heap.size (pk ts S) := (hK _ X2.out.lt (by omega)).trans X2.out
  have X3 := Lib.hid hx3
  clear hA hB hK hx3
  have k0 := X3.out.k
  have k1 := X3.out.x
  have k2 := X3.out.n
  have k3 := X3.out.a
  have hzt := X3.out.lt
  have c5 : v3.cell? ⟨M.P, 5, none⟩ = some (.slice Af fr.length cfr) := by rw [← HVF.out]; exact H3.out.c5
  have hz3 := H3.out.lt
  have PC := Lib.hid (fun W (hW : MAt ts B M ws fr { S with pos := S.pos + 1, nest := S.nest + 1 } W) => m_push hW (.neg S.pos fr.length) (by omega))
  go_wp2_with fail
  go_region_with (go_at_call 38; refine (PC.out _ (by first | exact H3.out | exact H3.out.below ((Below.refl _ _).drew))).mono ?_; rintro e v4 ⟨rfl, q1, hA, hB⟩; have H4 := Lib.hid hA; have B4 : Hid (Below B w v4) := Lib.hid (by first | exact B3.out.trans hB | exact B3.out.drew.trans hB); clear hA hB)
  all_goals
    go_wp2_with fail
    refine (m_push H4.out .unit (by simp; omega)).mono ?_
    rintro e v5 ⟨rfl, q2, hA, hB⟩
    have H5 := Lib.hid hA
    have B5 := Lib.hid (B4.out.trans hB)
    clear hA hB
    go_wp2
    go_end0
    exact void_ok (ws' := [.unit, .neg S.pos fr.length]) (fr' := fr) (S' := { S with pos := S.pos + 1, nest := S.nest + 1 }) (by simp only [unitM, HM.out, openP, if_true, if_neg HN.out, thenS]) _ (by exact rfl) H5.out B5.out
set_option maxHeartbeats 2000000 in
set_option maxRecDepth 100000 in
theorem m_unit_group_deep {ts : List Tk} {B : Nat} {M : MM} {ws : List Wn} {fr : List Nat} {S : PS} {w : World} (h : MAt ts B M ws fr S w) (hT : TOK ts) (bd : MBd ws fr S) (h0 : isT ts S 4 [33] = false) (hm : isT ts S 4 [40] = true) (hn : S.nest = 32) :
    Calls Tryz.prog 53 #[.pointer (some ⟨M.P, 0, none⟩)] w (MVoid ts B M ws w (unitM ts fr S)) := by
  have hk : (pk ts S).kind ≠ 0 := by rw [isT_kind hm]; decide
  obtain ⟨g, cap, c0, c1, hg, a0, a1, a2, a3, a4⟩ := h.tok
  have HH := Lib.hid h
  have hl := hT.len
  have hp := h.pos
  have hz := h.lt
  have hI : (S.pos : Int) < (ts.length : Int) := by omega
  have hwl := bd.wsl
  have HPA : Hid (placeT ts S.pos = (pk ts S).at_) := Lib.hid rfl
  have HM := Lib.hid hm
  have HM0 := Lib.hid h0
  have HN := Lib.hid hn
  have OC := Lib.hid (fun W (hW : MAt ts B M ws fr S W) => m_openK hW hT bd.nest hk)
  unfold openN at OC
  rw [if_pos hn] at OC
  clear h hk hn
  go_enter Tryz.func53, Tryz.ntmps53
  go_wp2_with fail
  go_region
  go_wp2_with fail
  refine (m_mark (HH.out.below (((Below.refl _ _).alloc (Nat.le_refl _) _).drew)) hT ⟨#[33]⟩).mono ?_
  rw [show (⟨#[33]⟩ : ByteArray).data.toList = [33] from rfl, HM0.out]
  rintro e v1 ⟨rfl, hB⟩
  have H1 := Lib.hid ((HH.out.below (((Below.refl _ _).alloc (Nat.le_refl _) _).drew)).below hB)
  have B1 := Lib.hid ((((Below.refl B w).alloc HH.out.bsz _).drew).trans (hB.mono (by simp; have := HH.out.bsz; omega)))
  have X1 : Hid (TBox v1 w.heap.size (pk ts S)) := Lib.hid ((TBox.new w (pk ts S)).below hB)
  clear hB
  go_wp2_with fail
  refine (m_mark H1.out hT ⟨#[40]⟩).mono ?_
  rw [show (⟨#[40]⟩ : ByteArray).data.toList = [40] from rfl, HM.out]
  rintro e v2 ⟨rfl, hB⟩
  have H2 := Lib.hid (H1.out.below hB)
  have B2 := Lib.hid (B1.out.trans (hB.mono H1.out.bsz))
  have X2 := Lib.hid (X1.out.below hB)
  clear hB
  clear hm h0
  go_wp2_with fail
  refine (OC.out _ H2.out).mono ?_
  rintro e v3 ⟨rfl, hf, hB⟩
  have F3 := Lib.hid hf
  have B3 := Lib.hid (B2.out.trans hB)
  clear hB hf
  go_wp2
  go_end0
  exact void_err (f := (122, S.pos)) (by simp only [unitM, HM0.out, HM.out, openP, HN.out, if_true, Bool.false_eq_true, if_false, thenS]) F3.out B3.out
set_option maxHeartbeats 2000000 in
set_option maxRecDepth 100000 in
theorem m_unit_group {ts : List Tk} {B : Nat} {M : MM} {ws : List Wn} {fr : List Nat} {S : PS} {w : World} (h : MAt ts B M ws fr S w) (hT : TOK ts) (bd : MBd ws fr S) (h0 : isT ts S 4 [33] = false) (hm : isT ts S 4 [40] = true) (hn : ¬ S.nest = 32) :
    Calls Tryz.prog 53 #[.pointer (some ⟨M.P, 0, none⟩)] w (MVoid ts B M ws w (unitM ts fr S)) := by
  have hk : (pk ts S).kind ≠ 0 := by rw [isT_kind hm]; decide
  obtain ⟨g, cap, c0, c1, hg, a0, a1, a2, a3, a4⟩ := h.tok
  have HH := Lib.hid h
  have hl := hT.len
  have hp := h.pos
  have hz := h.lt
  have hI : (S.pos : Int) < (ts.length : Int) := by omega
  have hwl := bd.wsl
  have HPA : Hid (placeT ts S.pos = (pk ts S).at_) := Lib.hid rfl
  have HM := Lib.hid hm
  have HM0 := Lib.hid h0
  have HN := Lib.hid hn
  have OC := Lib.hid (fun W (hW : MAt ts B M ws fr S W) => m_openK hW hT bd.nest hk)
  unfold openN at OC
  rw [if_neg hn] at OC
  clear h hk hn
  go_enter Tryz.func53, Tryz.ntmps53
  go_wp2_with fail
  go_region
  go_wp2_with fail
  refine (m_mark (HH.out.below (((Below.refl _ _).alloc (Nat.le_refl _) _).drew)) hT ⟨#[33]⟩).mono ?_
  rw [show (⟨#[33]⟩ : ByteArray).data.toList = [33] from rfl, HM0.out]
  rintro e v1 ⟨rfl, hB⟩
  have H1 := Lib.hid ((HH.out.below (((Below.refl _ _).alloc (Nat.le_refl _) _).drew)).below hB)
  have B1 := Lib.hid ((((Below.refl B w).alloc HH.out.bsz _).drew).trans (hB.mono (by simp; have := HH.out.bsz; omega)))
  have X1 : Hid (TBox v1 w.heap.size (pk ts S)) := Lib.hid ((TBox.new w (pk ts S)).below hB)
  clear hB
  go_wp2_with fail
  refine (m_mark H1.out hT ⟨#[40]⟩).mono ?_
  rw [show (⟨#[40]⟩ : ByteArray).data.toList = [40] from rfl, HM.out]
  rintro e v2 ⟨rfl, hB⟩
  have H2 := Lib.hid (H1.out.below hB)
  have B2 := Lib.hid (B1.out.trans (hB.mono H1.out.bsz))
  have X2 := Lib.hid (X1.out.below hB)
  clear hB
  clear hm h0
  go_wp2_with fail
  refine (OC.out _ H2.out).mono ?_
  rintro e v3 ⟨rfl, hA, hB, hK⟩
  have H3 := Lib.hid hA
  have B3 := Lib.hid (B2.out.trans hB)
  clear hA hB hK
  go_wp2_with fail
  refine (m_push H3.out .close (by omega)).mono ?_
  rintro e v4 ⟨rfl, q1, hA, hB⟩
  have H4 := Lib.hid hA
  have B4 := Lib.hid (B3.out.trans hB)
  clear hA hB
  go_wp2_with fail
  refine (m_push H4.out .expr (by simp; omega)).mono ?_
  rintro e v5 ⟨rfl, q2, hA, hB⟩
  have H5 := Lib.hid hA
  have B5 := Lib.hid (B4.out.trans hB)
  clear hA hB
  go_wp2
  go_end0
  exact void_ok (ws' := [.expr, .close]) (fr' := fr) (S' := { S with pos := S.pos + 1, nest := S.nest + 1 }) (by simp only [unitM, HM0.out, HM.out, openP, if_true, Bool.false_eq_true, if_false, if_neg HN.out, thenS]) _ (by exact rfl) H5.out B5.out
set_option maxHeartbeats 2000000 in
set_option maxRecDepth 100000 in
theorem m_unit_true {ts : List Tk} {B : Nat} {M : MM} {ws : List Wn} {fr : List Nat} {S : PS} {w : World} (h : MAt ts B M ws fr S w) (hT : TOK ts) (bd : MBd ws fr S) (h0 : isT ts S 4 [33] = false) (h1 : isT ts S 4 [40] = false) (h3 : (pk ts S).kind = 3) (hx : (pk ts S).text = [116, 114, 117, 101]) :
    Calls Tryz.prog 53 #[.pointer (some ⟨M.P, 0, none⟩)] w (MVoid ts B M ws w (unitM ts fr S)) := by
  have hk : (pk ts S).kind ≠ 0 := by rw [h3]; decide
  obtain ⟨g, cap, c0, c1, hg, a0, a1, a2, a3, a4⟩ := h.tok
  have HH := Lib.hid h
  have hl := hT.len
  have hp := h.pos
  have hz := h.lt
  have hI : (S.pos : Int) < (ts.length : Int) := by omega
  have hwl := bd.wsl
  have HPA : Hid (placeT ts S.pos = (pk ts S).at_) := Lib.hid rfl
  have HM0 := Lib.hid h0
  have HM1 := Lib.hid h1
  have HX := Lib.hid hx
  have H3K := Lib.hid h3
  have HK := Lib.hid hk
  have hp2 := pos_next hT h.pos hk
  clear h hk h3 hx
  go_enter Tryz.func53, Tryz.ntmps53
  go_wp2_with fail
  go_region
  go_wp2_with fail
  refine (m_mark (HH.out.below (((Below.refl _ _).alloc (Nat.le_refl _) _).drew)) hT ⟨#[33]⟩).mono ?_
  rw [show (⟨#[33]⟩ : ByteArray).data.toList = [33] from rfl, HM0.out]
  rintro e v1 ⟨rfl, hB⟩
  have H1 := Lib.hid ((HH.out.below (((Below.refl _ _).alloc (Nat.le_refl _) _).drew)).below hB)
  have B1 := Lib.hid ((((Below.refl B w).alloc HH.out.bsz _).drew).trans (hB.mono (by simp; have := HH.out.bsz; omega)))
  have X1 : Hid (TBox v1 w.heap.size (pk ts S)) := Lib.hid ((TBox.new w (pk ts S)).below hB)
  clear hB
  go_wp2_with fail
  refine (m_mark H1.out hT ⟨#[40]⟩).mono ?_
  rw [show (⟨#[40]⟩ : ByteArray).data.toList = [40] from rfl, HM1.out]
  rintro e v2 ⟨rfl, hB⟩
  have H2 := Lib.hid (H1.out.below hB)
  have B2 := Lib.hid (B1.out.trans (hB.mono H1.out.bsz))
  have X2 := Lib.hid (X1.out.below hB)
  clear hB
  clear h0 h1
  have k0 := X2.out.k
  have k1 := X2.out.x
  have k2 := X2.out.n
  have k3 := X2.out.a
  have hzt := X2.out.lt
  rw [HX.out] at k1
  rw [H3K.out] at k0
  have d1 := H2.out.c1
  have df := H2.out.cf
  have hz2 := H2.out.lt
  have H3 := Lib.hid (H2.out.onS hp2)
  have B3 := Lib.hid (B2.out.setCell (p := ⟨M.P, 1, none⟩) H2.out.PB (.int .i64 (S.pos + 1)))
  go_wp2_with fail
  refine (m_leaf H3.out bd.on 1 [] 0 S.pos).mono ?_
  intro e wl hV
  obtain rfl := void_ret hV
  have VL := Lib.hid hV
  clear hV
  go_wp2
  go_end0
  exact void_last VL.out (by unfold unitM; rw [if_neg (by rw [HM0.out]; decide), if_neg (by rw [HM1.out]; decide), if_pos H3K.out, if_pos HX.out]) rfl B3.out
set_option maxHeartbeats 2000000 in
set_option maxRecDepth 100000 in
theorem m_unit_false {ts : List Tk} {B : Nat} {M : MM} {ws : List Wn} {fr : List Nat} {S : PS} {w : World} (h : MAt ts B M ws fr S w) (hT : TOK ts) (bd : MBd ws fr S) (h0 : isT ts S 4 [33] = false) (h1 : isT ts S 4 [40] = false) (h3 : (pk ts S).kind = 3) (hx : (pk ts S).text = [102, 97, 108, 115, 101]) :
    Calls Tryz.prog 53 #[.pointer (some ⟨M.P, 0, none⟩)] w (MVoid ts B M ws w (unitM ts fr S)) := by
  have hk : (pk ts S).kind ≠ 0 := by rw [h3]; decide
  obtain ⟨g, cap, c0, c1, hg, a0, a1, a2, a3, a4⟩ := h.tok
  have HH := Lib.hid h
  have hl := hT.len
  have hp := h.pos
  have hz := h.lt
  have hI : (S.pos : Int) < (ts.length : Int) := by omega
  have hwl := bd.wsl
  have HPA : Hid (placeT ts S.pos = (pk ts S).at_) := Lib.hid rfl
  have HM0 := Lib.hid h0
  have HM1 := Lib.hid h1
  have HX := Lib.hid hx
  have H3K := Lib.hid h3
  have HK := Lib.hid hk
  have hp2 := pos_next hT h.pos hk
  clear h hk h3 hx
  go_enter Tryz.func53, Tryz.ntmps53
  go_wp2_with fail
  go_region
  go_wp2_with fail
  refine (m_mark (HH.out.below (((Below.refl _ _).alloc (Nat.le_refl _) _).drew)) hT ⟨#[33]⟩).mono ?_
  rw [show (⟨#[33]⟩ : ByteArray).data.toList = [33] from rfl, HM0.out]
  rintro e v1 ⟨rfl, hB⟩
  have H1 := Lib.hid ((HH.out.below (((Below.refl _ _).alloc (Nat.le_refl _) _).drew)).below hB)
  have B1 := Lib.hid ((((Below.refl B w).alloc HH.out.bsz _).drew).trans (hB.mono (by simp; have := HH.out.bsz; omega)))
  have X1 : Hid (TBox v1 w.heap.size (pk ts S)) := Lib.hid ((TBox.new w (pk ts S)).below hB)
  clear hB
  go_wp2_with fail
  refine (m_mark H1.out hT ⟨#[40]⟩).mono ?_
  rw [show (⟨#[40]⟩ : ByteArray).data.toList = [40] from rfl, HM1.out]
  rintro e v2 ⟨rfl, hB⟩
  have H2 := Lib.hid (H1.out.below hB)
  have B2 := Lib.hid (B1.out.trans (hB.mono H1.out.bsz))
  have X2 := Lib.hid (X1.out.below hB)
  clear hB
  clear h0 h1
  have k0 := X2.out.k
  have k1 := X2.out.x
  have k2 := X2.out.n
  have k3 := X2.out.a
  have hzt := X2.out.lt
  rw [HX.out] at k1
  rw [H3K.out] at k0
  have d1 := H2.out.c1
  have df := H2.out.cf
  have hz2 := H2.out.lt
  have H3 := Lib.hid (H2.out.onS hp2)
  have B3 := Lib.hid (B2.out.setCell (p := ⟨M.P, 1, none⟩) H2.out.PB (.int .i64 (S.pos + 1)))
  go_wp2_with fail
  refine (m_leaf H3.out bd.on 2 [] 0 S.pos).mono ?_
  intro e wl hV
  obtain rfl := void_ret hV
  have VL := Lib.hid hV
  clear hV
  go_wp2
  go_end0
  exact void_last VL.out (by unfold unitM; rw [if_neg (by rw [HM0.out]; decide), if_neg (by rw [HM1.out]; decide), if_pos H3K.out, if_neg (by rw [HX.out]; decide), if_pos HX.out]) rfl B3.out
set_option maxHeartbeats 2000000 in
set_option maxRecDepth 100000 in
theorem m_unit_near {ts : List Tk} {B : Nat} {M : MM} {ws : List Wn} {fr : List Nat} {S : PS} {w : World} (h : MAt ts B M ws fr S w) (hT : TOK ts) (bd : MBd ws fr S) (h0 : isT ts S 4 [33] = false) (h1 : isT ts S 4 [40] = false) (h3 : (pk ts S).kind = 3) (hx : (pk ts S).text = [110, 101, 97, 114]) :
    Calls Tryz.prog 53 #[.pointer (some ⟨M.P, 0, none⟩)] w (MVoid ts B M ws w (unitM ts fr S)) := by
  have hk : (pk ts S).kind ≠ 0 := by rw [h3]; decide
  obtain ⟨g, cap, c0, c1, hg, a0, a1, a2, a3, a4⟩ := h.tok
  have HH := Lib.hid h
  have hl := hT.len
  have hp := h.pos
  have hz := h.lt
  have hI : (S.pos : Int) < (ts.length : Int) := by omega
  have hwl := bd.wsl
  have HPA : Hid (placeT ts S.pos = (pk ts S).at_) := Lib.hid rfl
  have HM0 := Lib.hid h0
  have HM1 := Lib.hid h1
  have HX := Lib.hid hx
  have H3K := Lib.hid h3
  have HK := Lib.hid hk
  have hp2 := pos_next hT h.pos hk
  clear h hk h3 hx
  go_enter Tryz.func53, Tryz.ntmps53
  go_wp2_with fail
  go_region
  go_wp2_with fail
  refine (m_mark (HH.out.below (((Below.refl _ _).alloc (Nat.le_refl _) _).drew)) hT ⟨#[33]⟩).mono ?_
  rw [show (⟨#[33]⟩ : ByteArray).data.toList = [33] from rfl, HM0.out]
  rintro e v1 ⟨rfl, hB⟩
  have H1 := Lib.hid ((HH.out.below (((Below.refl _ _).alloc (Nat.le_refl _) _).drew)).below hB)
  have B1 := Lib.hid ((((Below.refl B w).alloc HH.out.bsz _).drew).trans (hB.mono (by simp; have := HH.out.bsz; omega)))
  have X1 : Hid (TBox v1 w.heap.size (pk ts S)) := Lib.hid ((TBox.new w (pk ts S)).below hB)
  clear hB
  go_wp2_with fail
  refine (m_mark H1.out hT ⟨#[40]⟩).mono ?_
  rw [show (⟨#[40]⟩ : ByteArray).data.toList = [40] from rfl, HM1.out]
  rintro e v2 ⟨rfl, hB⟩
  have H2 := Lib.hid (H1.out.below hB)
  have B2 := Lib.hid (B1.out.trans (hB.mono H1.out.bsz))
  have X2 := Lib.hid (X1.out.below hB)
  clear hB
  clear h0 h1
  have k0 := X2.out.k
  have k1 := X2.out.x
  have k2 := X2.out.n
  have k3 := X2.out.a
  have hzt := X2.out.lt
  rw [HX.out] at k1
  rw [H3K.out] at k0
  have d1 := H2.out.c1
  have df := H2.out.cf
  have hz2 := H2.out.lt
  go_wp2_with fail
  refine (m_selector H2.out hT bd HK.out 8).mono ?_
  intro e wl hV
  obtain rfl := void_ret hV
  have VL := Lib.hid hV
  clear hV
  go_wp2
  go_end0
  exact void_last VL.out (by unfold unitM; rw [if_neg (by rw [HM0.out]; decide), if_neg (by rw [HM1.out]; decide), if_pos H3K.out, if_neg (by rw [HX.out]; decide), if_neg (by rw [HX.out]; decide), if_pos HX.out]) rfl B2.out
set_option maxHeartbeats 2000000 in
set_option maxRecDepth 100000 in
theorem m_unit_apart {ts : List Tk} {B : Nat} {M : MM} {ws : List Wn} {fr : List Nat} {S : PS} {w : World} (h : MAt ts B M ws fr S w) (hT : TOK ts) (bd : MBd ws fr S) (h0 : isT ts S 4 [33] = false) (h1 : isT ts S 4 [40] = false) (h3 : (pk ts S).kind = 3) (hx : (pk ts S).text = [97, 112, 97, 114, 116]) :
    Calls Tryz.prog 53 #[.pointer (some ⟨M.P, 0, none⟩)] w (MVoid ts B M ws w (unitM ts fr S)) := by
  have hk : (pk ts S).kind ≠ 0 := by rw [h3]; decide
  obtain ⟨g, cap, c0, c1, hg, a0, a1, a2, a3, a4⟩ := h.tok
  have HH := Lib.hid h
  have hl := hT.len
  have hp := h.pos
  have hz := h.lt
  have hI : (S.pos : Int) < (ts.length : Int) := by omega
  have hwl := bd.wsl
  have HPA : Hid (placeT ts S.pos = (pk ts S).at_) := Lib.hid rfl
  have HM0 := Lib.hid h0
  have HM1 := Lib.hid h1
  have HX := Lib.hid hx
  have H3K := Lib.hid h3
  have HK := Lib.hid hk
  have hp2 := pos_next hT h.pos hk
  clear h hk h3 hx
  go_enter Tryz.func53, Tryz.ntmps53
  go_wp2_with fail
  go_region
  go_wp2_with fail
  refine (m_mark (HH.out.below (((Below.refl _ _).alloc (Nat.le_refl _) _).drew)) hT ⟨#[33]⟩).mono ?_
  rw [show (⟨#[33]⟩ : ByteArray).data.toList = [33] from rfl, HM0.out]
  rintro e v1 ⟨rfl, hB⟩
  have H1 := Lib.hid ((HH.out.below (((Below.refl _ _).alloc (Nat.le_refl _) _).drew)).below hB)
  have B1 := Lib.hid ((((Below.refl B w).alloc HH.out.bsz _).drew).trans (hB.mono (by simp; have := HH.out.bsz; omega)))
  have X1 : Hid (TBox v1 w.heap.size (pk ts S)) := Lib.hid ((TBox.new w (pk ts S)).below hB)
  clear hB
  go_wp2_with fail
  refine (m_mark H1.out hT ⟨#[40]⟩).mono ?_
  rw [show (⟨#[40]⟩ : ByteArray).data.toList = [40] from rfl, HM1.out]
  rintro e v2 ⟨rfl, hB⟩
  have H2 := Lib.hid (H1.out.below hB)
  have B2 := Lib.hid (B1.out.trans (hB.mono H1.out.bsz))
  have X2 := Lib.hid (X1.out.below hB)
  clear hB
  clear h0 h1
  have k0 := X2.out.k
  have k1 := X2.out.x
  have k2 := X2.out.n
  have k3 := X2.out.a
  have hzt := X2.out.lt
  rw [HX.out] at k1
  rw [H3K.out] at k0
  have d1 := H2.out.c1
  have df := H2.out.cf
  have hz2 := H2.out.lt
  go_wp2_with fail
  refine (m_selector H2.out hT bd HK.out 9).mono ?_
  intro e wl hV
  obtain rfl := void_ret hV
  have VL := Lib.hid hV
  clear hV
  go_wp2
  go_end0
  exact void_last VL.out (by unfold unitM; rw [if_neg (by rw [HM0.out]; decide), if_neg (by rw [HM1.out]; decide), if_pos H3K.out, if_neg (by rw [HX.out]; decide), if_neg (by rw [HX.out]; decide), if_neg (by rw [HX.out]; decide), if_pos HX.out]) rfl B2.out
set_option maxHeartbeats 2000000 in
set_option maxRecDepth 100000 in
theorem m_unit_tolerated {ts : List Tk} {B : Nat} {M : MM} {ws : List Wn} {fr : List Nat} {S : PS} {w : World} (h : MAt ts B M ws fr S w) (hT : TOK ts) (bd : MBd ws fr S) (h0 : isT ts S 4 [33] = false) (h1 : isT ts S 4 [40] = false) (h3 : (pk ts S).kind = 3) (hx : (pk ts S).text = [116, 111, 108, 101, 114, 97, 116, 101, 100]) :
    Calls Tryz.prog 53 #[.pointer (some ⟨M.P, 0, none⟩)] w (MVoid ts B M ws w (unitM ts fr S)) := by
  have hk : (pk ts S).kind ≠ 0 := by rw [h3]; decide
  obtain ⟨g, cap, c0, c1, hg, a0, a1, a2, a3, a4⟩ := h.tok
  have HH := Lib.hid h
  have hl := hT.len
  have hp := h.pos
  have hz := h.lt
  have hI : (S.pos : Int) < (ts.length : Int) := by omega
  have hwl := bd.wsl
  have HPA : Hid (placeT ts S.pos = (pk ts S).at_) := Lib.hid rfl
  have HM0 := Lib.hid h0
  have HM1 := Lib.hid h1
  have HX := Lib.hid hx
  have H3K := Lib.hid h3
  have HK := Lib.hid hk
  have hp2 := pos_next hT h.pos hk
  clear h hk h3 hx
  go_enter Tryz.func53, Tryz.ntmps53
  go_wp2_with fail
  go_region
  go_wp2_with fail
  refine (m_mark (HH.out.below (((Below.refl _ _).alloc (Nat.le_refl _) _).drew)) hT ⟨#[33]⟩).mono ?_
  rw [show (⟨#[33]⟩ : ByteArray).data.toList = [33] from rfl, HM0.out]
  rintro e v1 ⟨rfl, hB⟩
  have H1 := Lib.hid ((HH.out.below (((Below.refl _ _).alloc (Nat.le_refl _) _).drew)).below hB)
  have B1 := Lib.hid ((((Below.refl B w).alloc HH.out.bsz _).drew).trans (hB.mono (by simp; have := HH.out.bsz; omega)))
  have X1 : Hid (TBox v1 w.heap.size (pk ts S)) := Lib.hid ((TBox.new w (pk ts S)).below hB)
  clear hB
  go_wp2_with fail
  refine (m_mark H1.out hT ⟨#[40]⟩).mono ?_
  rw [show (⟨#[40]⟩ : ByteArray).data.toList = [40] from rfl, HM1.out]
  rintro e v2 ⟨rfl, hB⟩
  have H2 := Lib.hid (H1.out.below hB)
  have B2 := Lib.hid (B1.out.trans (hB.mono H1.out.bsz))
  have X2 := Lib.hid (X1.out.below hB)
  clear hB
  clear h0 h1
  have k0 := X2.out.k
  have k1 := X2.out.x
  have k2 := X2.out.n
  have k3 := X2.out.a
  have hzt := X2.out.lt
  rw [HX.out] at k1
  rw [H3K.out] at k0
  have d1 := H2.out.c1
  have df := H2.out.cf
  have hz2 := H2.out.lt
  go_wp2_with fail
  refine (m_tolerated H2.out hT bd HK.out).mono ?_
  intro e wl hV
  obtain rfl := void_ret hV
  have VL := Lib.hid hV
  clear hV
  go_wp2
  go_end0
  exact void_last VL.out (by unfold unitM; rw [if_neg (by rw [HM0.out]; decide), if_neg (by rw [HM1.out]; decide), if_pos H3K.out, if_neg (by rw [HX.out]; decide), if_neg (by rw [HX.out]; decide), if_neg (by rw [HX.out]; decide), if_neg (by rw [HX.out]; decide), if_pos HX.out]) rfl B2.out
set_option maxHeartbeats 2000000 in
set_option maxRecDepth 100000 in
theorem m_unit_else3 {ts : List Tk} {B : Nat} {M : MM} {ws : List Wn} {fr : List Nat} {S : PS} {w : World} (h : MAt ts B M ws fr S w) (hT : TOK ts) (bd : MBd ws fr S) (h0 : isT ts S 4 [33] = false) (h1 : isT ts S 4 [40] = false) (h3 : (pk ts S).kind = 3) (n0 : ¬ (pk ts S).text = [116, 114, 117, 101]) (n1 : ¬ (pk ts S).text = [102, 97, 108, 115, 101]) (n2 : ¬ (pk ts S).text = [110, 101, 97, 114]) (n3 : ¬ (pk ts S).text = [97, 112, 97, 114, 116]) (n4 : ¬ (pk ts S).text = [116, 111, 108, 101, 114, 97, 116, 101, 100]) :
    Calls Tryz.prog 53 #[.pointer (some ⟨M.P, 0, none⟩)] w (MVoid ts B M ws w (unitM ts fr S)) := by
  obtain ⟨g, cap, c0, c1, hg, a0, a1, a2, a3, a4⟩ := h.tok
  have HH := Lib.hid h
  have hl := hT.len
  have hp := h.pos
  have hz := h.lt
  have hI : (S.pos : Int) < (ts.length : Int) := by omega
  have hwl := bd.wsl
  have HPA : Hid (placeT ts S.pos = (pk ts S).at_) := Lib.hid rfl
  obtain ⟨Af, cfr, hvf⟩ := own_shape h.rows.free
  have HVF := Lib.hid hvf
  have HM0 := Lib.hid h0
  have HM1 := Lib.hid h1
  have H3K := Lib.hid h3
  clear h hvf h3
  go_enter Tryz.func53, Tryz.ntmps53
  go_wp2_with fail
  go_region
  go_wp2_with fail
  refine (m_mark (HH.out.below (((Below.refl _ _).alloc (Nat.le_refl _) _).drew)) hT ⟨#[33]⟩).mono ?_
  rw [show (⟨#[33]⟩ : ByteArray).data.toList = [33] from rfl, HM0.out]
  rintro e v1 ⟨rfl, hB⟩
  have H1 := Lib.hid ((HH.out.below (((Below.refl _ _).alloc (Nat.le_refl _) _).drew)).below hB)
  have B1 := Lib.hid ((((Below.refl B w).alloc HH.out.bsz _).drew).trans (hB.mono (by simp; have := HH.out.bsz; omega)))
  have X1 : Hid (TBox v1 w.heap.size (pk ts S)) := Lib.hid ((TBox.new w (pk ts S)).below hB)
  clear hB
  go_wp2_with fail
  refine (m_mark H1.out hT ⟨#[40]⟩).mono ?_
  rw [show (⟨#[40]⟩ : ByteArray).data.toList = [40] from rfl, HM1.out]
  rintro e v2 ⟨rfl, hB⟩
  have H2 := Lib.hid (H1.out.below hB)
  have B2 := Lib.hid (B1.out.trans (hB.mono H1.out.bsz))
  have X2 := Lib.hid (X1.out.below hB)
  clear hB
  clear h0 h1
  have q3 : ((pk ts S).kind == 3) = true := by rw [H3K.out]; rfl
  have e0 : ((pk ts S).text == [116, 114, 117, 101]) = false := by rw [beq_eq_false_iff_ne]; exact n0
  have e1 : ((pk ts S).text == [102, 97, 108, 115, 101]) = false := by rw [beq_eq_false_iff_ne]; exact n1
  have e2 : ((pk ts S).text == [110, 101, 97, 114]) = false := by rw [beq_eq_false_iff_ne]; exact n2
  have e3 : ((pk ts S).text == [97, 112, 97, 114, 116]) = false := by rw [beq_eq_false_iff_ne]; exact n3
  have e4 : ((pk ts S).text == [116, 111, 108, 101, 114, 97, 116, 101, 100]) = false := by rw [beq_eq_false_iff_ne]; exact n4
  have k0 := X2.out.k
  have k1 := X2.out.x
  have k2 := X2.out.n
  have k3 := X2.out.a
  have hzt := X2.out.lt
  have c5 : v2.cell? ⟨M.P, 5, none⟩ = some (.slice Af fr.length cfr) := by rw [← HVF.out]; exact H2.out.c5
  have hz2 := H2.out.lt
  go_wp2_with fail
  refine (m_push H2.out (.rel fr.length) (by omega)).mono ?_
  rintro e v3 ⟨rfl, q1, hA, hB⟩
  have H3 := Lib.hid hA
  have B3 := Lib.hid (B2.out.trans hB)
  clear hA hB c5 k0 k1 k2 k3
  go_wp2_with fail
  refine (m_push H3.out .term (by simp; omega)).mono ?_
  rintro e v4 ⟨rfl, q2, hA, hB⟩
  have H4 := Lib.hid hA
  have B4 := Lib.hid (B3.out.trans hB)
  clear hA hB
  go_wp2
  go_end0
  exact void_ok (ws' := [.term, .rel fr.length]) (fr' := fr) (S' := S) (by unfold unitM; rw [if_neg (by rw [HM0.out]; decide), if_neg (by rw [HM1.out]; decide), if_pos H3K.out, if_neg n0, if_neg n1, if_neg n2, if_neg n3, if_neg n4]) _ (by exact rfl) H4.out B4.out
set_option maxHeartbeats 2000000 in
set_option maxRecDepth 100000 in
theorem m_unit_else {ts : List Tk} {B : Nat} {M : MM} {ws : List Wn} {fr : List Nat} {S : PS} {w : World} (h : MAt ts B M ws fr S w) (hT : TOK ts) (bd : MBd ws fr S) (h0 : isT ts S 4 [33] = false) (h1 : isT ts S 4 [40] = false) (h3 : ¬ (pk ts S).kind = 3) :
    Calls Tryz.prog 53 #[.pointer (some ⟨M.P, 0, none⟩)] w (MVoid ts B M ws w (unitM ts fr S)) := by
  obtain ⟨g, cap, c0, c1, hg, a0, a1, a2, a3, a4⟩ := h.tok
  have HH := Lib.hid h
  have hl := hT.len
  have hp := h.pos
  have hz := h.lt
  have hI : (S.pos : Int) < (ts.length : Int) := by omega
  have hwl := bd.wsl
  have HPA : Hid (placeT ts S.pos = (pk ts S).at_) := Lib.hid rfl
  obtain ⟨Af, cfr, hvf⟩ := own_shape h.rows.free
  have HVF := Lib.hid hvf
  have HM0 := Lib.hid h0
  have HM1 := Lib.hid h1
  have H3K := Lib.hid h3
  clear h hvf h3
  go_enter Tryz.func53, Tryz.ntmps53
  go_wp2_with fail
  go_region
  go_wp2_with fail
  refine (m_mark (HH.out.below (((Below.refl _ _).alloc (Nat.le_refl _) _).drew)) hT ⟨#[33]⟩).mono ?_
  rw [show (⟨#[33]⟩ : ByteArray).data.toList = [33] from rfl, HM0.out]
  rintro e v1 ⟨rfl, hB⟩
  have H1 := Lib.hid ((HH.out.below (((Below.refl _ _).alloc (Nat.le_refl _) _).drew)).below hB)
  have B1 := Lib.hid ((((Below.refl B w).alloc HH.out.bsz _).drew).trans (hB.mono (by simp; have := HH.out.bsz; omega)))
  have X1 : Hid (TBox v1 w.heap.size (pk ts S)) := Lib.hid ((TBox.new w (pk ts S)).below hB)
  clear hB
  go_wp2_with fail
  refine (m_mark H1.out hT ⟨#[40]⟩).mono ?_
  rw [show (⟨#[40]⟩ : ByteArray).data.toList = [40] from rfl, HM1.out]
  rintro e v2 ⟨rfl, hB⟩
  have H2 := Lib.hid (H1.out.below hB)
  have B2 := Lib.hid (B1.out.trans (hB.mono H1.out.bsz))
  have X2 := Lib.hid (X1.out.below hB)
  clear hB
  clear h0 h1
  have q3 : ((pk ts S).kind == 3) = false := by rw [beq_eq_false_iff_ne]; exact H3K.out
  have k0 := X2.out.k
  have k1 := X2.out.x
  have k2 := X2.out.n
  have k3 := X2.out.a
  have hzt := X2.out.lt
  have c5 : v2.cell? ⟨M.P, 5, none⟩ = some (.slice Af fr.length cfr) := by rw [← HVF.out]; exact H2.out.c5
  have hz2 := H2.out.lt
  go_wp2_with fail
  refine (m_push H2.out (.rel fr.length) (by omega)).mono ?_
  rintro e v3 ⟨rfl, q1, hA, hB⟩
  have H3 := Lib.hid hA
  have B3 := Lib.hid (B2.out.trans hB)
  clear hA hB c5 k0 k1 k2 k3
  go_wp2_with fail
  refine (m_push H3.out .term (by simp; omega)).mono ?_
  rintro e v4 ⟨rfl, q2, hA, hB⟩
  have H4 := Lib.hid hA
  have B4 := Lib.hid (B3.out.trans hB)
  clear hA hB
  go_wp2
  go_end0
  exact void_ok (ws' := [.term, .rel fr.length]) (fr' := fr) (S' := S) (by unfold unitM; rw [if_neg (by rw [HM0.out]; decide), if_neg (by rw [HM1.out]; decide), if_neg H3K.out]) _ (by exact rfl) H4.out B4.out
theorem m_unit {ts : List Tk} {B : Nat} {M : MM} {ws : List Wn} {fr : List Nat} {S : PS} {w : World} (h : MAt ts B M ws fr S w) (hT : TOK ts) (bd : MBd ws fr S) :
    Calls Tryz.prog 53 #[.pointer (some ⟨M.P, 0, none⟩)] w (MVoid ts B M ws w (unitM ts fr S)) := by
  cases h0 : isT ts S 4 [33] with
  | true =>
    by_cases hn : S.nest = 32
    · exact m_unit_not_deep h hT bd h0 hn
    · exact m_unit_not h hT bd h0 hn
  | false =>
    cases h1 : isT ts S 4 [40] with
    | true =>
      by_cases hn : S.nest = 32
      · exact m_unit_group_deep h hT bd h0 h1 hn
      · exact m_unit_group h hT bd h0 h1 hn
    | false =>
      by_cases h3 : (pk ts S).kind = 3
      · by_cases n0 : (pk ts S).text = [116, 114, 117, 101]
        · exact m_unit_true h hT bd h0 h1 h3 n0
        by_cases n1 : (pk ts S).text = [102, 97, 108, 115, 101]
        · exact m_unit_false h hT bd h0 h1 h3 n1
        by_cases n2 : (pk ts S).text = [110, 101, 97, 114]
        · exact m_unit_near h hT bd h0 h1 h3 n2
        by_cases n3 : (pk ts S).text = [97, 112, 97, 114, 116]
        · exact m_unit_apart h hT bd h0 h1 h3 n3
        by_cases n4 : (pk ts S).text = [116, 111, 108, 101, 114, 97, 116, 101, 100]
        · exact m_unit_tolerated h hT bd h0 h1 h3 n4
        exact m_unit_else3 h hT bd h0 h1 h3 n0 n1 n2 n3 n4
      · exact m_unit_else h hT bd h0 h1 h3

end Go.Proofs.YtfiljgkcipnghaaGreatDoor.X
set_option linter.unusedVariables false
set_option linter.unusedSimpArgs false
namespace Go.Proofs.YtfiljgkcipnghaaGreatDoor.X
open Go.RowKit
set_option maxHeartbeats 2000000 in
set_option maxRecDepth 100000 in
theorem m_term_text {ts : List Tk} {B : Nat} {M : MM} {ws : List Wn} {fr : List Nat} {S : PS} {w : World} (h : MAt ts B M ws fr S w) (hT : TOK ts) (bd : MBd ws fr S) (h3 : (pk ts S).kind = 1) :
    Calls Tryz.prog 54 #[.pointer (some ⟨M.P, 0, none⟩)] w (MVoid ts B M ws w (termM ts fr S)) := by
  have hk : (pk ts S).kind ≠ 0 := by rw [h3]; decide
  obtain ⟨g, cap, c0, c1, hg, a0, a1, a2, a3, a4⟩ := h.tok
  have HH := Lib.hid h
  have hl := hT.len
  have hp := h.pos
  have hz := h.lt
  have hI : (S.pos : Int) < (ts.length : Int) := by omega
  have hwl := bd.wsl
  have HPA : Hid (placeT ts S.pos = (pk ts S).at_) := Lib.hid rfl
  have H3K := Lib.hid h3
  have hp2 := pos_next hT h.pos hk
  clear h hk h3
  go_enter Tryz.func54, Tryz.ntmps54
  go_wp2_with fail
  go_region
  go_wp2_with fail
  refine (m_mark (HH.out.below (((Below.refl _ _).alloc (Nat.le_refl _) _).drew)) hT ⟨#[123]⟩).mono ?_
  rw [show (⟨#[123]⟩ : ByteArray).data.toList = [123] from rfl]
  rintro e v1 ⟨rfl, hB⟩
  have H1 := Lib.hid ((HH.out.below (((Below.refl _ _).alloc (Nat.le_refl _) _).drew)).below hB)
  have B1 := Lib.hid ((((Below.refl B w).alloc HH.out.bsz _).drew).trans (hB.mono (by simp; have := HH.out.bsz; omega)))
  have X1 : Hid (TBox v1 w.heap.size (pk ts S)) := Lib.hid ((TBox.new w (pk ts S)).below hB)
  clear hB
  generalize isT ts S 4 [123] = y0
  have k0 := X1.out.k
  have k1 := X1.out.x
  have k2 := X1.out.n
  have k3 := X1.out.a
  have hzt := X1.out.lt
  rw [H3K.out] at k0
  have d1 := H1.out.c1
  have df := H1.out.cf
  have hz1 := H1.out.lt
  have H2 := Lib.hid (H1.out.onS hp2)
  have B2 := Lib.hid (B1.out.setCell (p := ⟨M.P, 1, none⟩) H1.out.PB (.int .i64 (S.pos + 1)))
  go_wp2_with fail
  refine (m_leaf H2.out bd.on 11 (pk ts S).text 0 S.pos).mono ?_
  intro e wl hV
  obtain rfl := void_ret hV
  have VL := Lib.hid hV
  clear hV
  go_wp2
  go_end0
  exact void_last VL.out (by unfold termM; rw [if_pos H3K.out]) rfl B2.out
set_option maxHeartbeats 2000000 in
set_option maxRecDepth 100000 in
theorem m_term_num {ts : List Tk} {B : Nat} {M : MM} {ws : List Wn} {fr : List Nat} {S : PS} {w : World} (h : MAt ts B M ws fr S w) (hT : TOK ts) (bd : MBd ws fr S) (h3 : (pk ts S).kind = 2) :
    Calls Tryz.prog 54 #[.pointer (some ⟨M.P, 0, none⟩)] w (MVoid ts B M ws w (termM ts fr S)) := by
  have hk : (pk ts S).kind ≠ 0 := by rw [h3]; decide
  obtain ⟨g, cap, c0, c1, hg, a0, a1, a2, a3, a4⟩ := h.tok
  have HH := Lib.hid h
  have hl := hT.len
  have hp := h.pos
  have hz := h.lt
  have hI : (S.pos : Int) < (ts.length : Int) := by omega
  have hwl := bd.wsl
  have HPA : Hid (placeT ts S.pos = (pk ts S).at_) := Lib.hid rfl
  have H3K := Lib.hid h3
  have hp2 := pos_next hT h.pos hk
  clear h hk h3
  go_enter Tryz.func54, Tryz.ntmps54
  go_wp2_with fail
  go_region
  go_wp2_with fail
  refine (m_mark (HH.out.below (((Below.refl _ _).alloc (Nat.le_refl _) _).drew)) hT ⟨#[123]⟩).mono ?_
  rw [show (⟨#[123]⟩ : ByteArray).data.toList = [123] from rfl]
  rintro e v1 ⟨rfl, hB⟩
  have H1 := Lib.hid ((HH.out.below (((Below.refl _ _).alloc (Nat.le_refl _) _).drew)).below hB)
  have B1 := Lib.hid ((((Below.refl B w).alloc HH.out.bsz _).drew).trans (hB.mono (by simp; have := HH.out.bsz; omega)))
  have X1 : Hid (TBox v1 w.heap.size (pk ts S)) := Lib.hid ((TBox.new w (pk ts S)).below hB)
  clear hB
  generalize isT ts S 4 [123] = y0
  have k0 := X1.out.k
  have k1 := X1.out.x
  have k2 := X1.out.n
  have k3 := X1.out.a
  have hzt := X1.out.lt
  rw [H3K.out] at k0
  have d1 := H1.out.c1
  have df := H1.out.cf
  have hz1 := H1.out.lt
  have H2 := Lib.hid (H1.out.onS hp2)
  have B2 := Lib.hid (B1.out.setCell (p := ⟨M.P, 1, none⟩) H1.out.PB (.int .i64 (S.pos + 1)))
  go_wp2_with fail
  refine (m_leaf H2.out bd.on 12 [] (pk ts S).num S.pos).mono ?_
  intro e wl hV
  obtain rfl := void_ret hV
  have VL := Lib.hid hV
  clear hV
  go_wp2
  go_end0
  exact void_last VL.out (by unfold termM; rw [if_neg (by rw [H3K.out]; decide), if_pos H3K.out]) rfl B2.out
set_option maxHeartbeats 2000000 in
set_option maxRecDepth 100000 in
theorem m_term_set {ts : List Tk} {B : Nat} {M : MM} {ws : List Wn} {fr : List Nat} {S : PS} {w : World} (h : MAt ts B M ws fr S w) (hT : TOK ts) (bd : MBd ws fr S) (hs : fr.length ≤ 4100 ∧ S.parts.length ≤ 4100 ∧ S.offs.length ≤ 4100) (hm : isT ts S 4 [123] = true) :
    Calls Tryz.prog 54 #[.pointer (some ⟨M.P, 0, none⟩)] w (MVoid ts B M ws w (termM ts fr S)) := by
  have hk : (pk ts S).kind ≠ 0 := by rw [isT_kind hm]; decide
  obtain ⟨g, cap, c0, c1, hg, a0, a1, a2, a3, a4⟩ := h.tok
  have HH := Lib.hid h
  have hl := hT.len
  have hp := h.pos
  have hz := h.lt
  have hI : (S.pos : Int) < (ts.length : Int) := by omega
  have hwl := bd.wsl
  have HPA : Hid (placeT ts S.pos = (pk ts S).at_) := Lib.hid rfl
  have HM := Lib.hid hm
  have H3K := Lib.hid (isT_kind hm)
  have HK := Lib.hid hk
  clear h hk
  go_enter Tryz.func54, Tryz.ntmps54
  go_wp2_with fail
  go_region
  go_wp2_with fail
  refine (m_mark (HH.out.below (((Below.refl _ _).alloc (Nat.le_refl _) _).drew)) hT ⟨#[123]⟩).mono ?_
  rw [show (⟨#[123]⟩ : ByteArray).data.toList = [123] from rfl, HM.out]
  rintro e v1 ⟨rfl, hB⟩
  have H1 := Lib.hid ((HH.out.below (((Below.refl _ _).alloc (Nat.le_refl _) _).drew)).below hB)
  have B1 := Lib.hid ((((Below.refl B w).alloc HH.out.bsz _).drew).trans (hB.mono (by simp; have := HH.out.bsz; omega)))
  have X1 : Hid (TBox v1 w.heap.size (pk ts S)) := Lib.hid ((TBox.new w (pk ts S)).below hB)
  clear hB
  clear hm
  have k0 := X1.out.k
  have k1 := X1.out.x
  have k2 := X1.out.n
  have k3 := X1.out.a
  have hzt := X1.out.lt
  rw [H3K.out] at k0
  go_wp2_with fail
  refine (m_set H1.out hT bd hs HK.out HM.out).mono ?_
  intro e wl hV
  obtain rfl := void_ret hV
  have VL := Lib.hid hV
  clear hV
  go_wp2
  go_end0
  exact void_last VL.out (by unfold termM; rw [if_neg (by rw [H3K.out]; decide), if_neg (by rw [H3K.out]; decide), if_pos HM.out]) rfl B1.out
theorem isT_of {ts : List Tk} {S : PS} {k : Int} {m : Bs} (h1 : (pk ts S).kind = k) (h2 : (pk ts S).text = m) : isT ts S k m = true := by
  unfold isT; rw [h1, h2]; simp
theorem isT_not {ts : List Tk} {S : PS} {k : Int} {m : Bs} (h : ¬ (pk ts S).kind = k) : isT ts S k m = false := by
  unfold isT; rw [beq_eq_false_iff_ne.2 h]; rfl
theorem isT_notx {ts : List Tk} {S : PS} {k : Int} {m : Bs} (h : ¬ (pk ts S).text = m) : isT ts S k m = false := by
  unfold isT; rw [beq_eq_false_iff_ne.2 h]; simp
set_option maxHeartbeats 2000000 in
set_option maxRecDepth 100000 in
theorem m_term_node {ts : List Tk} {B : Nat} {M : MM} {ws : List Wn} {fr : List Nat} {S : PS} {w : World} (h : MAt ts B M ws fr S w) (hT : TOK ts) (bd : MBd ws fr S) (h3 : (pk ts S).kind = 3) (hx : (pk ts S).text = [110, 111, 100, 101]) :
    Calls Tryz.prog 54 #[.pointer (some ⟨M.P, 0, none⟩)] w (MVoid ts B M ws w (termM ts fr S)) := by
  have hk : (pk ts S).kind ≠ 0 := by rw [h3]; decide
  have hm : isT ts S 4 [123] = false := isT_not (by rw [h3]; decide)
  obtain ⟨g, cap, c0, c1, hg, a0, a1, a2, a3, a4⟩ := h.tok
  have HH := Lib.hid h
  have hl := hT.len
  have hp := h.pos
  have hz := h.lt
  have hI : (S.pos : Int) < (ts.length : Int) := by omega
  have hwl := bd.wsl
  have HPA : Hid (placeT ts S.pos = (pk ts S).at_) := Lib.hid rfl
  have HM := Lib.hid hm
  have HX := Lib.hid hx
  have H3K := Lib.hid h3
  have HK := Lib.hid hk
  have hp2 := pos_next hT h.pos hk
  clear h hk h3 hx
  go_enter Tryz.func54, Tryz.ntmps54
  go_wp2_with fail
  go_region
  go_wp2_with fail
  refine (m_mark (HH.out.below (((Below.refl _ _).alloc (Nat.le_refl _) _).drew)) hT ⟨#[123]⟩).mono ?_
  rw [show (⟨#[123]⟩ : ByteArray).data.toList = [123] from rfl, HM.out]
  rintro e v1 ⟨rfl, hB⟩
  have H1 := Lib.hid ((HH.out.below (((Below.refl _ _).alloc (Nat.le_refl _) _).drew)).below hB)
  have B1 := Lib.hid ((((Below.refl B w).alloc HH.out.bsz _).drew).trans (hB.mono (by simp; have := HH.out.bsz; omega)))
  have X1 : Hid (TBox v1 w.heap.size (pk ts S)) := Lib.hid ((TBox.new w (pk ts S)).below hB)
  clear hB
  clear hm
  have k0 := X1.out.k
  have k1 := X1.out.x
  have k2 := X1.out.n
  have k3 := X1.out.a
  have hzt := X1.out.lt
  rw [HX.out] at k1
  rw [H3K.out] at k0
  go_wp2_with fail
  refine (m_who H1.out hT bd HK.out 2).mono ?_
  intro e wl hV
  obtain rfl := void_ret hV
  have VL := Lib.hid hV
  clear hV
  go_wp2
  go_end0
  exact void_last VL.out (by unfold termM; rw [if_neg (by rw [H3K.out]; decide), if_neg (by rw [H3K.out]; decide), if_neg (by rw [HM.out]; decide), if_neg (by rw [isT_notx (by rw [HX.out]; decide)]; decide), if_neg (by rw [isT_notx (by rw [HX.out]; decide)]; decide)]; unfold whoM ownedP; rw [if_neg (by rw [H3K.out, HX.out]; decide), HX.out]; rfl) rfl B1.out
set_option maxHeartbeats 2000000 in
set_option maxRecDepth 100000 in
theorem m_term_pod {ts : List Tk} {B : Nat} {M : MM} {ws : List Wn} {fr : List Nat} {S : PS} {w : World} (h : MAt ts B M ws fr S w) (hT : TOK ts) (bd : MBd ws fr S) (h3 : (pk ts S).kind = 3) (hx : (pk ts S).text = [112, 111, 100]) :
    Calls Tryz.prog 54 #[.pointer (some ⟨M.P, 0, none⟩)] w (MVoid ts B M ws w (termM ts fr S)) := by
  have hk : (pk ts S).kind ≠ 0 := by rw [h3]; decide
  have hm : isT ts S 4 [123] = false := isT_not (by rw [h3]; decide)
  obtain ⟨g, cap, c0, c1, hg, a0, a1, a2, a3, a4⟩ := h.tok
  have HH := Lib.hid h
  have hl := hT.len
  have hp := h.pos
  have hz := h.lt
  have hI : (S.pos : Int) < (ts.length : Int) := by omega
  have hwl := bd.wsl
  have HPA : Hid (placeT ts S.pos = (pk ts S).at_) := Lib.hid rfl
  have HM := Lib.hid hm
  have HX := Lib.hid hx
  have H3K := Lib.hid h3
  have HK := Lib.hid hk
  have hp2 := pos_next hT h.pos hk
  clear h hk h3 hx
  go_enter Tryz.func54, Tryz.ntmps54
  go_wp2_with fail
  go_region
  go_wp2_with fail
  refine (m_mark (HH.out.below (((Below.refl _ _).alloc (Nat.le_refl _) _).drew)) hT ⟨#[123]⟩).mono ?_
  rw [show (⟨#[123]⟩ : ByteArray).data.toList = [123] from rfl, HM.out]
  rintro e v1 ⟨rfl, hB⟩
  have H1 := Lib.hid ((HH.out.below (((Below.refl _ _).alloc (Nat.le_refl _) _).drew)).below hB)
  have B1 := Lib.hid ((((Below.refl B w).alloc HH.out.bsz _).drew).trans (hB.mono (by simp; have := HH.out.bsz; omega)))
  have X1 : Hid (TBox v1 w.heap.size (pk ts S)) := Lib.hid ((TBox.new w (pk ts S)).below hB)
  clear hB
  clear hm
  have k0 := X1.out.k
  have k1 := X1.out.x
  have k2 := X1.out.n
  have k3 := X1.out.a
  have hzt := X1.out.lt
  rw [HX.out] at k1
  rw [H3K.out] at k0
  go_wp2_with fail
  refine (m_who H1.out hT bd HK.out 1).mono ?_
  intro e wl hV
  obtain rfl := void_ret hV
  have VL := Lib.hid hV
  clear hV
  go_wp2
  go_end0
  exact void_last VL.out (by unfold termM; rw [if_neg (by rw [H3K.out]; decide), if_neg (by rw [H3K.out]; decide), if_neg (by rw [HM.out]; decide), if_neg (by rw [isT_notx (by rw [HX.out]; decide)]; decide), if_neg (by rw [isT_notx (by rw [HX.out]; decide)]; decide)]; unfold whoM ownedP; rw [if_neg (by rw [H3K.out, HX.out]; decide), HX.out]; rfl) rfl B1.out
set_option maxHeartbeats 2000000 in
set_option maxRecDepth 100000 in
theorem m_term_it {ts : List Tk} {B : Nat} {M : MM} {ws : List Wn} {fr : List Nat} {S : PS} {w : World} (h : MAt ts B M ws fr S w) (hT : TOK ts) (bd : MBd ws fr S) (h3 : (pk ts S).kind = 3) (hx : (pk ts S).text = [105, 116]) :
    Calls Tryz.prog 54 #[.pointer (some ⟨M.P, 0, none⟩)] w (MVoid ts B M ws w (termM ts fr S)) := by
  have hk : (pk ts S).kind ≠ 0 := by rw [h3]; decide
  have hm : isT ts S 4 [123] = false := isT_not (by rw [h3]; decide)
  obtain ⟨g, cap, c0, c1, hg, a0, a1, a2, a3, a4⟩ := h.tok
  have HH := Lib.hid h
  have hl := hT.len
  have hp := h.pos
  have hz := h.lt
  have hI : (S.pos : Int) < (ts.length : Int) := by omega
  have hwl := bd.wsl
  have HPA : Hid (placeT ts S.pos = (pk ts S).at_) := Lib.hid rfl
  have HM := Lib.hid hm
  have HX := Lib.hid hx
  have H3K := Lib.hid h3
  have HK := Lib.hid hk
  have hp2 := pos_next hT h.pos hk
  clear h hk h3 hx
  go_enter Tryz.func54, Tryz.ntmps54
  go_wp2_with fail
  go_region
  go_wp2_with fail
  refine (m_mark (HH.out.below (((Below.refl _ _).alloc (Nat.le_refl _) _).drew)) hT ⟨#[123]⟩).mono ?_
  rw [show (⟨#[123]⟩ : ByteArray).data.toList = [123] from rfl, HM.out]
  rintro e v1 ⟨rfl, hB⟩
  have H1 := Lib.hid ((HH.out.below (((Below.refl _ _).alloc (Nat.le_refl _) _).drew)).below hB)
  have B1 := Lib.hid ((((Below.refl B w).alloc HH.out.bsz _).drew).trans (hB.mono (by simp; have := HH.out.bsz; omega)))
  have X1 : Hid (TBox v1 w.heap.size (pk ts S)) := Lib.hid ((TBox.new w (pk ts S)).below hB)
  clear hB
  clear hm
  have k0 := X1.out.k
  have k1 := X1.out.x
  have k2 := X1.out.n
  have k3 := X1.out.a
  have hzt := X1.out.lt
  rw [HX.out] at k1
  rw [H3K.out] at k0
  go_wp2_with fail
  refine (m_who H1.out hT bd HK.out 3).mono ?_
  intro e wl hV
  obtain rfl := void_ret hV
  have VL := Lib.hid hV
  clear hV
  go_wp2
  go_end0
  exact void_last VL.out (by unfold termM; rw [if_neg (by rw [H3K.out]; decide), if_neg (by rw [H3K.out]; decide), if_neg (by rw [HM.out]; decide), if_neg (by rw [isT_notx (by rw [HX.out]; decide)]; decide), if_neg (by rw [isT_notx (by rw [HX.out]; decide)]; decide)]; unfold whoM ownedP; rw [if_neg (by rw [H3K.out, HX.out]; decide), HX.out]; rfl) rfl B1.out
set_option maxHeartbeats 2000000 in
set_option maxRecDepth 100000 in
theorem m_term_int {ts : List Tk} {B : Nat} {M : MM} {ws : List Wn} {fr : List Nat} {S : PS} {w : World} (h : MAt ts B M ws fr S w) (hT : TOK ts) (bd : MBd ws fr S) (h3 : (pk ts S).kind = 3) (hx : (pk ts S).text = [105, 110, 116]) :
    Calls Tryz.prog 54 #[.pointer (some ⟨M.P, 0, none⟩)] w (MVoid ts B M ws w (termM ts fr S)) := by
  have hk : (pk ts S).kind ≠ 0 := by rw [h3]; decide
  have hm : isT ts S 4 [123] = false := isT_not (by rw [h3]; decide)
  obtain ⟨g, cap, c0, c1, hg, a0, a1, a2, a3, a4⟩ := h.tok
  have HH := Lib.hid h
  have hl := hT.len
  have hp := h.pos
  have hz := h.lt
  have hI : (S.pos : Int) < (ts.length : Int) := by omega
  have hwl := bd.wsl
  have HPA : Hid (placeT ts S.pos = (pk ts S).at_) := Lib.hid rfl
  have HM := Lib.hid hm
  have HX := Lib.hid hx
  have H3K := Lib.hid h3
  have HK := Lib.hid hk
  have hp2 := pos_next hT h.pos hk
  obtain ⟨Af, cfr, hvf⟩ := own_shape h.rows.free
  have HVF := Lib.hid hvf
  clear hvf
  clear h hk h3 hx
  go_enter Tryz.func54, Tryz.ntmps54
  go_wp2_with fail
  go_region
  go_wp2_with fail
  refine (m_mark (HH.out.below (((Below.refl _ _).alloc (Nat.le_refl _) _).drew)) hT ⟨#[123]⟩).mono ?_
  rw [show (⟨#[123]⟩ : ByteArray).data.toList = [123] from rfl, HM.out]
  rintro e v1 ⟨rfl, hB⟩
  have H1 := Lib.hid ((HH.out.below (((Below.refl _ _).alloc (Nat.le_refl _) _).drew)).below hB)
  have B1 := Lib.hid ((((Below.refl B w).alloc HH.out.bsz _).drew).trans (hB.mono (by simp; have := HH.out.bsz; omega)))
  have X1 : Hid (TBox v1 w.heap.size (pk ts S)) := Lib.hid ((TBox.new w (pk ts S)).below hB)
  clear hB
  clear hm
  have k0 := X1.out.k
  have k1 := X1.out.x
  have k2 := X1.out.n
  have k3 := X1.out.a
  have hzt := X1.out.lt
  rw [HX.out] at k1
  rw [H3K.out] at k0
  have d1 := H1.out.c1
  have df := H1.out.cf
  have hz1 := H1.out.lt
  have H2 := Lib.hid (H1.out.onS hp2)
  have B2 := Lib.hid (B1.out.setCell (p := ⟨M.P, 1, none⟩) H1.out.PB (.int .i64 (S.pos + 1)))
  have hzne : w.heap.size ≠ M.P := by omega
  have hx2 : TBox (v1.setCell ⟨M.P, 1, none⟩ (.int .i64 (S.pos + 1))) w.heap.size (pk ts S) := (heap_setCell_other _ _ _ _ hzne).trans X1.out
  have X2 := Lib.hid hx2
  clear hx2
  go_wp2_with fail
  refine (m_takeOpenK H2.out hT bd.nest).mono ?_
  intro e v2 hM
  obtain ⟨f, hm1⟩ | ⟨S1, hm1⟩ := exc_cases (openP ts [40] (on S))
  · rw [hm1] at hM
    obtain ⟨rfl, hf, hB⟩ := hM
    have F := Lib.hid hf
    have BB := Lib.hid (B2.out.trans hB)
    clear hB hf
    go_wp2
    go_end0
    exact void_err (f := f) (by unfold termM; rw [if_neg (by rw [H3K.out]; decide), if_neg (by rw [H3K.out]; decide), if_neg (by rw [HM.out]; decide), if_pos (isT_of H3K.out HX.out), hm1]; rfl) F.out BB.out
  · rw [hm1] at hM
    obtain ⟨rfl, hA, hB, hK⟩ := hM
    have H3 := Lib.hid hA
    have B3 := Lib.hid (B2.out.trans hB)
    have hx3 : TBox v2 w.heap.size (pk ts S) := (hK _ X2.out.lt hzne).trans X2.out
    have j3 := hx3.a
    have hzt3 := hx3.lt
    have hz3 := H3.out.lt
    have c5 : v2.cell? ⟨M.P, 5, none⟩ = some (.slice Af fr.length cfr) := by rw [← HVF.out]; exact H3.out.c5
    have PC := Lib.hid (fun W (hW : MAt ts B M ws fr S1 W) => m_push hW (.part 19 [] S.pos fr.length) (by omega))
    clear hA hB hK hx3 k0 k1 k2 k3
    go_wp2_with fail
    go_region_with (go_at_call 38; refine (PC.out _ (by first | exact H3.out | exact H3.out.below ((Below.refl _ _).drew))).mono ?_; rintro e v4 ⟨rfl, q1, hA, hB⟩; have H4 := Lib.hid hA; have B4 : Hid (Below B w v4) := Lib.hid (by first | exact B3.out.trans hB | exact B3.out.drew.trans hB); clear hA hB)
    all_goals
      go_wp2_with fail
      refine (m_push H4.out .close (by simp; omega)).mono ?_
      rintro e v5 ⟨rfl, q2, hA, hB⟩
      have H5 := Lib.hid hA
      have B5 := Lib.hid (B4.out.trans hB)
      clear hA hB
      go_wp2_with fail
      refine (m_push H5.out .term (by simp; omega)).mono ?_
      rintro e v6 ⟨rfl, q3, hA, hB⟩
      have H6 := Lib.hid hA
      have B6 := Lib.hid (B5.out.trans hB)
      clear hA hB
      go_wp2
      go_end0
      exact void_ok (ws' := [.term, .close, .part 19 [] S.pos fr.length]) (fr' := fr) (S' := S1) (by unfold termM; rw [if_neg (by rw [H3K.out]; decide), if_neg (by rw [H3K.out]; decide), if_neg (by rw [HM.out]; decide), if_pos (isT_of H3K.out HX.out), hm1]; rfl) _ (by exact rfl) H6.out B6.out
set_option maxHeartbeats 2000000 in
set_option maxRecDepth 100000 in
theorem m_term_count {ts : List Tk} {B : Nat} {M : MM} {ws : List Wn} {fr : List Nat} {S : PS} {w : World} (h : MAt ts B M ws fr S w) (hT : TOK ts) (bd : MBd ws fr S) (h3 : (pk ts S).kind = 3) (hx : (pk ts S).text = [99, 111, 117, 110, 116]) :
    Calls Tryz.prog 54 #[.pointer (some ⟨M.P, 0, none⟩)] w (MVoid ts B M ws w (termM ts fr S)) := by
  have hk : (pk ts S).kind ≠ 0 := by rw [h3]; decide
  have hm : isT ts S 4 [123] = false := isT_not (by rw [h3]; decide)
  obtain ⟨g, cap, c0, c1, hg, a0, a1, a2, a3, a4⟩ := h.tok
  have HH := Lib.hid h
  have hl := hT.len
  have hp := h.pos
  have hz := h.lt
  have hI : (S.pos : Int) < (ts.length : Int) := by omega
  have hwl := bd.wsl
  have HPA : Hid (placeT ts S.pos = (pk ts S).at_) := Lib.hid rfl
  have HM := Lib.hid hm
  have HX := Lib.hid hx
  have H3K := Lib.hid h3
  have HK := Lib.hid hk
  have hp2 := pos_next hT h.pos hk
  clear h hk h3 hx
  go_enter Tryz.func54, Tryz.ntmps54
  go_wp2_with fail
  go_region
  go_wp2_with fail
  refine (m_mark (HH.out.below (((Below.refl _ _).alloc (Nat.le_refl _) _).drew)) hT ⟨#[123]⟩).mono ?_
  rw [show (⟨#[123]⟩ : ByteArray).data.toList = [123] from rfl, HM.out]
  rintro e v1 ⟨rfl, hB⟩
  have H1 := Lib.hid ((HH.out.below (((Below.refl _ _).alloc (Nat.le_refl _) _).drew)).below hB)
  have B1 := Lib.hid ((((Below.refl B w).alloc HH.out.bsz _).drew).trans (hB.mono (by simp; have := HH.out.bsz; omega)))
  have X1 : Hid (TBox v1 w.heap.size (pk ts S)) := Lib.hid ((TBox.new w (pk ts S)).below hB)
  clear hB
  clear hm
  have k0 := X1.out.k
  have k1 := X1.out.x
  have k2 := X1.out.n
  have k3 := X1.out.a
  have hzt := X1.out.lt
  rw [HX.out] at k1
  rw [H3K.out] at k0
  go_wp2_with fail
  refine (m_selector H1.out hT bd HK.out 20).mono ?_
  intro e wl hV
  obtain rfl := void_ret hV
  have VL := Lib.hid hV
  clear hV
  go_wp2
  go_end0
  exact void_last VL.out (by unfold termM; rw [if_neg (by rw [H3K.out]; decide), if_neg (by rw [H3K.out]; decide), if_neg (by rw [HM.out]; decide), if_neg (by rw [isT_notx (by rw [HX.out]; decide)]; decide), if_pos (isT_of H3K.out HX.out)]) rfl B1.out
set_option maxHeartbeats 2000000 in
set_option maxRecDepth 100000 in
theorem m_term_else3 {ts : List Tk} {B : Nat} {M : MM} {ws : List Wn} {fr : List Nat} {S : PS} {w : World} (h : MAt ts B M ws fr S w) (hT : TOK ts) (bd : MBd ws fr S) (hm : isT ts S 4 [123] = false) (h3 : (pk ts S).kind = 3) (n0 : ¬ (pk ts S).text = [110, 111, 100, 101]) (n1 : ¬ (pk ts S).text = [112, 111, 100]) (n2 : ¬ (pk ts S).text = [105, 116]) (n3 : ¬ (pk ts S).text = [105, 110, 116]) (n4 : ¬ (pk ts S).text = [99, 111, 117, 110, 116]) :
    Calls Tryz.prog 54 #[.pointer (some ⟨M.P, 0, none⟩)] w (MVoid ts B M ws w (termM ts fr S)) := by
  obtain ⟨g, cap, c0, c1, hg, a0, a1, a2, a3, a4⟩ := h.tok
  have HH := Lib.hid h
  have hl := hT.len
  have hp := h.pos
  have hz := h.lt
  have hI : (S.pos : Int) < (ts.length : Int) := by omega
  have hwl := bd.wsl
  have HPA : Hid (placeT ts S.pos = (pk ts S).at_) := Lib.hid rfl
  have HM := Lib.hid hm
  have H3K := Lib.hid h3
  clear h h3
  go_enter Tryz.func54, Tryz.ntmps54
  go_wp2_with fail
  go_region
  go_wp2_with fail
  refine (m_mark (HH.out.below (((Below.refl _ _).alloc (Nat.le_refl _) _).drew)) hT ⟨#[123]⟩).mono ?_
  rw [show (⟨#[123]⟩ : ByteArray).data.toList = [123] from rfl, HM.out]
  rintro e v1 ⟨rfl, hB⟩
  have H1 := Lib.hid ((HH.out.below (((Below.refl _ _).alloc (Nat.le_refl _) _).drew)).below hB)
  have B1 := Lib.hid ((((Below.refl B w).alloc HH.out.bsz _).drew).trans (hB.mono (by simp; have := HH.out.bsz; omega)))
  have X1 : Hid (TBox v1 w.heap.size (pk ts S)) := Lib.hid ((TBox.new w (pk ts S)).below hB)
  clear hB
  clear hm
  have k0 := X1.out.k
  have k1 := X1.out.x
  have k2 := X1.out.n
  have k3 := X1.out.a
  have hzt := X1.out.lt
  rw [H3K.out] at k0
  have e0 : ((pk ts S).text == [110, 111, 100, 101]) = false := by rw [beq_eq_false_iff_ne]; exact n0
  have e1 : ((pk ts S).text == [112, 111, 100]) = false := by rw [beq_eq_false_iff_ne]; exact n1
  have e2 : ((pk ts S).text == [105, 116]) = false := by rw [beq_eq_false_iff_ne]; exact n2
  have e3 : ((pk ts S).text == [105, 110, 116]) = false := by rw [beq_eq_false_iff_ne]; exact n3
  have e4 : ((pk ts S).text == [99, 111, 117, 110, 116]) = false := by rw [beq_eq_false_iff_ne]; exact n4
  go_wp2_with fail
  refine (m_wrong H1.out hT).mono ?_
  rintro e wl ⟨rfl, hf, hB⟩
  have F := Lib.hid hf
  have BB := Lib.hid (B1.out.trans hB)
  clear hB hf
  go_wp2
  go_end0
  exact void_err (f := wrongP ts S) (by unfold termM; rw [if_neg (by rw [H3K.out]; decide), if_neg (by rw [H3K.out]; decide), if_neg (by rw [HM.out]; decide), if_neg (by rw [isT_notx n3]; decide), if_neg (by rw [isT_notx n4]; decide)]; unfold ownedP sideP; rw [if_pos (Or.inr (by rw [if_neg n0, if_neg n1, if_neg n2]))]; rfl) F.out BB.out
set_option maxHeartbeats 2000000 in
set_option maxRecDepth 100000 in
theorem m_term_else {ts : List Tk} {B : Nat} {M : MM} {ws : List Wn} {fr : List Nat} {S : PS} {w : World} (h : MAt ts B M ws fr S w) (hT : TOK ts) (bd : MBd ws fr S) (hm : isT ts S 4 [123] = false) (h3 : ¬ (pk ts S).kind = 3) (h1 : ¬ (pk ts S).kind = 1) (h2 : ¬ (pk ts S).kind = 2) :
    Calls Tryz.prog 54 #[.pointer (some ⟨M.P, 0, none⟩)] w (MVoid ts B M ws w (termM ts fr S)) := by
  obtain ⟨g, cap, c0, c1, hg, a0, a1, a2, a3, a4⟩ := h.tok
  have HH := Lib.hid h
  have hl := hT.len
  have hp := h.pos
  have hz := h.lt
  have hI : (S.pos : Int) < (ts.length : Int) := by omega
  have hwl := bd.wsl
  have HPA : Hid (placeT ts S.pos = (pk ts S).at_) := Lib.hid rfl
  have HM := Lib.hid hm
  have H3K := Lib.hid h3
  have H1K := Lib.hid h1
  have H2K := Lib.hid h2
  clear h h3 h1 h2
  go_enter Tryz.func54, Tryz.ntmps54
  go_wp2_with fail
  go_region
  go_wp2_with fail
  refine (m_mark (HH.out.below (((Below.refl _ _).alloc (Nat.le_refl _) _).drew)) hT ⟨#[123]⟩).mono ?_
  rw [show (⟨#[123]⟩ : ByteArray).data.toList = [123] from rfl, HM.out]
  rintro e v1 ⟨rfl, hB⟩
  have H1 := Lib.hid ((HH.out.below (((Below.refl _ _).alloc (Nat.le_refl _) _).drew)).below hB)
  have B1 := Lib.hid ((((Below.refl B w).alloc HH.out.bsz _).drew).trans (hB.mono (by simp; have := HH.out.bsz; omega)))
  have X1 : Hid (TBox v1 w.heap.size (pk ts S)) := Lib.hid ((TBox.new w (pk ts S)).below hB)
  clear hB
  clear hm
  have k0 := X1.out.k
  have k1 := X1.out.x
  have k2 := X1.out.n
  have k3 := X1.out.a
  have hzt := X1.out.lt
  have e1 : ((pk ts S).kind == 1) = false := by rw [beq_eq_false_iff_ne]; exact H1K.out
  have e2 : ((pk ts S).kind == 2) = false := by rw [beq_eq_false_iff_ne]; exact H2K.out
  have e3 : ((pk ts S).kind == 3) = false := by rw [beq_eq_false_iff_ne]; exact H3K.out
  go_wp2_with fail
  refine (m_wrong H1.out hT).mono ?_
  rintro e wl ⟨rfl, hf, hB⟩
  have F := Lib.hid hf
  have BB := Lib.hid (B1.out.trans hB)
  clear hB hf
  go_wp2
  go_end0
  exact void_err (f := wrongP ts S) (by unfold termM; rw [if_neg H1K.out, if_neg H2K.out, if_neg (by rw [HM.out]; decide), if_neg (by rw [isT_not H3K.out]; decide), if_neg (by rw [isT_not H3K.out]; decide)]; unfold ownedP; rw [if_pos (Or.inl H3K.out)]; rfl) F.out BB.out
theorem m_term {ts : List Tk} {B : Nat} {M : MM} {ws : List Wn} {fr : List Nat} {S : PS} {w : World} (h : MAt ts B M ws fr S w) (hT : TOK ts) (bd : MBd ws fr S) (hs : fr.length ≤ 4100 ∧ S.parts.length ≤ 4100 ∧ S.offs.length ≤ 4100) :
    Calls Tryz.prog 54 #[.pointer (some ⟨M.P, 0, none⟩)] w (MVoid ts B M ws w (termM ts fr S)) := by
  by_cases h1 : (pk ts S).kind = 1
  · exact m_term_text h hT bd h1
  by_cases h2 : (pk ts S).kind = 2
  · exact m_term_num h hT bd h2
  cases hm : isT ts S 4 [123] with
  | true => exact m_term_set h hT bd hs hm
  | false =>
    by_cases h3 : (pk ts S).kind = 3
    · by_cases n0 : (pk ts S).text = [110, 111, 100, 101]
      · exact m_term_node h hT bd h3 n0
      by_cases n1 : (pk ts S).text = [112, 111, 100]
      · exact m_term_pod h hT bd h3 n1
      by_cases n2 : (pk ts S).text = [105, 116]
      · exact m_term_it h hT bd h3 n2
      by_cases n3 : (pk ts S).text = [105, 110, 116]
      · exact m_term_int h hT bd h3 n3
      by_cases n4 : (pk ts S).text = [99, 111, 117, 110, 116]
      · exact m_term_count h hT bd h3 n4
      exact m_term_else3 h hT bd hm h3 n0 n1 n2 n3 n4
    · exact m_term_else h hT bd hm h3 h1 h2

end Go.Proofs.YtfiljgkcipnghaaGreatDoor.X
