/-
  The show seat's trees as the parse seat's: the same parts; their text is the pieces' bytes; how much stands round each.
  A valid tree's text reads as that tree.
  A valid tree's text reads as that tree: the stack, the nests, the whole.
-/
import Derived.Test.YtghhnnbbjlipcaaGreatDoorRtAll
import Derived.Test.YtghhnnbbjlipcaaGreatDoorTextAll
set_option linter.unusedVariables false
set_option linter.unusedSimpArgs false
namespace Go.Proofs.YtghhnnbbjlipcaaGreatDoor.X
open Go.RowKit
/-- No part is twice a kid. -/
theorem runF_disj (ps : List PD) : ∀ (d i : Nat) (F R : List Nat), d = ps.length - i → i ≤ ps.length → F.Nodup → (∀ y ∈ F, y < i) → (∀ y ∈ F, ∀ j, j < i → y ∉ (at_ ps j).kids) → (∀ j, j < i → ∀ k ∈ (at_ ps j).kids, k < j) → (∀ j j', j < j' → j' < i → ∀ k ∈ (at_ ps j').kids, k ∉ (at_ ps j).kids) →
    runF F i (ps.drop i) = some R → (∀ j, j < ps.length → ∀ k ∈ (at_ ps j).kids, k < j) ∧ (∀ j j', j < j' → j' < ps.length → ∀ k ∈ (at_ ps j').kids, k ∉ (at_ ps j).kids)
  | 0, i, F, R, hd, hi, hn, hl, hf, hk, hdis, h => by
    obtain rfl : i = ps.length := by omega
    exact ⟨hk, hdis⟩
  | d + 1, i, F, R, hd, hi, hn, hl, hf, hk, hdis, h => by
    have hlt : i < ps.length := by omega
    rw [List.drop_eq_getElem_cons hlt] at h
    simp only [runF, stepF] at h
    have hat : at_ ps i = ps[i] := by rw [at_, List.getD_eq_getElem?_getD, List.getElem?_eq_getElem hlt]; rfl
    split at h
    · cases h
    · rename_i f hf2
      split at hf2
      · rename_i hfit
        injection hf2 with hf2
        subst hf2
        have hkids : ∀ k ∈ (at_ ps i).kids, k ∈ F.drop (F.length - ps[i].kids.length) := fun k hk => by rw [hat, ← hfit.2.1] at hk; exact hk
        have hsplit : (F.take (F.length - ps[i].kids.length) ++ F.drop (F.length - ps[i].kids.length)).Nodup := by rw [List.take_append_drop]; exact hn
        have happ := List.nodup_append.1 hsplit
        have hki : ∀ k ∈ (at_ ps i).kids, k < i := fun k hk => hl k (List.mem_of_mem_drop (hkids k hk))
        refine runF_disj ps d (i + 1) _ R (by omega) (by omega) ?_ ?_ ?_ ?_ ?_ h
        · rw [List.nodup_append]
          refine ⟨happ.1, by simp, fun a ha b hb => ?_⟩
          have := hl a (List.mem_of_mem_take ha)
          rw [List.mem_singleton.1 hb]; omega
        · intro y hy
          rcases List.mem_append.1 hy with hy | hy
          · have := hl y (List.mem_of_mem_take hy); omega
          · have := List.mem_singleton.1 hy; omega
        · intro y hy j hj hm
          rcases List.mem_append.1 hy with hy | hy
          · rcases Nat.lt_or_ge j i with h1 | h1
            · exact hf y (List.mem_of_mem_take hy) j h1 hm
            · obtain rfl : j = i := by omega
              exact happ.2.2 y hy y (hkids y hm) rfl
          · have e := List.mem_singleton.1 hy
            rcases Nat.lt_or_ge j i with h1 | h1
            · have := hk j h1 y hm; omega
            · obtain rfl : j = i := by omega
              have := hki y hm; omega
        · intro j hj k hkj
          rcases Nat.lt_or_ge j i with h1 | h1
          · exact hk j h1 k hkj
          · obtain rfl : j = i := by omega
            exact hki k hkj
        · intro j j' h1 h2 k hkj hm
          rcases Nat.lt_or_ge j' i with h3 | h3
          · exact hdis j j' h1 h3 k hkj hm
          · obtain rfl : j' = i := by omega
            exact hf k (List.mem_of_mem_drop (hkids k hkj)) j h1 hm
      · cases hf2
theorem tree_disj {ps : List PD} {r : Nat} (h : runF [] 0 ps = some [r]) : (∀ j, j < ps.length → ∀ k ∈ (at_ ps j).kids, k < j) ∧ (∀ j j', j < j' → j' < ps.length → ∀ k ∈ (at_ ps j').kids, k ∉ (at_ ps j).kids) :=
  runF_disj ps ps.length 0 [] [r] rfl (Nat.zero_le _) (by simp) (by simp) (by simp) (fun j hj => absurd hj (Nat.not_lt_zero _)) (fun j j' _ hj => absurd hj (Nat.not_lt_zero _)) (by simpa using h)

/-! ### Parts -/
def toPD (p : P.Pt) : PD := ⟨p.f0, p.f1.data.toList, p.f2, p.f3.map Int.toNat⟩
abbrev toPDs (l0 : List P.Pt) : List PD := l0.map toPD
theorem rd_at (l0 : List P.Pt) {j : Nat} (hj : j < l0.length) : at_ (toPDs l0) j = toPD (P.rd_T45 l0 (j : Int)) := by
  rw [at_, List.getD_eq_getElem?_getD, List.getElem?_map, List.getElem?_eq_getElem hj]
  simp [P.rd_T45, List.getD_eq_getElem?_getD, List.getElem?_eq_getElem hj]
theorem quote_same (s : ByteArray) : P.quoteT s = quoteL s.data.toList := by
  have go : ∀ l : Bs, l.flatMap P.qbyte = qAll l := by
    intro l
    induction l with
    | nil => rfl
    | cons c l ih => rw [List.flatMap_cons, ih]; rfl
  unfold P.quoteT quoteL
  rw [go]
theorem brB_same (a b : Int) : P.brackB a b = brB a b := rfl
/-- The text of pieces as the show seat writes it. -/
theorem one_bytes (l0 : List P.Pt) (p : P.Pt) (f : Nat → List Piece) {k : Int} (h0 : 0 ≤ k) (h1 : k < (l0.length : Int)) : bytesOf (onePc (toPDs l0) (toPD p) f k.toNat) = P.oneT l0 p (fun k => bytesOf (f k.toNat)) k := by
  have e : at_ (toPDs l0) k.toNat = toPD (P.rd_T45 l0 k) := by
    have := rd_at l0 (j := k.toNat) (by omega)
    rw [this, show ((k.toNat : Nat) : Int) = k by omega]
  unfold onePc P.oneT
  rw [e, brB_same]
  show bytesOf (if brB p.f0 (P.rd_T45 l0 k).f0 = true then _ else _) = _
  split
  · simp [bytes_cons, bytes_app, Piece.bytes, bytesOf]
  · rfl
theorem join_bytes (l0 : List P.Pt) (p : P.Pt) (sep : List Piece) (f : Nat → List Piece) (ks : List Int) (h : ∀ k ∈ ks, 0 ≤ k ∧ k < (l0.length : Int)) : bytesOf (joinPc (toPDs l0) (toPD p) sep f (ks.map Int.toNat)) = P.joinT l0 p (bytesOf sep) (fun k => bytesOf (f k.toNat)) ks := by
  have go : ∀ ks : List Int, (∀ k ∈ ks, 0 ≤ k ∧ k < (l0.length : Int)) → bytesOf ((ks.map Int.toNat).flatMap (fun k => sep ++ onePc (toPDs l0) (toPD p) f k)) = ks.flatMap (fun k => bytesOf sep ++ P.oneT l0 p (fun k => bytesOf (f k.toNat)) k) := by
    intro ks
    induction ks with
    | nil => intro _; rfl
    | cons k ks ih =>
      intro h
      obtain ⟨a, b⟩ := h k List.mem_cons_self
      rw [List.map_cons, List.flatMap_cons, List.flatMap_cons, bytes_app, bytes_app, one_bytes l0 p f a b, ih (fun k hk => h k (List.mem_cons_of_mem _ hk))]
  cases ks with
  | nil => rfl
  | cons k ks =>
    obtain ⟨a, b⟩ := h k List.mem_cons_self
    rw [List.map_cons, joinPc, bytes_app, one_bytes l0 p f a b, go ks (fun k hk => h k (List.mem_cons_of_mem _ hk))]
    rfl

end Go.Proofs.YtghhnnbbjlipcaaGreatDoor.X
set_option linter.unusedVariables false
set_option linter.unusedSimpArgs false
namespace Go.Proofs.YtghhnnbbjlipcaaGreatDoor.X
open Go.RowKit
theorem part_bytes (l0 : List P.Pt) (p : P.Pt) (f : Nat → List Piece) (hk : ∀ k ∈ p.f3, 0 ≤ k ∧ k < (l0.length : Int)) : bytesOf (partPc (toPDs l0) (toPD p) f) = P.partT l0 p (fun k => bytesOf (f k.toNat)) := by
  have hj := fun sep => join_bytes l0 p sep f p.f3 hk
  have hq := quote_same p.f1
  unfold partPc P.partT
  by_cases h : p.f0 = 1
  · rw [if_pos (show (toPD p).kind = 1 from h), if_pos h]; rfl
  rw [if_neg (show ¬ (toPD p).kind = 1 from h), if_neg h]; clear h
  by_cases h : p.f0 = 2
  · rw [if_pos (show (toPD p).kind = 2 from h), if_pos h]; rfl
  rw [if_neg (show ¬ (toPD p).kind = 2 from h), if_neg h]; clear h
  by_cases h : p.f0 = 3
  · rw [if_pos (show (toPD p).kind = 3 from h), if_pos h, bytes_app]
    exact congrArg ([33] ++ ·) (hj [])
  rw [if_neg (show ¬ (toPD p).kind = 3 from h), if_neg h]; clear h
  by_cases h : p.f0 = 4
  · rw [if_pos (show (toPD p).kind = 4 from h), if_pos h]; exact hj _
  rw [if_neg (show ¬ (toPD p).kind = 4 from h), if_neg h]; clear h
  by_cases h : p.f0 = 5
  · rw [if_pos (show (toPD p).kind = 5 from h), if_pos h]; exact hj _
  rw [if_neg (show ¬ (toPD p).kind = 5 from h), if_neg h]; clear h
  by_cases h : p.f0 = 6
  · rw [if_pos (show (toPD p).kind = 6 from h), if_pos h]
    have e : bytesOf [sp, pM (cmpW (toPD p).num), sp] = [32] ++ P.cmpT p.f2 ++ [32] := by simp only [bytesOf, List.flatMap_cons, List.flatMap_nil, Piece.bytes, List.append_nil, List.append_assoc]; rfl
    rw [← e]; exact hj _
  rw [if_neg (show ¬ (toPD p).kind = 6 from h), if_neg h]; clear h
  by_cases h : p.f0 = 7
  · rw [if_pos (show (toPD p).kind = 7 from h), if_pos h]
    by_cases h2 : p.f2 = 0
    · rw [if_pos (show (toPD p).num = 0 from h2), if_pos h2]; exact hj _
    · rw [if_neg (show ¬ (toPD p).num = 0 from h2), if_neg h2]; exact hj _
  rw [if_neg (show ¬ (toPD p).kind = 7 from h), if_neg h]; clear h
  have hsel : ∀ w : Bs, bytesOf (selPc (toPDs l0) (toPD p) f w) = P.selT l0 p (fun k => bytesOf (f k.toNat)) w := fun w => by
    unfold selPc P.selT
    rw [bytes_app, bytes_app, hq]
    have := hj []
    rw [show (toPD p).kids = p.f3.map Int.toNat from rfl, this]
    simp only [bytesOf, List.flatMap_cons, List.flatMap_nil, Piece.bytes, List.append_nil, List.append_assoc, List.cons_append, List.nil_append]
    rfl
  by_cases h : p.f0 = 8
  · rw [if_pos (show (toPD p).kind = 8 from h), if_pos h]; exact hsel _
  rw [if_neg (show ¬ (toPD p).kind = 8 from h), if_neg h]; clear h
  by_cases h : p.f0 = 9
  · rw [if_pos (show (toPD p).kind = 9 from h), if_pos h]; exact hsel _
  rw [if_neg (show ¬ (toPD p).kind = 9 from h), if_neg h]; clear h
  by_cases h : p.f0 = 20
  · rw [if_pos (show (toPD p).kind = 20 from h), if_pos h]; exact hsel _
  rw [if_neg (show ¬ (toPD p).kind = 20 from h), if_neg h]; clear h
  unfold termPc P.termT
  rw [hq]
  have simpB : ∀ L : List Piece, bytesOf L = L.flatMap Piece.bytes := fun L => rfl
  by_cases h : p.f0 = 10
  · rw [if_pos (show (toPD p).kind = 10 from h), if_pos h]; simp only [bytesOf, List.flatMap_cons, List.flatMap_nil, Piece.bytes, List.append_nil, List.append_assoc, List.cons_append, List.nil_append]; rfl
  rw [if_neg (show ¬ (toPD p).kind = 10 from h), if_neg h]; clear h
  by_cases h : p.f0 = 11
  · rw [if_pos (show (toPD p).kind = 11 from h), if_pos h]; simp only [bytesOf, List.flatMap_cons, List.flatMap_nil, Piece.bytes, List.append_nil]; rfl
  rw [if_neg (show ¬ (toPD p).kind = 11 from h), if_neg h]; clear h
  by_cases h : p.f0 = 12
  · rw [if_pos (show (toPD p).kind = 12 from h), if_pos h]; simp only [bytesOf, List.flatMap_cons, List.flatMap_nil, Piece.bytes, List.append_nil]; rfl
  rw [if_neg (show ¬ (toPD p).kind = 12 from h), if_neg h]; clear h
  by_cases h : p.f0 = 13
  · rw [if_pos (show (toPD p).kind = 13 from h), if_pos h, bytes_app, bytes_app]
    rw [show (toPD p).kids = p.f3.map Int.toNat from rfl, hj]
    rfl
  rw [if_neg (show ¬ (toPD p).kind = 13 from h), if_neg h]; clear h
  by_cases h : p.f0 = 14
  · rw [if_pos (show (toPD p).kind = 14 from h), if_pos h]; simp only [bytesOf, List.flatMap_cons, List.flatMap_nil, Piece.bytes, List.append_nil, List.append_assoc, List.cons_append, List.nil_append]; rfl
  rw [if_neg (show ¬ (toPD p).kind = 14 from h), if_neg h]; clear h
  by_cases h : p.f0 = 15
  · rw [if_pos (show (toPD p).kind = 15 from h), if_pos h]; simp only [bytesOf, List.flatMap_cons, List.flatMap_nil, Piece.bytes, List.append_nil, List.append_assoc, List.cons_append, List.nil_append]; rfl
  rw [if_neg (show ¬ (toPD p).kind = 15 from h), if_neg h]; clear h
  by_cases h : p.f0 = 16
  · rw [if_pos (show (toPD p).kind = 16 from h), if_pos h]; simp only [bytesOf, List.flatMap_cons, List.flatMap_nil, Piece.bytes, List.append_nil, List.append_assoc, List.cons_append, List.nil_append]; rfl
  rw [if_neg (show ¬ (toPD p).kind = 16 from h), if_neg h]; clear h
  by_cases h : p.f0 = 17
  · rw [if_pos (show (toPD p).kind = 17 from h), if_pos h]; simp only [bytesOf, List.flatMap_cons, List.flatMap_nil, Piece.bytes, List.append_nil, List.append_assoc, List.cons_append, List.nil_append]; rfl
  rw [if_neg (show ¬ (toPD p).kind = 17 from h), if_neg h]; clear h
  by_cases h : p.f0 = 18
  · rw [if_pos (show (toPD p).kind = 18 from h), if_pos h]; simp only [bytesOf, List.flatMap_cons, List.flatMap_nil, Piece.bytes, List.append_nil, List.append_assoc, List.cons_append, List.nil_append]; rfl
  rw [if_neg (show ¬ (toPD p).kind = 18 from h), if_neg h]; clear h
  by_cases h : p.f0 = 19
  · rw [if_pos (show (toPD p).kind = 19 from h), if_pos h, bytes_app, bytes_app]
    have := hj []
    rw [show (toPD p).kids = p.f3.map Int.toNat from rfl, this]
    rfl
  rw [if_neg (show ¬ (toPD p).kind = 19 from h), if_neg h]; rfl

/-! ### Parts that fit -/
theorem fit_of (l0 : List P.Pt) {j : Nat} (hj : j < l0.length) (h : P.PartAt l0 j) : Fit (toPDs l0) (at_ (toPDs l0) j) := by
  rw [rd_at l0 hj]
  have hk0 := h.kids
  have hcl := h.class_
  have hfit := h.fit
  have hkat : ∀ k ∈ (P.rd_T45 l0 (j : Int)).f3, at_ (toPDs l0) k.toNat = toPD (P.rd_T45 l0 k) := fun k hk => by
    obtain ⟨a, b⟩ := hk0 k hk
    have := rd_at l0 (j := k.toNat) (by omega)
    rw [this, show ((k.toNat : Nat) : Int) = k by omega]
  generalize P.rd_T45 l0 (j : Int) = p at hk0 hcl hfit hkat
  simp only [P.partFitsB, Bool.and_eq_true, decide_eq_true_eq, Bool.or_eq_true, beq_iff_eq] at hfit
  obtain ⟨⟨f1, f2, f3⟩, f4, f5⟩ := hfit
  have kids_of : ∀ (Pr : Int → Prop), (∀ k ∈ p.f3, Pr (P.rd_T45 l0 k).f0) → ∀ k ∈ (toPD p).kids, Pr (at_ (toPDs l0) k).kind := fun Pr hp k hk => by
    obtain ⟨y, hy, rfl⟩ := List.mem_map.1 hk
    rw [hkat y hy]; exact hp y hy
  have hlen : (toPD p).kids.length = p.f3.length := by simp [toPD]
  refine ⟨f1, ?_, ?_, ?_, ?_, ?_, ?_, ?_, ?_, ?_, ?_, ?_, ?_, ?_, ?_, ?_⟩
  · show p.f1.data.toList.length ≤ 127
    have : p.f1.data.toList.length = p.f1.size := by simp
    omega
  · intro hn
    rcases f3 with f3 | f3
    · show p.f1.data.toList = []
      have : p.f1.data.toList.length = p.f1.size := by simp
      exact List.eq_nil_of_length_eq_zero (by omega)
    · exact absurd (of_decide_eq_true f3) hn
  · intro e
    have e : p.f0 = 6 := e
    simp [P.numFitsB, e] at f4
    exact f4
  · intro e
    have e : p.f0 = 7 := e
    simp [P.numFitsB, e] at f4
    exact f4
  · intro e
    have e : p.f0 = 12 := e
    simp [P.numFitsB, e] at f4
    exact f4
  · intro e
    have e : 14 ≤ p.f0 ∧ p.f0 ≤ 18 := e
    unfold P.numFitsB at f4
    rw [if_neg (by omega), if_neg (by omega), if_neg (by omega), if_pos (by omega)] at f4
    exact of_decide_eq_true f4
  · intro e
    have e : ¬ (p.f0 = 6 ∨ p.f0 = 7 ∨ p.f0 = 12 ∨ (14 ≤ p.f0 ∧ p.f0 ≤ 18)) := e
    unfold P.numFitsB at f4
    rw [if_neg (by omega), if_neg (by omega), if_neg (by omega), if_neg (by omega)] at f4
    exact eq_of_beq f4
  · intro e
    have e : p.f0 = 3 ∨ p.f0 = 8 ∨ p.f0 = 9 ∨ p.f0 = 19 ∨ p.f0 = 20 := e
    unfold P.kidCountB at f5
    rw [if_pos e] at f5
    rw [hlen]
    have := eq_of_beq f5
    omega
  · intro e
    have e : p.f0 = 4 ∨ p.f0 = 5 := e
    unfold P.kidCountB at f5
    rw [if_neg (by omega), if_pos e] at f5
    rw [hlen]
    have := of_decide_eq_true f5
    omega
  · intro e
    have e : p.f0 = 6 ∨ p.f0 = 7 := e
    unfold P.kidCountB at f5
    rw [if_neg (by omega), if_neg (by omega), if_pos e] at f5
    rw [hlen]
    have := eq_of_beq f5
    omega
  · intro e
    have e : p.f0 = 13 := e
    unfold P.kidCountB at f5
    rw [if_neg (by omega), if_neg (by omega), if_neg (by omega), if_pos e] at f5
    rw [hlen]
    have := of_decide_eq_true f5
    omega
  · intro e
    have e : ¬ (p.f0 = 3 ∨ p.f0 = 4 ∨ p.f0 = 5 ∨ p.f0 = 6 ∨ p.f0 = 7 ∨ p.f0 = 8 ∨ p.f0 = 9 ∨ p.f0 = 13 ∨ p.f0 = 19 ∨ p.f0 = 20) := e
    unfold P.kidCountB at f5
    rw [if_neg (by omega), if_neg (by omega), if_neg (by omega), if_neg (by omega)] at f5
    have := eq_of_beq f5
    exact List.eq_nil_of_length_eq_zero (by rw [hlen]; omega)
  · intro e
    have e : p.f0 = 3 ∨ p.f0 = 4 ∨ p.f0 = 5 ∨ p.f0 = 8 ∨ p.f0 = 9 ∨ p.f0 = 20 := e
    refine kids_of condK (fun k hk => ?_)
    have := hcl k hk
    unfold P.kidFitsB at this
    rw [if_pos e] at this
    have h2 : 1 ≤ (P.rd_T45 l0 k).f0 ∧ (P.rd_T45 l0 k).f0 ≤ 10 := of_decide_eq_true this
    exact h2
  · intro e
    have e : p.f0 = 13 := e
    refine kids_of (fun x => x = 11 ∨ x = 12) (fun k hk => ?_)
    have := hcl k hk
    unfold P.kidFitsB at this
    rw [if_neg (by omega), if_pos e] at this
    simpa using this
  · intro e
    have e : p.f0 = 6 ∨ p.f0 = 7 ∨ p.f0 = 19 := e
    refine kids_of termK (fun k hk => ?_)
    have := hcl k hk
    unfold P.kidFitsB at this
    rw [if_neg (by omega), if_neg (by omega)] at this
    have h2 : 11 ≤ (P.rd_T45 l0 k).f0 ∧ (P.rd_T45 l0 k).f0 ≤ 20 := of_decide_eq_true this
    exact h2

end Go.Proofs.YtghhnnbbjlipcaaGreatDoor.X
set_option linter.unusedVariables false
set_option linter.unusedSimpArgs false
namespace Go.Proofs.YtghhnnbbjlipcaaGreatDoor.X
open Go.RowKit
theorem toPD_len (p : P.Pt) : (toPD p).kids.length = p.f3.length := by simp [toPD]
theorem shape_of {l0 : List P.Pt} {j : Nat} (h : P.PartAt l0 j) : shapeB (toPD (P.rd_T45 l0 (j : Int))).kind (toPD (P.rd_T45 l0 (j : Int))).kids.length = true := by
  have hfit := h.fit
  generalize P.rd_T45 l0 (j : Int) = p at hfit
  simp only [P.partFitsB, Bool.and_eq_true] at hfit
  have f5 := hfit.2.2
  rw [toPD_len]
  show shapeB p.f0 p.f3.length = true
  unfold P.kidCountB at f5
  unfold shapeB
  split
  · rename_i h1; rw [if_pos h1] at f5; have := eq_of_beq f5; simp; omega
  rename_i h1
  rw [if_neg h1] at f5
  split
  · rename_i h2; rw [if_pos h2] at f5; have := of_decide_eq_true f5; simp; omega
  rename_i h2
  rw [if_neg h2] at f5
  split
  · rename_i h3; rw [if_pos h3] at f5; have := eq_of_beq f5; simp; omega
  rename_i h3
  rw [if_neg h3] at f5
  split
  · rename_i h4; rw [if_pos h4] at f5; have := of_decide_eq_true f5; simp; omega
  rename_i h4
  rw [if_neg h4] at f5
  have := eq_of_beq f5
  rw [beq_iff_eq]; omega
/-- The stack of the show seat is the stack of the parse seat. -/
theorem form_run {l0 : List P.Pt} (hS : P.Shape l0) : ∀ (d i : Nat) (free : List Int), d = l0.length - i → i ≤ l0.length → (∀ y ∈ free, 0 ≤ y) → P.formGo l0 (l0.drop i) i free = none → ∃ r, runF (free.map Int.toNat) i ((toPDs l0).drop i) = some [r]
  | 0, i, free, hd, hi, h0, h => by
    obtain rfl : i = l0.length := by omega
    rw [List.drop_length] at h
    simp only [P.formGo] at h
    have hl : free.length = 1 := by
      cases hc : (P.condB (P.rd_T45 l0 (l0.length - 1 : Int)).f0 && (free.length == 1)) with
      | false => rw [hc] at h; simp at h
      | true => rw [Bool.and_eq_true] at hc; exact eq_of_beq hc.2
    have e : (toPDs l0).drop l0.length = [] := List.drop_eq_nil_of_le (by simp)
    rw [e]
    match free, hl with
    | [y], _ => exact ⟨y.toNat, rfl⟩
  | d + 1, i, free, hd, hi, h0, h => by
    have hlt : i < l0.length := by omega
    cases hs : P.stepB l0 (P.rd_T45 l0 (i : Int)) free with
    | false => rw [P.formGo_no l0 i free hlt hs] at h; cases h
    | true =>
      rw [P.formGo_yes l0 i free hlt hs] at h
      have hs' := hs
      simp only [P.stepB, Bool.and_eq_true, beq_iff_eq, decide_eq_true_eq] at hs'
      obtain ⟨⟨⟨s1, s2⟩, s3⟩, s4⟩ := hs'
      have hlt2 : i < (toPDs l0).length := by simpa using hlt
      have hat : (toPDs l0)[i]'hlt2 = toPD (P.rd_T45 l0 (i : Int)) := by
        have := rd_at l0 hlt
        rw [at_, List.getD_eq_getElem?_getD, List.getElem?_eq_getElem hlt2] at this
        exact this
      rw [List.drop_eq_getElem_cons hlt2, hat]
      have hfit : fitsP (free.map Int.toNat) (toPD (P.rd_T45 l0 (i : Int))) := by
        refine ⟨by rw [toPD_len, List.length_map]; exact s2, ?_, (fit_of l0 hlt (hS.parts i hlt)).text |> fun h => by rw [rd_at l0 hlt] at h; exact h, shape_of (hS.parts i hlt)⟩
        rw [List.length_map, toPD_len, ← List.map_drop, ← s3]; rfl
      simp only [runF, stepF, if_pos hfit]
      rw [List.length_map, toPD_len]
      have hmap : (free.map Int.toNat).take (free.length - (P.rd_T45 l0 (i : Int)).f3.length) ++ [i] = (P.stepF (P.rd_T45 l0 (i : Int)) i free).map Int.toNat := by
        unfold P.stepF
        rw [List.map_append, List.map_take]; rfl
      rw [hmap]
      refine form_run hS d (i + 1) _ (by omega) (by omega) (fun y hy => ?_) h
      rcases List.mem_append.1 hy with hy | hy
      · exact h0 y (List.mem_of_mem_take hy)
      · have := List.mem_singleton.1 hy; omega
theorem shape_run {l0 : List P.Pt} (h : P.formSpec l0 = none) : ∃ r, runF [] 0 (toPDs l0) = some [r] := by
  have hS := P.formSpec_shape l0 h
  have hg : P.formGo l0 l0 0 [] = none := by
    unfold P.formSpec at h
    have h0 := hS.pos
    have h1 := hS.few
    rwa [if_neg (by omega), if_neg (by omega)] at h
  have := form_run hS l0.length 0 [] rfl (Nat.zero_le _) (by simp) (by simpa using hg)
  simpa using this

/-! ### Pieces -/
theorem partPc_congr (ps : List PD) (p : PD) (f g : Nat → List Piece) (h : ∀ k ∈ p.kids, f k = g k) : partPc ps p f = partPc ps p g := by
  have hj : ∀ sep, joinPc ps p sep f p.kids = joinPc ps p sep g p.kids := fun sep => by
    have go : ∀ ks : List Nat, (∀ k ∈ ks, f k = g k) → ks.flatMap (fun k => sep ++ onePc ps p f k) = ks.flatMap (fun k => sep ++ onePc ps p g k) := by
      intro ks
      induction ks with
      | nil => intro _; rfl
      | cons k ks ih =>
        intro hk
        rw [List.flatMap_cons, List.flatMap_cons, ih (fun x hx => hk x (List.mem_cons_of_mem _ hx))]
        unfold onePc
        rw [hk k List.mem_cons_self]
    cases hks : p.kids with
    | nil => rfl
    | cons k ks =>
      rw [hks] at h
      simp only [joinPc]
      rw [go ks (fun x hx => h x (List.mem_cons_of_mem _ hx))]
      unfold onePc
      rw [h k List.mem_cons_self]
  simp only [partPc, termPc, selPc, hj]
def pcN (ps : List PD) : Nat → Nat → List Piece
  | 0, _ => []
  | n + 1, j => partPc ps (at_ ps j) (pcN ps n)
theorem pcN_stable {ps : List PD} (hk : ∀ j, j < ps.length → ∀ k ∈ (at_ ps j).kids, k < j) : ∀ (n m j : Nat), j < n → j < m → j < ps.length → pcN ps n j = pcN ps m j
  | 0, _, _, h, _, _ => absurd h (Nat.not_lt_zero _)
  | _, 0, _, _, h, _ => absurd h (Nat.not_lt_zero _)
  | n + 1, m + 1, j, hn, hm, hj => by
    simp only [pcN]
    refine partPc_congr ps _ _ _ (fun k hkk => ?_)
    have := hk j hj k hkk
    exact pcN_stable hk n m k (by omega) (by omega) (by omega)
def pcF (ps : List PD) (j : Nat) : List Piece := pcN ps (j + 1) j
theorem pcF_eq {ps : List PD} (hk : ∀ j, j < ps.length → ∀ k ∈ (at_ ps j).kids, k < j) (j : Nat) (hj : j < ps.length) : pcF ps j = partPc ps (at_ ps j) (pcF ps) := by
  show partPc ps (at_ ps j) (pcN ps j) = _
  refine partPc_congr ps _ _ _ (fun k hkk => ?_)
  have := hk j hj k hkk
  exact pcN_stable hk j (k + 1) k this (by omega) (by omega)

/-! ### Nests -/
theorem fold_out (l0 : List P.Pt) (p : P.Pt) (below : Int) : ∀ (ks : List Int) (out : List Int) (x : Nat), (∀ k ∈ ks, k.toNat ≠ x) → (ks.foldl (P.kidNest l0 p below) out)[x]? = out[x]?
  | [], out, x, _ => rfl
  | k :: ks, out, x, h => by
    rw [List.foldl_cons, fold_out l0 p below ks _ x (fun y hy => h y (List.mem_cons_of_mem _ hy))]
    unfold P.kidNest
    rw [List.getElem?_set_ne (h k List.mem_cons_self)]
theorem fold_in (l0 : List P.Pt) (p : P.Pt) (below : Int) : ∀ (ks : List Int) (out : List Int) (k : Int), k ∈ ks → k.toNat < out.length → (∀ y ∈ ks, 0 ≤ y) → (ks.foldl (P.kidNest l0 p below) out)[k.toNat]? = some (below + (if P.brackB p.f0 (P.rd_T45 l0 k).f0 then 1 else 0))
  | [], out, k, h, _, _ => by cases h
  | y :: ks, out, k, h, hl, h0 => by
    rw [List.foldl_cons]
    by_cases hm : k ∈ ks
    · exact fold_in l0 p below ks _ k hm (by rw [P.kidNest_len]; exact hl) (fun z hz => h0 z (List.mem_cons_of_mem _ hz))
    · have e : k = y := by
        rcases List.mem_cons.1 h with h | h
        · exact h
        · exact absurd h hm
      subst e
      rw [fold_out l0 p below ks _ k.toNat (fun z hz e => hm (by
        have a := h0 z (List.mem_cons_of_mem _ hz)
        have b := h0 k List.mem_cons_self
        have : z = k := by omega
        rw [← this]; exact hz))]
      unfold P.kidNest
      rw [List.getElem?_set_self hl]
/-- Kids of parts ahead of i: who is none of them keeps its nest. -/
theorem nests_out (l0 : List P.Pt) : ∀ (i : Nat) (out : List Int) (x : Nat), (∀ j, j < i → ∀ k ∈ (P.rd_T45 l0 (j : Int)).f3, k.toNat ≠ x) → (P.nestsGo l0 i out)[x]? = out[x]?
  | 0, out, x, _ => rfl
  | i + 1, out, x, h => by
    rw [P.nestsGo, nests_out l0 i _ x (fun j hj => h j (by omega)), fold_out l0 _ _ _ _ x (h i (by omega))]
theorem nests_rel (l0 : List P.Pt) (hS : P.Shape l0) (hdis : ∀ j j' : Nat, j < j' → j' < l0.length → ∀ k ∈ (P.rd_T45 l0 (j' : Int)).f3, k ∉ (P.rd_T45 l0 (j : Int)).f3) :
    ∀ (i : Nat) (out : List Int), i ≤ l0.length → out.length = l0.length → ∀ j, j < i → ∀ k ∈ (P.rd_T45 l0 (j : Int)).f3,
      (P.nestsGo l0 i out).getD k.toNat 0 = (P.nestsGo l0 i out).getD j 0 + P.roundB (P.rd_T45 l0 (j : Int)).f0 + (if P.brackB (P.rd_T45 l0 (j : Int)).f0 (P.rd_T45 l0 k).f0 then 1 else 0)
  | 0, out, hi, hl, j, hj, k, hk => absurd hj (Nat.not_lt_zero _)
  | i + 1, out, hi, hl, j, hj, k, hk => by
    rw [P.nestsGo]
    rcases Nat.lt_or_ge j i with h1 | h1
    · exact nests_rel l0 hS hdis i _ (by omega) (by rw [P.foldl_len]; exact hl) j h1 k hk
    · obtain rfl : j = i := by omega
      have hP := hS.parts j (by omega)
      obtain ⟨k0, k1⟩ := hP.kids k hk
      have e1 := nests_out l0 j ((P.rd_T45 l0 (j : Int)).f3.foldl (P.kidNest l0 (P.rd_T45 l0 (j : Int)) (out.getD j 0 + P.roundB (P.rd_T45 l0 (j : Int)).f0)) out) k.toNat (fun j' hj' y hy e => by
        obtain ⟨y0, _⟩ := (hS.parts j' (by omega)).kids y hy
        have : y = k := by omega
        subst this
        exact hdis j' j hj' (by omega) y hk hy)
      have e2 := nests_out l0 j ((P.rd_T45 l0 (j : Int)).f3.foldl (P.kidNest l0 (P.rd_T45 l0 (j : Int)) (out.getD j 0 + P.roundB (P.rd_T45 l0 (j : Int)).f0)) out) j (fun j' hj' y hy e => by
        obtain ⟨y0, y1⟩ := (hS.parts j' (by omega)).kids y hy
        omega)
      rw [fold_in l0 _ _ _ out k hk (by omega) (fun y hy => (hP.kids y hy).1)] at e1
      rw [fold_out l0 _ _ _ out j (fun y hy => by have := hP.kids y hy; omega)] at e2
      have g1 := (List.getD_eq_getElem?_getD (l := P.nestsGo l0 j ((P.rd_T45 l0 (j : Int)).f3.foldl (P.kidNest l0 (P.rd_T45 l0 (j : Int)) (out.getD j 0 + P.roundB (P.rd_T45 l0 (j : Int)).f0)) out)) (i := k.toNat) (a := 0)).trans (congrArg (fun o => Option.getD o 0) e1)
      have g2 := (List.getD_eq_getElem?_getD (l := P.nestsGo l0 j ((P.rd_T45 l0 (j : Int)).f3.foldl (P.kidNest l0 (P.rd_T45 l0 (j : Int)) (out.getD j 0 + P.roundB (P.rd_T45 l0 (j : Int)).f0)) out)) (i := j) (a := 0)).trans ((congrArg (fun o => Option.getD o 0) e2).trans List.getD_eq_getElem?_getD.symm)
      rw [g1, g2]
      rfl
theorem deep_le : ∀ (ns : List Int) (i : Nat), P.deepGo ns i = none → ∀ n ∈ ns, n ≤ 32
  | [], _, _, n, h => by cases h
  | x :: ns, i, h, n, hn => by
    simp only [P.deepGo] at h
    split at h
    · cases h
    · rcases List.mem_cons.1 hn with rfl | hn
      · omega
      · exact deep_le ns (i + 1) h n hn
theorem valid_parts {l0 : List P.Pt} (h : P.validSpec l0 = none) : P.formSpec l0 = none ∧ ∀ n ∈ P.nestsSpec l0, n ≤ 32 := by
  unfold P.validSpec at h
  cases hf : P.formSpec l0 with
  | some f => rw [hf] at h; cases h
  | none => rw [hf] at h; exact ⟨rfl, deep_le _ _ h⟩
/-- A valid tree's context. -/
theorem valid_ctx {l0 : List P.Pt} (h : P.validSpec l0 = none) : Ctx (toPDs l0) (pcF (toPDs l0)) (fun j => ((P.nestsSpec l0).getD j 0).toNat) ∧ Sub (toPDs l0) 0 (l0.length - 1) ∧ ((P.nestsSpec l0).getD (l0.length - 1) 0).toNat = 0 ∧ condK (at_ (toPDs l0) (l0.length - 1)).kind := by
  obtain ⟨hf, h32⟩ := valid_parts h
  have hS := P.formSpec_shape l0 hf
  have hpos := hS.pos
  obtain ⟨r, hr⟩ := shape_run hf
  obtain ⟨hkl, hdj⟩ := tree_disj hr
  obtain ⟨hsub, hr1⟩ := sub_of_run hr
  have hlen : (toPDs l0).length = l0.length := List.length_map _
  rw [hlen] at hkl hdj hr1
  have er : r = l0.length - 1 := by omega
  have kid_mem : ∀ j, j < l0.length → ∀ k ∈ (P.rd_T45 l0 (j : Int)).f3, k.toNat ∈ (at_ (toPDs l0) j).kids := fun j hj k hk => by
    rw [rd_at l0 hj]; exact List.mem_map_of_mem hk
  have hdis : ∀ j j' : Nat, j < j' → j' < l0.length → ∀ k ∈ (P.rd_T45 l0 (j' : Int)).f3, k ∉ (P.rd_T45 l0 (j : Int)).f3 := fun j j' h1 h2 k hk hk2 =>
    hdj j j' h1 h2 k.toNat (kid_mem j' h2 k hk) (kid_mem j (by omega) k hk2)
  obtain ⟨hw, hnl⟩ := P.nestsSpec_within l0 hS.few
  have hge : ∀ j, 0 ≤ (P.nestsSpec l0).getD j 0 := fun j => (hw.getD (by omega) j).1
  have hle : ∀ j, (P.nestsSpec l0).getD j 0 ≤ 32 := fun j => by
    rw [List.getD_eq_getElem?_getD]
    cases e : (P.nestsSpec l0)[j]? with
    | none => simp
    | some y => exact h32 y (List.mem_of_getElem? e)
  refine ⟨⟨⟨fun i hi => fit_of l0 (by rw [← hlen]; exact hi) (hS.parts i (by rw [← hlen]; exact hi)), fun i hi => pcF_eq (by rw [hlen]; exact hkl) i hi⟩, by rw [hlen]; exact hS.few, fun j hj k hk => ?_, fun j hj => by have := hle j; have := hge j; omega⟩, er ▸ hsub, ?_, ?_⟩
  · rw [hlen] at hj
    rw [rd_at l0 hj] at hk ⊢
    obtain ⟨y, hy, rfl⟩ := List.mem_map.1 hk
    obtain ⟨y0, y1⟩ := (hS.parts j hj).kids y hy
    have := nests_rel l0 hS hdis l0.length (List.replicate l0.length 0) (Nat.le_refl _) (by simp) j hj y hy
    have e : at_ (toPDs l0) y.toNat = toPD (P.rd_T45 l0 y) := by
      have := rd_at l0 (j := y.toNat) (by omega)
      rw [this, show ((y.toNat : Nat) : Int) = y by omega]
    rw [e]
    have hn1 := hge y.toNat
    have hn2 := hge j
    have this : (P.nestsSpec l0).getD y.toNat 0 = (P.nestsSpec l0).getD j 0 + P.roundB (P.rd_T45 l0 (j : Int)).f0 + (if P.brackB (P.rd_T45 l0 (j : Int)).f0 (P.rd_T45 l0 y).f0 then 1 else 0) := this
    show ((P.nestsSpec l0).getD y.toNat 0).toNat = ((P.nestsSpec l0).getD j 0).toNat + rnd (P.rd_T45 l0 (j : Int)).f0 + (if brB (P.rd_T45 l0 (j : Int)).f0 (P.rd_T45 l0 y).f0 then 1 else 0)
    have hrb : P.roundB (P.rd_T45 l0 (j : Int)).f0 = ((rnd (P.rd_T45 l0 (j : Int)).f0 : Nat) : Int) := by unfold P.roundB rnd; split <;> rfl
    rw [hrb] at this
    rw [brB_same] at this
    split at this <;> rename_i hb <;> simp only [hb, if_true, if_false, Bool.false_eq_true] <;> omega
  · have := nests_out l0 l0.length (List.replicate l0.length 0) (l0.length - 1) (fun j hj k hk e => by
      obtain ⟨k0, k1⟩ := (hS.parts j hj).kids k hk
      omega)
    show ((P.nestsGo l0 l0.length (List.replicate l0.length 0)).getD (l0.length - 1) 0).toNat = 0
    rw [List.getD_eq_getElem?_getD, this, List.getElem?_replicate]
    split <;> rfl
  · rw [rd_at l0 (by omega)]
    have hrt := hS.root
    rw [show ((l0.length : Int) - 1) = ((l0.length - 1 : Nat) : Int) by omega] at hrt
    have h2 : 1 ≤ (P.rd_T45 l0 ((l0.length - 1 : Nat) : Int)).f0 ∧ (P.rd_T45 l0 ((l0.length - 1 : Nat) : Int)).f0 ≤ 10 := of_decide_eq_true hrt
    exact h2
theorem txt_bytes {l0 : List P.Pt} (hS : P.Shape l0) (hk : ∀ j, j < (toPDs l0).length → ∀ k ∈ (at_ (toPDs l0) j).kids, k < j) : ∀ j, j < l0.length → bytesOf (pcF (toPDs l0) j) = P.txt l0 (j : Int) := by
  intro j
  induction j using Nat.strongRecOn with
  | _ j ih =>
    intro hj
    have hP := hS.parts j hj
    rw [pcF_eq hk j (by rw [List.length_map]; exact hj), rd_at l0 hj, part_bytes l0 _ _ (fun k hkk => by have := hP.kids k hkk; omega), P.txt_eq l0 hS j hj]
    refine P.partT_congr l0 _ _ _ (fun k hkk => ?_)
    obtain ⟨k0, k1⟩ := hP.kids k hkk
    have := ih k.toNat (by omega) (by omega)
    rw [this, show ((k.toNat : Nat) : Int) = k by omega]
/-- The text of a valid tree, as long as it is short enough, reads as that tree. -/
theorem valid_reads {l0 : List P.Pt} (h : P.validSpec l0 = none) (hl : (P.txt l0 ((l0.length - 1 : Nat) : Int)).length ≤ 4096) : ∃ offs, parseL (P.txt l0 ((l0.length - 1 : Nat) : Int)) = .ok (toPDs l0, offs) := by
  obtain ⟨X, hsub, h0, hc⟩ := valid_ctx h
  obtain ⟨hf, h32⟩ := valid_parts h
  have hS := P.formSpec_shape l0 hf
  have hpos := hS.pos
  obtain ⟨r, hr⟩ := shape_run hf
  have hb := txt_bytes hS (tree_disj hr).1 (l0.length - 1) (by omega)
  rw [← hb] at hl ⊢
  exact text_reads X hsub (by rw [List.length_map]; omega) hc h0 hl

end Go.Proofs.YtghhnnbbjlipcaaGreatDoor.X
