/-
  Plain law of LexBack: what Quote writes stands for its text.
-/
import Derived.Test.YtghhnnbbjlipcaaDoorLexCo
import Derived.Test.YtghhnnbbjlipcaaDoorLexQ
set_option linter.unusedVariables false
set_option linter.unusedSimpArgs false
namespace Go.Proofs.YtghhnnbbjlipcaaDoor.X
theorem hex_all : ∀ n : Fin 256, hexB (hexT (n.val.toUInt8 / 16)) = true ∧ hexB (hexT (n.val.toUInt8 % 16)) = true ∧ 16 * hexV (hexT (n.val.toUInt8 / 16)) + hexV (hexT (n.val.toUInt8 % 16)) = n.val.toUInt8 := by decide +kernel
theorem hex_back (c : UInt8) : hexB (hexT (c / 16)) = true ∧ hexB (hexT (c % 16)) = true ∧ 16 * hexV (hexT (c / 16)) + hexV (hexT (c % 16)) = c := by
  have := hex_all ⟨c.toNat, c.toNat_lt⟩
  simpa using this
theorem qB_all : ∀ n : Fin 256, (qB n.val.toUInt8).all (fun b => 32 ≤ b && b ≤ 126) = true ∧ (qB n.val.toUInt8).length ≤ 4 := by decide +kernel
theorem qB_fine (c : UInt8) : (∀ b ∈ qB c, 32 ≤ b ∧ b ≤ 126) ∧ (qB c).length ≤ 4 := by
  have := qB_all ⟨c.toNat, c.toNat_lt⟩
  simp only [UInt8.ofNat_toNat, Nat.toUInt8] at this
  refine ⟨fun b hb => ?_, this.2⟩
  have := List.all_eq_true.1 this.1 b hb
  simpa using this
theorem qAll_fine : ∀ l : Bs, (∀ b ∈ qAll l, 32 ≤ b ∧ b ≤ 126) ∧ (qAll l).length ≤ 4 * l.length
  | [] => ⟨fun b hb => by simp [qAll] at hb, by simp [qAll]⟩
  | c :: l => by
    obtain ⟨h1, h2⟩ := qAll_fine l
    obtain ⟨k1, k2⟩ := qB_fine c
    refine ⟨fun b hb => ?_, by simp only [qAll, List.length_append, List.length_cons]; omega⟩
    rcases List.mem_append.1 hb with h | h
    · exact k1 b h
    · exact h1 b h
theorem quote_fine (l : Bs) : ∀ b ∈ quoteL l, 32 ≤ b ∧ b ≤ 126 := by
  intro b hb
  rcases List.mem_cons.1 hb with rfl | hb
  · decide
  rcases List.mem_append.1 hb with h | h
  · exact (qAll_fine l).1 b h
  · rw [List.mem_singleton.1 h]; decide
theorem qB_read (c : UInt8) (x : Bs) (off : Nat) (acc : Bs) : strL (qB c ++ x) off acc = strL x (off + (qB c).length) (acc ++ [c]) := by
  unfold qB
  by_cases c1 : c = 34 ∨ c = 92
  · simp only [if_pos c1, List.cons_append, List.nil_append]
    rw [strL_cons, if_neg (by decide), if_neg (by decide), if_pos rfl]
    simp only [escOf, if_pos c1]
    rfl
  simp only [if_neg c1]
  by_cases c2 : c = 10
  · subst c2
    simp only [if_true, List.cons_append, List.nil_append]
    rw [strL_cons, if_neg (by decide), if_neg (by decide), if_pos rfl]
    rfl
  simp only [if_neg c2]
  by_cases c3 : c = 9
  · subst c3
    simp only [if_true, List.cons_append, List.nil_append]
    rw [strL_cons, if_neg (by decide), if_neg (by decide), if_pos rfl]
    rfl
  simp only [if_neg c3]
  by_cases c4 : c = 13
  · subst c4
    simp only [if_true, List.cons_append, List.nil_append]
    rw [strL_cons, if_neg (by decide), if_neg (by decide), if_pos rfl]
    rfl
  simp only [if_neg c4]
  by_cases c5 : c < 32 ∨ 126 < c
  · simp only [if_pos c5, List.cons_append, List.nil_append]
    obtain ⟨h1, h2, h3⟩ := hex_back c
    rw [strL_cons, if_neg (by decide), if_neg (by decide), if_pos rfl]
    simp only [escOf, h1, h2, Bool.and_self, if_true, h3]
    rw [if_neg (by decide), if_neg (by decide), if_neg (by decide), if_neg (by decide)]
    simp only [List.drop_succ_cons, List.drop_zero]
    rfl
  · simp only [if_neg c5, List.cons_append, List.nil_append]
    rw [strL_cons, if_neg (fun e => c1 (.inl e)), if_neg (fun e => c5 (.inl e)), if_neg (fun e => c1 (.inr e))]
    rfl
theorem qAll_read (x : Bs) : ∀ (l : Bs) (off : Nat) (acc : Bs), strL (qAll l ++ 34 :: x) off acc = .done (acc ++ l) (off + (qAll l).length + 1)
  | [], off, acc => by simp [qAll, strL_cons]
  | c :: l, off, acc => by
    simp only [qAll, List.append_assoc]
    rw [qB_read, qAll_read x l]
    simp only [List.length_append, List.append_assoc, List.cons_append, List.nil_append]
    congr 1
    omega
theorem quote_len (l : Bs) : (quoteL l).length = (qAll l).length + 2 := by simp [quoteL]
theorem quote_tok (l x : Bs) : tokAt (quoteL l ++ x) 0 = if 127 < l.length then .error (115, 0) else .ok ⟨1, l, 0, 0, (quoteL l).length⟩ := by
  unfold quoteL
  rw [List.cons_append, tokAt0, if_pos rfl]
  unfold textAt
  have e : (34 :: (qAll l ++ [34] ++ x)).drop (0 + 1) = qAll l ++ 34 :: x := by simp
  rw [e, qAll_read]
  simp only [List.nil_append]
  split
  · rfl
  · simp; omega
theorem unq_quote (l : Bs) : unqL (quoteL l) = if 4096 < (quoteL l).length then .error (110, 4096) else if 127 < l.length then .error (115, 0) else .ok l := by
  unfold unqL
  split
  · rfl
  rw [if_pos (by rfl)]
  have h := quote_tok l []
  rw [List.append_nil] at h
  have h2 : tokAt (quoteL l) 0 = textAt (quoteL l) 0 := by unfold quoteL; rw [tokAt0, if_pos rfl]
  rw [← h2, h]
  split
  · rfl
  · simp only [unqC, Nat.lt_irrefl, if_false]
/-- The tokens of a text between two others. -/
theorem scan_quote (l : Bs) (hl : l.length ≤ 127) : scanL (97 :: (quoteL l ++ [46])) = ([⟨3, [97], 0, 0, 1⟩, ⟨1, l, 0, 1, 1 + (quoteL l).length⟩, ⟨4, [46], 0, 1 + (quoteL l).length, 1 + (quoteL l).length + 1⟩, ⟨0, [], 0, 1 + (quoteL l).length + 1, 1 + (quoteL l).length + 1⟩], none) := by
  have hq := quote_len l
  have hf := (qAll_fine l).2
  have hlen : (97 :: (quoteL l ++ [46]) : Bs).length = 1 + (quoteL l).length + 1 := by simp; omega
  have e1 : (97 :: (quoteL l ++ [46]) : Bs) = [97] ++ (quoteL l ++ [46]) := rfl
  have e2 : (97 :: (quoteL l ++ [46]) : Bs) = (97 :: quoteL l) ++ [46] := rfl
  have hg : ∀ (u r : Bs) (t : Tk), tokAt r 0 = .ok t → ¬ t.kind = 0 → skipN (u ++ r) u.length = u.length := by
    intro u r t h hk
    unfold skipN
    rw [List.drop_left]
    have := tok_no_gap h hk []
    rw [List.append_nil] at this
    rw [this]; rfl
  have t1 : tokAt (97 :: (quoteL l ++ [46])) 0 = .ok ⟨3, [97], 0, 0, 1⟩ := by
    rw [tokAt0, if_neg (by decide), if_neg (by simp [digB]), if_pos (by decide)]
    rfl
  have t2 : tokAt (quoteL l ++ [46]) 0 = .ok ⟨1, l, 0, 0, (quoteL l).length⟩ := by rw [quote_tok, if_neg (by omega)]
  have t3 : tokAt [46] 0 = .ok ⟨4, [46], 0, 0, 1⟩ := by rfl
  have s1 : skipN (97 :: (quoteL l ++ [46])) 0 = 0 := hg [] _ _ t1 (by decide)
  have s2 : skipN (97 :: (quoteL l ++ [46])) 1 = 1 := hg [97] _ _ t2 (by simp)
  have s3 : skipN (97 :: (quoteL l ++ [46])) (1 + (quoteL l).length) = 1 + (quoteL l).length := by
    have := hg (97 :: quoteL l) _ _ t3 (by decide)
    rw [← e2, List.length_cons, Nat.add_comm] at this
    exact this
  have k2 : tokAt (97 :: (quoteL l ++ [46])) 1 = .ok ⟨1, l, 0, 1, 1 + (quoteL l).length⟩ := by
    have := tokAt_shift [97] (quoteL l ++ [46])
    rw [t2] at this
    rw [e1]
    refine this.trans ?_
    simp [shR, shT, Nat.add_comm]
  have k3 : tokAt (97 :: (quoteL l ++ [46])) (1 + (quoteL l).length) = .ok ⟨4, [46], 0, 1 + (quoteL l).length, 1 + (quoteL l).length + 1⟩ := by
    have := tokAt_shift (97 :: quoteL l) [46]
    rw [t3, ← e2, List.length_cons, Nat.add_comm _ 1] at this
    refine this.trans ?_
    simp [shR, shT, Nat.add_comm]
  have hc : Chain (97 :: (quoteL l ++ [46])) (1 + (quoteL l).length + 1) [⟨0, [], 0, 1 + (quoteL l).length + 1, 1 + (quoteL l).length + 1⟩] := by
    have := Chain.fin (l := 97 :: (quoteL l ++ [46])) (1 + (quoteL l).length + 1) (by omega) (by
      unfold skipN
      rw [← hlen, List.drop_length]; simp [gapN])
    rw [hlen] at this
    exact this
  refine chain_prefix (by omega) ?_
  refine .cons 0 _ _ (by omega) (by rw [s1]; exact t1) (by decide) (by rw [s1]) (by decide) (by rw [hlen]; simp only; omega) ?_
  refine .cons _ _ _ (by rw [hlen]; simp only; omega) (by rw [s2]; exact k2) (by simp) (by rw [s2]) (by simp only; omega) (by rw [hlen]; simp only; omega) ?_
  exact .cons _ _ _ (by rw [hlen]; simp only; omega) (by rw [s3]; exact k3) (by simp) (by rw [s3]) (by simp only; omega) (by rw [hlen]; simp only; omega) hc

end Go.Proofs.YtghhnnbbjlipcaaDoor.X
