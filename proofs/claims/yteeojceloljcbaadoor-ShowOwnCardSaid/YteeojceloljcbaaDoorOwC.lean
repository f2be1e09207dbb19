/-
  The walk of ShowOwn: a tree whose text is too long.
-/
import Derived.Test.YteeojceloljcbaaDoorOwN
set_option linter.unusedVariables false
set_option linter.unusedSimpArgs false
namespace Go.Proofs.YteeojceloljcbaaDoor.H
open Go.RowKit Go.Proofs.YteeojceloljcbaaDoorW.PrintWords Go.Proofs.YteeojceloljcbaaDoorW.PrintLast Go.Proofs.YteeojceloljcbaaDoor.P
set_option maxHeartbeats 16000000 in
set_option maxRecDepth 100000 in
theorem own_long (A : Option Addr) (c : Nat) (l0 : List Pt) (w : World) (h : Law w A c l0) (hl : largeB l0 = false) (hn : l0.length ≤ 100000) (hv : validSpec l0 = none) (hts : textSpec l0 = ([], some (131, -1))) :
    Calls Tryd.prog 7 #[.agg #[.slice A l0.length c]] w fun e w' => e = .returned (.bool true) ∧ Below w.heap.size w w' := by
  have HL := Lib.hid h
  have AW := Lib.hid awake_true
  have LC := Lib.hid (own_large_c A c l0)
  have SV := Lib.hid (fun A' c' => show_valid A' c' l0)
  have SN := Lib.hid (fun A' c' => show_nest A' c' l0)
  have ST := Lib.hid (fun A' c' => show_text A' c' l0)
  have RV := Lib.hid (refValid_c A c l0)
  have RC := Lib.hid (fun v W => refusal_c v l0 W)
  have HLG := Lib.hid hl
  rw [hv] at SV SN RV RC
  rw [hts] at ST
  simp only [enc, Option.getD_some, Option.getD_none] at RV RC
  unfold NestAns at SN
  unfold TextAns at ST
  generalize nestOf l0 = nn at *
  clear hv hts
  rw [hl] at LC
  have HW := Lib.hid ((Below.refl w.heap.size w).alloc (Nat.le_refl _) (.cells #[.slice A l0.length c] 24))
  have K0 : Hid ((w.alloc (.cells #[.slice A l0.length c] 24)).heap[w.heap.size]? = some (.cells #[.slice A l0.length c] 24 (0, 0))) := Lib.hid (Go.heap_alloc_new _ _)
  clear h hl
  go_enter Tryd.func7, Tryd.ntmps7
  go_wp2_with fail
  have L0 := Lib.hid (HL.out.below HW.out)
  refine (AW.out _ L0.out.tab L0.out.big).mono ?_
  rintro e w1 ⟨rfl, hB⟩
  have L1 := Lib.hid (L0.out.below hB)
  have B1 := Lib.hid (below_then HW.out HW.out.size hB)
  have K1 := Lib.hid ((hB.block _ (by simp)).trans K0.out)
  have hc1 : w1.cell? ⟨w.heap.size, 0, none⟩ = some (.slice A l0.length c) := pw_cell_below hB (by simp)
  clear hB K0
  go_wp2_with fail
  refine (LC.out _ L1.out).mono ?_
  rintro e w2 ⟨rfl, hB⟩
  have L2 := Lib.hid (L1.out.below hB)
  have B2 := Lib.hid (below_then B1.out B1.out.size hB)
  have K2 := Lib.hid ((hB.block _ (Array.getElem?_eq_some_iff.1 K1.out).1).trans K1.out)
  have hc2 : w2.cell? ⟨w.heap.size, 0, none⟩ = some (.slice A l0.length c) := pw_cell_below hB hc1
  clear hB hc1 K1
  go_wp2_with fail
  go_loopw [3, 4] (fun v i wr => ∃ (k : Nat) (kv : List Value), k ≤ l0.length ∧ i = .int .i64 k ∧ Hid (FullAt wr (w.heap.size + 1) v (l0.take k) kv (l0.take k).length []) ∧ Hid (wr.heap[w.heap.size]? = some (.cells #[.slice A l0.length c] 24 (0, 0)) ∧ Below w.heap.size w wr)) (fun v i _ => l0.length - (intOf i).toNat)
  case atStart => exact ⟨0, [], Nat.zero_le _, rfl, Lib.hid (FullAt.start _ _), Lib.hid ⟨K2.out, B2.out⟩⟩
  case round =>
    obtain ⟨k, kv, hk, rfl, HR, HS⟩ := hrel
    have hrz : w.heap.size < wr.heap.size := (Array.getElem?_eq_some_iff.1 HS.out.1).1
    have c0 : wr.cell? ⟨w.heap.size, 0, none⟩ = some (.slice A l0.length c) := by rw [Lib.cell_of_heap HS.out.1]; rfl
    clear hc2
    by_cases hlt : k < l0.length
    · have hBk : decide (k < l0.length) = true := by simp; omega
      obtain ⟨ad, A3, c3, rfl, e0, e1, e2, e3, l3, g3⟩ := own_part (HL.out.below HS.out.2).tree k hlt _ rfl
      have HT : Hid (l0.take (k + 1) = l0.take k ++ [rd_T45 l0 (k : Int)]) := Lib.hid (by
        rw [List.take_succ_eq_append_getElem hlt]
        simp [rd_T45, List.getD_eq_getElem?_getD, List.getElem?_eq_getElem hlt])
      have hp3 := own_few HLG.out k hlt
      generalize rd_T45 l0 (k : Int) = p at *
      have G3 := Lib.hid g3
      clear g3
      have PB1 : Hid (((wr.alloc (.cells #[.int .i64 p.f0, .string p.f1, .int .i64 p.f2, .slice A3 p.f3.length c3] 45)).alloc (.cells #[] 3)).heap[wr.heap.size]? = some (.cells #[.int .i64 p.f0, .string p.f1, .int .i64 p.f2, .slice A3 p.f3.length c3] 45 (0, 0))) := Lib.hid ((Below.heap_alloc _ _ _ (by simp)).trans (Go.heap_alloc_new _ _))
      have HO1 : Hid (((wr.alloc (.cells #[.int .i64 p.f0, .string p.f1, .int .i64 p.f2, .slice A3 p.f3.length c3] 45)).alloc (.cells #[] 3)).ownsRow wr.heap.size 3 1 (.slice (some ⟨wr.heap.size + 1, 0, none⟩) 0 0) ([] : List Int).length (nums .i64 [])) := Lib.hid (own_nil _ _ (Go.heap_alloc2_new _ _ _) _ (by omega))
      have HB1 : Hid (Below wr.heap.size wr ((wr.alloc (.cells #[.int .i64 p.f0, .string p.f1, .int .i64 p.f2, .slice A3 p.f3.length c3] 45)).alloc (.cells #[] 3))) := Lib.hid (((Below.refl _ _).alloc (Nat.le_refl _) _).alloc (by simp) _)
      have HC1 : Hid (ReadsInt ((wr.alloc (.cells #[.int .i64 p.f0, .string p.f1, .int .i64 p.f2, .slice A3 p.f3.length c3] 45)).alloc (.cells #[] 3)) .i64 A3 p.f3.length p.f3) := Lib.hid ((ints_read (Kd.F_now G3.out)).below HB1.out)
      go_wp2_with (first
        | (at_builtin; go_loud (have B7 : Below wr.heap.size wr ((w5.setCell ⟨wr.heap.size, 3, none⟩ (.slice (some ⟨g2, 0, none⟩) p.f3.length c2)).alloc (.cells #[.int .i64 p.f0, .string p.f1, .int .i64 p.f2, (.slice (some ⟨g2, 0, none⟩) p.f3.length c2)] 45)) := ((B5.out.setCell (p := ⟨wr.heap.size, 3, none⟩) (by simp) _).alloc (by simp; omega) _); have F7 := HR.out.below B7; refine parts_append (w.heap.size + 1) rfl (.tmp 57) (.tmp 59) rfl u3 (l0.take k).length (rowC (l0.take k) kv ++ []) w5.heap.size 1 (partC p (.slice (some ⟨g2, 0, none⟩) p.f3.length c2)) _ rfl rfl ?hx rfl ?hb ?h1 F7.row ?hbase ?hn ?_; (case hx => first | rfl | (simp [Act.eval])); (case hb => have h := Go.heap_alloc_new (w5.setCell ⟨wr.heap.size, 3, none⟩ (.slice (some ⟨g2, 0, none⟩) p.f3.length c2)) (.cells #[.int .i64 p.f0, .string p.f1, .int .i64 p.f2, (.slice (some ⟨g2, 0, none⟩) p.f3.length c2)] 45); simpa using h); (case h1 => intro u hu; simp only [partC, List.mem_cons, List.not_mem_nil, or_false] at hu; rcases hu with rfl | rfl | rfl | rfl <;> rfl); (case hbase => simp; omega); (case hn => simp; omega); intro v3 w8 hown hg8 hat8; have HK7 := ((KS5.out.kept (grown_set w5 ⟨wr.heap.size, 3, none⟩ (.slice (some ⟨g2, 0, none⟩) p.f3.length c2)) (by simp [Value.ownBlock]; exact GZ)).kept (World.grownBy_alloc _ (.cells #[.int .i64 p.f0, .string p.f1, .int .i64 p.f2, (.slice (some ⟨g2, 0, none⟩) p.f3.length c2)] 45) none) (by simp [Value.ownBlock])).mono (show w.heap.size + 1 ≤ wr.heap.size by omega); have hput := F7.put p (.slice (some ⟨g2, 0, none⟩) p.f3.length c2) HK7 (fun e => by have h2 := (HR.out.vlt g2 e.symm).2; omega) hg8 hown hat8; have HR8 := Lib.hid hput; have hb8 : w8.heap[w.heap.size]? = some (.cells #[.slice (some ad) l0.length c] 24 (0, 0)) := (hg8.block _ (by simp; omega) (fun e => by have h2 := (F7.vlt _ e.symm).1; omega)).trans ((B7.block _ hrz).trans HS.out.1); have B8 : Below w.heap.size w w8 := (HS.out.2.trans (B7.mono (by omega))).grown hg8 (by simp; omega) (fun j e => by have h2 := (F7.vlt j e).1; omega); have HS8 := Lib.hid (And.intro hb8 B8); clear hown hg8 hat8 HK7 hput hb8 B8 B7 F7))
        | (at_builtin; go_loud (refine print_append_row (w0 := wr) wr.heap.size rfl (.tmp 48) (.tmp 49) 43 3 .i64 8 rfl Tryd.underlying43 info3 (by decide) v1 p.f3 room (some ⟨w4.heap.size, 0, none⟩) 3 3 rfl rfl (O4.out.alloc _) (room_read (Go.heap_alloc_new w4 _)) (B4.out.alloc (by omega) _) (by simp; omega) (by omega) ?_; intro v2 w5 hO hB hg hat; obtain ⟨g2, c2, rfl, hk1, hk2, hk3, hk4, hk5⟩ := ksp_of hO; have GZ : g2 ≠ wr.heap.size := (by rintro rfl; rcases hat with h | ⟨b, h, h2⟩; exact AT4.out h.symm; (simp only [Value.ownBlock] at h; injection h with h; simp at h2; omega)); have KS5 := Lib.hid hk5; have B5 := Lib.hid hB; have hpb : w5.heap[wr.heap.size]? = some (.cells #[.int .i64 p.f0, .string p.f1, .int .i64 p.f2, .slice A3 p.f3.length c3] 45 (0, 0)) := (hg.block wr.heap.size (by simp; omega) (fun e => AT4.out e.symm)).trans ((Below.heap_alloc _ _ _ (by omega)).trans PB4.out); have q0 : w5.cell? ⟨wr.heap.size, 0, none⟩ = some (.int .i64 p.f0) := (Lib.cell_of_heap hpb _).trans rfl; have q1 : w5.cell? ⟨wr.heap.size, 1, none⟩ = some (.string p.f1) := (Lib.cell_of_heap hpb _).trans rfl; have q2 : w5.cell? ⟨wr.heap.size, 2, none⟩ = some (.int .i64 p.f2) := (Lib.cell_of_heap hpb _).trans rfl; have q3 : w5.cell? ⟨wr.heap.size, 3, none⟩ = some (.slice A3 p.f3.length c3) := (Lib.cell_of_heap hpb _).trans rfl; have qf : w5.frozen? ⟨wr.heap.size, 3, none⟩ = false := (by simp [World.frozen?, hpb]); have hz5 : wr.heap.size < w5.heap.size := (Array.getElem?_eq_some_iff.1 hpb).1; have hcut : p.f3.length ≤ c2 := (by omega); clear hO hB hg hat hpb hk5))
        | (at_builtin; go_loud (refine print_append_row (w0 := wr) wr.heap.size rfl (.tmp 45) (.tmp 47) 43 3 .i64 8 rfl Tryd.underlying43 info3 (by decide) (.slice (some ⟨wr.heap.size + 1, 0, none⟩) 0 0) [] p.f3 A3 p.f3.length c3 rfl rfl HO1.out HC1.out HB1.out (by simp; omega) (by simp; omega) ?_; intro v1 w4 hO hB hg hat; have O4 : Hid (w4.ownsRow wr.heap.size 3 1 v1 p.f3.length (nums .i64 p.f3)) := Lib.hid hO; have B4 := Lib.hid hB; have hpb : w4.heap[wr.heap.size]? = some (.cells #[.int .i64 p.f0, .string p.f1, .int .i64 p.f2, .slice A3 p.f3.length c3] 45 (0, 0)) := (hg.block wr.heap.size (by simp; omega) (by simp [Value.ownBlock])).trans PB1.out; have PB4 := Lib.hid hpb; have hz4 : wr.heap.size < w4.heap.size := (Array.getElem?_eq_some_iff.1 hpb).1; have AT4 : Hid (v1.ownBlock ≠ some wr.heap.size) := Lib.hid (by intro e; rcases hat with h | ⟨b, h, h2⟩; (rw [e] at h; simp [Value.ownBlock] at h); (rw [e] at h; injection h with h; simp at h2; omega)); clear hO hB hg hat hpb)))
      go_roundw
      case rel => exact ⟨k + 1, _, by omega, by go_num, Lib.hid (by rw [HT.out]; exact HR8.out), HS8⟩
      case measure => simp [intOf]; omega
    · -- EXIT
      obtain rfl : k = l0.length := by omega
      have hBk : decide (l0.length < l0.length) = false := by simp
      simp only [List.take_length] at HR
      go_wp2_with ((at_builtin; go_loud (have B7 : Below wr.heap.size wr (wr.alloc (.cells #[.int .i64 77, .string ⟨#[]⟩, .int .i64 0, .slice none 0 0, .int .i64 78, .string ⟨#[]⟩, .int .i64 0, .slice none 0 0] 45)) := (Below.refl _ _).alloc (Nat.le_refl _) _; have F7 := HR.out.below B7; refine parts_append (w.heap.size + 1) rfl (.tmp 61) (.tmp 64) rfl u3 l0.length (rowC l0 kv ++ []) wr.heap.size 2 [.int .i64 77, .string ⟨#[]⟩, .int .i64 0, .slice none 0 0, .int .i64 78, .string ⟨#[]⟩, .int .i64 0, .slice none 0 0] _ rfl rfl ?hx rfl ?hb ?h1 F7.row ?hbase ?hn ?_; (case hx => first | rfl | (simp [Act.eval])); (case hb => exact Go.heap_alloc_new wr _); (case h1 => intro u hu; simp only [List.mem_cons, List.not_mem_nil, or_false] at hu; rcases hu with rfl | rfl | rfl | rfl | rfl | rfl | rfl | rfl <;> rfl); (case hbase => simp; omega); (case hn => omega); intro v3 w8 hown hg8 hat8; have hF := F7.more hg8 hown hat8; have hb8 : w8.heap[w.heap.size]? = some (.cells #[.slice A l0.length c] 24 (0, 0)) := (hg8.block _ (by simp; omega) (fun e => by have h2 := (F7.vlt _ e.symm).1; omega)).trans ((B7.block _ hrz).trans HS.out.1); have B8 : Below w.heap.size w w8 := (HS.out.2.trans (B7.mono (by omega))).grown hg8 (by simp; omega) (fun j e => by have h2 := (F7.vlt j e).1; omega); have HS8 := Lib.hid (And.intro hb8 B8); obtain ⟨g, cf, rfl, hcf, hcm, hgb, hgl, hsp, hex⟩ := hF.open_; have SP8 := Lib.hid hsp; have hx0 : w8.cell? ⟨g, l0.length * 4, none⟩ = some (.int .i64 77) := hex 0 (by decide); have hx4 : w8.cell? ⟨g, l0.length * 4 + 4, none⟩ = some (.int .i64 78) := hex 4 (by decide); have t8 : w8.cell? ⟨w.heap.size, 0, none⟩ = some (.slice A l0.length c) := (Lib.cell_of_heap hb8 _).trans rfl; have hcut : l0.length ≤ cf := (by omega); have hz8 : w.heap.size < w8.heap.size := (Array.getElem?_eq_some_iff.1 hb8).1; clear hown hg8 hat8 hF hb8 B8 B7 F7 hsp hex)))
      have O8 : Hid (OwnAt w (w8.alloc (.cells #[.slice (some ⟨g, 0, none⟩) l0.length cf] 24)) A c l0 g cf w8.heap.size) := Lib.hid (by
        have L8 := HL.out.below HS8.out.2
        have hal : Below w8.heap.size w8 (w8.alloc (.cells #[.slice (some ⟨g, 0, none⟩) l0.length cf] 24)) := (Below.refl _ _).alloc (Nat.le_refl _) _
        have L8a := L8.below hal
        have S8a := SP8.out.below hal
        refine ⟨below_then HS8.out.2 HS8.out.2.size hal, L8a, S8a, ⟨S8a.tree (by omega) (fun i hi => ?_), hcut, L8a.small, L8a.tab, L8a.big⟩, pw_cell_below hal t8, ?_, pw_cell_below hal hx0, pw_cell_below hal hx4⟩
        · have h2 := own_few HLG.out i hi
          rw [show rd_T45 l0 (i : Int) = l0[i] by simp [rd_T45, List.getD_eq_getElem?_getD, List.getElem?_eq_getElem hi]] at h2
          omega
        · exact (Lib.cell_of_heap (Go.heap_alloc_new w8 _) 0).trans rfl)
      clear SP8 hx0 hx4 t8 HS8 HR HS c0
      refine (SV.out _ _ _ O8.out.in_.reads O8.out.in_.cap).mono ?_
      rintro e w9 ⟨v, rfl, hE, hB⟩
      have E9 := Lib.hid hE
      obtain rfl := hE
      have O9 := Lib.hid (O8.out.below hB)
      have m9 := O9.out.b0
      have n9 := O9.out.b1
      clear hB
      go_wp2_with fail
      refine (SN.out _ _ _ O9.out.in_.reads O9.out.in_.cap).mono ?_
      rintro e w10 ⟨v, rfl, hE, hB⟩
      have E10 := Lib.hid hE
      obtain rfl := hE
      have O10 := Lib.hid (O9.out.below hB)
      have m10 := O10.out.b0
      have n10 := O10.out.b1
      clear hB
      clear m9 n9
      go_wp2_with fail
      refine (ST.out _ _ _ O10.out.in_.tree O10.out.in_.cap O10.out.in_.tab O10.out.in_.big).mono ?_
      rintro e w11 ⟨v, rfl, hE, hB⟩
      have E11 := Lib.hid hE
      obtain ⟨bE11, rfl, _⟩ := hE
      have O11 := Lib.hid (O10.out.below hB)
      have m11 := O11.out.b0
      have n11 := O11.out.b1
      clear hB
      clear m10 n10
      go_wp2
      go_loopw [14] (fun v wr => ∃ j : Nat, j ≤ l0.length ∧ v = .int .i64 j ∧ Hid (Below w11.heap.size w11 wr)) (fun v _ => l0.length - (intOf v).toNat)
      case atStart => exact ⟨0, by omega, rfl, Lib.hid (Below.refl _ _)⟩
      case round =>
        obtain ⟨j, hj, rfl, HX⟩ := hrel
        have OX := Lib.hid (O11.out.below HX.out)
        have y0 := OX.out.b0
        have y1 := OX.out.b1
        have hzx : w.heap.size < wr.heap.size := World.block_lt_of_cell? _ _ y0
        clear m11 n11
        by_cases hlj : j < l0.length
        · have hI : (j : Int) < (l0.length : Int) := by omega
          obtain ⟨ad, A3, c3, rfl, e0, e1, e2, e3, l3, g3⟩ := own_part OX.out.law.tree j hlj _ rfl
          obtain ⟨d0, d1, d2, gk, ck, d3, hck, hckm, hin⟩ := OX.out.sp.part j hlj
          have hrd : rd_T45 l0 (j : Int) = l0[j] := by simp [rd_T45, List.getD_eq_getElem?_getD, List.getElem?_eq_getElem hlj]
          have hp3 := own_few HLG.out j hlj
          rw [hrd] at e0 e1 e2 e3 l3 g3 hp3
          generalize l0[j] = p at *
          have G3 := Lib.hid (ints_read (Kd.F_now g3))
          have G4 := Lib.hid hin
          have hgx : g < wr.heap.size := World.block_lt_of_cell? _ _ d0
          have hgk : (ad.add (j * 4)).block < wr.heap.size := World.block_lt_of_cell? _ _ e0
          obtain ⟨m, hm⟩ : ∃ m, m = p.f3.length := ⟨_, rfl⟩
          have HM := Lib.hid hm
          rw [← hm] at d3 e3 l3 hck hp3
          have hc3 : m + 3 ≤ ck := hck
          clear g3 hin hrd hm hck
          go_wp2
          go_region
          · as_aux_lemma =>
            go_wp2
            go_loopw [18] (fun v wq => ∃ i : Nat, i ≤ m + 3 ∧ v = .int .i64 i ∧ ∃ nd, ((wr.alloc (.cells #[.int .i64 p.f0, .string p.f1, .int .i64 p.f2, .slice (some ⟨gk, 0, none⟩) m ck] 45)).alloc (.cells #[.int .i64 p.f0, .string p.f1, .int .i64 p.f2, .slice A3 m c3] 45)).drewN nd = wq) (fun v _ => m + 3 - (intOf v).toNat)
            case atStart => exact ⟨0, by omega, rfl, 1, rfl⟩
            case round =>
              obtain ⟨i, hi, rfl, nd, rfl⟩ := hrel
              by_cases hli : i < m
              · as_aux_lemma =>
                have hJ : (i : Int) < ((m + 3 : Nat) : Int) := by omega
                have hI1 : (i : Int) < (m : Int) := by omega
                have hI2 : ¬ (i : Int) ≥ (m : Int) := by omega
                have hI3 : ¬ (m : Int) ≤ (i : Int) := by omega
                have hI4 : ¬ m ≤ i := by omega
                have h1 : wr.cell? ⟨gk, i, none⟩ = some (.int .i64 (p.f3.getD i 0)) := by
                  have h := G4.out i (by have := HM.out; omega)
                  rw [h, List.getD_eq_getElem?_getD, List.getElem?_append_left (by have := HM.out; omega), ← List.getD_eq_getElem?_getD]
                obtain ⟨a3, rfl, h2⟩ := G3.out.2.2 (by have := HM.out; omega)
                have h2 := h2 i (by have := HM.out; omega)
                have hbk : gk < wr.heap.size := World.block_lt_of_cell? _ _ h1
                have hbk2 : (a3.add i).block < wr.heap.size := World.block_lt_of_cell? _ _ h2
                generalize p.f3.getD i 0 = x at h1 h2
                go_wp2
                go_quiet (fail)
                go_wp2
                go_quiet (fail)
                go_wp2
                go_roundw
                case rel => exact ⟨i + 1, by omega, by go_num, _, rfl⟩
                case measure => simp [intOf]; omega
              · by_cases hle : i < m + 3
                · as_aux_lemma =>
                  have hJ : (i : Int) < ((m + 3 : Nat) : Int) := by omega
                  have hI1 : ¬ (i : Int) < (m : Int) := by omega
                  have hI2 : (i : Int) ≥ (m : Int) := by omega
                  have h1 : wr.cell? ⟨gk, i, none⟩ = some (.int .i64 (-7 - ((i : Int) - (m : Int)))) := by
                    have hmm := HM.out
                    rw [G4.out i (by omega), List.getD_eq_getElem?_getD, List.getElem?_append_right (by omega)]
                    rcases (show i = m ∨ i = m + 1 ∨ i = m + 2 by omega) with h | h | h
                    · rw [show i - p.f3.length = 0 by omega, show (i : Int) - (m : Int) = 0 by omega]; rfl
                    · rw [show i - p.f3.length = 1 by omega, show (i : Int) - (m : Int) = 1 by omega]; rfl
                    · rw [show i - p.f3.length = 2 by omega, show (i : Int) - (m : Int) = 2 by omega]; rfl
                  have hbk : gk < wr.heap.size := World.block_lt_of_cell? _ _ h1
                  have hw1 : IntKind.i64.wrap ((i : Int) - (m : Int)) = (i : Int) - (m : Int) := IntWalk.i64_in _ (by omega)
                  have hw2 : IntKind.i64.wrap (-7 - ((i : Int) - (m : Int))) = -7 - ((i : Int) - (m : Int)) := IntWalk.i64_in _ (by omega)
                  go_wp2
                  go_quiet (fail)
                  go_wp2
                  go_quiet (fail)
                  go_wp2
                  go_roundw
                  case rel => exact ⟨i + 1, by omega, by go_num, _, rfl⟩
                  case measure => simp [intOf]; omega
                · have hJ : ¬ (i : Int) < ((m + 3 : Nat) : Int) := by omega
                  go_wp2
                  go_roundw
                  case rel => exact ⟨j + 1, by omega, by go_num, Lib.hid (below_drewN ((HX.out.alloc HX.out.size _).alloc (by have := HX.out.size; simp; omega) _) _)⟩
                  case measure => simp [intOf]; omega
          · as_aux_lemma =>
            go_wp2
            go_loopw [18] (fun v wq => ∃ i : Nat, i ≤ m + 3 ∧ v = .int .i64 i ∧ ∃ nd, ((wr.alloc (.cells #[.int .i64 p.f0, .string p.f1, .int .i64 p.f2, .slice A3 m c3] 45)).alloc (.cells #[.int .i64 p.f0, .string p.f1, .int .i64 p.f2, .slice (some ⟨gk, 0, none⟩) m ck] 45)).drewN nd = wq) (fun v _ => m + 3 - (intOf v).toNat)
            case atStart => exact ⟨0, by omega, rfl, 1, rfl⟩
            case round =>
              obtain ⟨i, hi, rfl, nd, rfl⟩ := hrel
              by_cases hli : i < m
              · as_aux_lemma =>
                have hJ : (i : Int) < ((m + 3 : Nat) : Int) := by omega
                have hI1 : (i : Int) < (m : Int) := by omega
                have hI2 : ¬ (i : Int) ≥ (m : Int) := by omega
                have hI3 : ¬ (m : Int) ≤ (i : Int) := by omega
                have hI4 : ¬ m ≤ i := by omega
                have h1 : wr.cell? ⟨gk, i, none⟩ = some (.int .i64 (p.f3.getD i 0)) := by
                  have h := G4.out i (by have := HM.out; omega)
                  rw [h, List.getD_eq_getElem?_getD, List.getElem?_append_left (by have := HM.out; omega), ← List.getD_eq_getElem?_getD]
                obtain ⟨a3, rfl, h2⟩ := G3.out.2.2 (by have := HM.out; omega)
                have h2 := h2 i (by have := HM.out; omega)
                have hbk : gk < wr.heap.size := World.block_lt_of_cell? _ _ h1
                have hbk2 : (a3.add i).block < wr.heap.size := World.block_lt_of_cell? _ _ h2
                generalize p.f3.getD i 0 = x at h1 h2
                go_wp2
                go_quiet (fail)
                go_wp2
                go_quiet (fail)
                go_wp2
                go_roundw
                case rel => exact ⟨i + 1, by omega, by go_num, _, rfl⟩
                case measure => simp [intOf]; omega
              · by_cases hle : i < m + 3
                · as_aux_lemma =>
                  have hJ : (i : Int) < ((m + 3 : Nat) : Int) := by omega
                  have hI1 : ¬ (i : Int) < (m : Int) := by omega
                  have hI2 : (i : Int) ≥ (m : Int) := by omega
                  have h1 : wr.cell? ⟨gk, i, none⟩ = some (.int .i64 (-7 - ((i : Int) - (m : Int)))) := by
                    have hmm := HM.out
                    rw [G4.out i (by omega), List.getD_eq_getElem?_getD, List.getElem?_append_right (by omega)]
                    rcases (show i = m ∨ i = m + 1 ∨ i = m + 2 by omega) with h | h | h
                    · rw [show i - p.f3.length = 0 by omega, show (i : Int) - (m : Int) = 0 by omega]; rfl
                    · rw [show i - p.f3.length = 1 by omega, show (i : Int) - (m : Int) = 1 by omega]; rfl
                    · rw [show i - p.f3.length = 2 by omega, show (i : Int) - (m : Int) = 2 by omega]; rfl
                  have hbk : gk < wr.heap.size := World.block_lt_of_cell? _ _ h1
                  have hw1 : IntKind.i64.wrap ((i : Int) - (m : Int)) = (i : Int) - (m : Int) := IntWalk.i64_in _ (by omega)
                  have hw2 : IntKind.i64.wrap (-7 - ((i : Int) - (m : Int))) = -7 - ((i : Int) - (m : Int)) := IntWalk.i64_in _ (by omega)
                  go_wp2
                  go_quiet (fail)
                  go_wp2
                  go_quiet (fail)
                  go_wp2
                  go_roundw
                  case rel => exact ⟨i + 1, by omega, by go_num, _, rfl⟩
                  case measure => simp [intOf]; omega
                · have hJ : ¬ (i : Int) < ((m + 3 : Nat) : Int) := by omega
                  go_wp2
                  go_roundw
                  case rel => exact ⟨j + 1, by omega, by go_num, Lib.hid (below_drewN ((HX.out.alloc HX.out.size _).alloc (by have := HX.out.size; simp; omega) _) _)⟩
                  case measure => simp [intOf]; omega
        · have hI : ¬ (j : Int) < (l0.length : Int) := by omega
          obtain rfl : j = l0.length := by omega
          have x0 := OX.out.x0
          have x4 : wr.cell? ⟨g, (l0.length + 1) * 4, none⟩ = some (.int .i64 78) := by rw [show (l0.length + 1) * 4 = l0.length * 4 + 4 by omega]; exact OX.out.x4
          have hgx : g < wr.heap.size := World.block_lt_of_cell? _ _ x0
          have OX' := OX
          have mX := y0
          have nX := y1
          clear y0 y1
          go_wp2_with fail
          refine (SV.out _ _ _ OX.out.in_.reads OX.out.in_.cap).mono ?_
          rintro e w12 ⟨v, rfl, hE, hB⟩
          have E12 := Lib.hid hE
          obtain rfl := hE
          have O12 := Lib.hid (OX.out.below hB)
          have m12 := O12.out.b0
          have n12 := O12.out.b1
          clear hB
          clear mX nX
          go_wp2_with fail
          refine (SN.out _ _ _ O12.out.in_.reads O12.out.in_.cap).mono ?_
          rintro e w13 ⟨v, rfl, hE, hB⟩
          have E13 := Lib.hid hE
          obtain rfl := hE
          have O13 := Lib.hid (O12.out.below hB)
          have m13 := O13.out.b0
          have n13 := O13.out.b1
          have E12 := Lib.hid (E12.out.below hB)
          clear hB
          clear m12 n12
          go_wp2_with fail
          refine (ST.out _ _ _ O13.out.in_.tree O13.out.in_.cap O13.out.in_.tab O13.out.in_.big).mono ?_
          rintro e w14 ⟨v, rfl, hE, hB⟩
          have E14 := Lib.hid hE
          obtain ⟨bE14, rfl, _⟩ := hE
          have O14 := Lib.hid (O13.out.below hB)
          have m14 := O14.out.b0
          have n14 := O14.out.b1
          have E12 := Lib.hid (E12.out.below hB)
          clear hB
          clear m13 n13
          go_wp2_with fail
          refine (RV.out _ O14.out.law).mono ?_
          rintro e w15 ⟨rfl, hB⟩
          have O15 := Lib.hid (O14.out.below hB)
          have m15 := O15.out.b0
          have n15 := O15.out.b1
          have E12 := Lib.hid (E12.out.below hB)
          clear hB
          clear m14 n14
          go_wp2_with fail
          refine (RC.out _ _ E12.out).mono ?_
          rintro e w16 ⟨rfl, hB⟩
          have O16 := Lib.hid (O15.out.below hB)
          have m16 := O16.out.b0
          have n16 := O16.out.b1
          clear hB
          clear m15 n15
          go_wp2
          go_quiet (fail)
          go_wp2
          go_ret
          exact ⟨rfl, below_drewN O16.out.bel _⟩

end Go.Proofs.YteeojceloljcbaaDoor.H
