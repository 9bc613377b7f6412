/- HeapedKeeps, walked. -/
import Derived.Test.YthbnhneibpoooaaQHpKz
import Derived.Test.YthbnhneibpoooaaQHpKu
import Derived.Deep.DeepCutAuto
set_option linter.unusedVariables false
set_option linter.unusedSimpArgs false
set_option linter.unnecessarySimpa false
namespace Go.Proofs.Ythbnhneibpoooaa
open Go.RowKit
set_option linter.unusedVariables false
set_option linter.unusedSimpArgs false
set_option linter.unnecessarySimpa false
set_option maxHeartbeats 4000000 in
set_option maxRecDepth 100000 in
theorem keeps_out (n k : Int) (pv : Value) (w : World) (hno : n < 0 ∨ 40 < n ∨ k < 0 ∨ 40 < k) :
    Calls Try.prog 3 #[.int .i64 n, .int .i64 k, pv] w fun e w' => e = .returned (.bool true) ∧ Below w.heap.size w w' := by
  have h4 : (decide (n < 0) = true) ∨ (decide (n < 0) = false ∧ decide (40 < n) = true) ∨ (decide (n < 0) = false ∧ decide (40 < n) = false ∧ decide (k < 0) = true) ∨ (decide (n < 0) = false ∧ decide (40 < n) = false ∧ decide (k < 0) = false ∧ decide (40 < k) = true) := by
    simp only [decide_eq_true_eq, decide_eq_false_iff_not]
    omega
  clear hno
  rcases h4 with g1 | ⟨g1, g2⟩ | ⟨g1, g2, g3⟩ | ⟨g1, g2, g3, g4⟩
  all_goals
    go_enter Try.func3, Try.ntmps3
    go_wp2_with fail
    with_reducible refine (new_any _).mono ?_
    rintro e w1 ⟨rfl, rfl⟩
    have HB1 := Lib.hid ((Below.refl w.heap.size w).alloc (Nat.le_refl _) (.cells #[.slice none 0 0] 65))
    go_wp2_with fail
    with_reducible refine (fixed_any _).mono ?_
    rintro e w2 ⟨rfl, hb2⟩
    have HB2 := Lib.hid (HB1.out.trans (hb2.mono (by simp)))
    clear hb2
    go_wp2_with fail
    go_ret
    exact ⟨rfl, HB2.out⟩
set_option maxHeartbeats 400000000 in
set_option maxRecDepth 100000 in
theorem keeps_in (n k : Nat) (pv : Value) (l : List (Int × Int × Int)) (w : World) (hn : n ≤ 40) (hk : k ≤ 40) (hp : PSl w pv l) (hlen : l.length ≤ 9223372036854775807) :
    Calls Try.prog 3 #[.int .i64 n, .int .i64 k, pv] w fun e w' => e = .returned (.bool true) ∧ Below w.heap.size w w' := by
  obtain ⟨ap, cp, rfl, hps⟩ := hp
  have HPS := Lib.hid hps
  have g1 : decide ((n : Int) < 0) = false := decide_eq_false (by omega)
  have g2 : decide ((40 : Int) < n) = false := decide_eq_false (by omega)
  have g3 : decide ((k : Int) < 0) = false := decide_eq_false (by omega)
  have g4 : decide ((40 : Int) < k) = false := decide_eq_false (by omega)
  have hmn := make_vals n (by omega)
  have hmk := make_vals k (by omega)
  clear hps
  go_enter Try.func3, Try.ntmps3
  go_wp2_with fail
  with_reducible refine (new_any _).mono ?_
  rintro e w1 ⟨rfl, rfl⟩
  have H1 := Lib.hid (Lw.init (Below.refl w.heap.size w))
  go_wp2_with fail
  with_reducible refine (fixed_any _).mono ?_
  rintro e w2 ⟨rfl, hb2⟩
  have H2 := Lib.hid ((H1.out.bel hb2).new (.cells #[.int .i64 4, .int .i64 0, .string ⟨#[]⟩] 27) rfl)
  clear hb2 H1
  go_wp2_with fail
  go_cut [9, 10] (fun s9 s10 wx => ∃ ab, s9 = .pointer (some ⟨ab, 0, none⟩) ∧ s10 = .int .i64 0 ∧ Hid (Lw w wx w.heap.size [⟨1, List.replicate n nulV⟩] [(ab, .cells #[.int .i64 8, .int .i64 0, .string ⟨#[]⟩] 27 (0, 0)), (w2.heap.size, .cells #[.int .i64 4, .int .i64 0, .string ⟨#[]⟩] 27 (0, 0))]))
  case first =>
    have HD0 := Lib.hid (H2.out.bel (Below.refl _ _).drew)
    have HDZ := Lib.hid ((H2.out.new (.cells #[.int .i64 0, .int .i64 0, .string ⟨#[]⟩] 27) (s := w2.heap.size + 1) (by simp)).bel (Below.refl _ _).drew)
    go_region_held3 (fun w' => w'.cell? ⟨w2.heap.size, 0, none⟩ = some (.int .i64 4) ∧ w'.cell? ⟨w2.heap.size, 1, none⟩ = some (.int .i64 0) ∧ w'.cell? ⟨w2.heap.size, 2, none⟩ = some (.string ⟨#[]⟩))
      (first | with_reducible exact nul_cells HD0.out (by simp) | with_reducible exact nul_cells HL1.out (by simp) | with_reducible exact nul_cells HL2.out (by simp) | with_reducible exact nul_cells HDZ.out (by simp) | with_reducible exact nul_cells (HL1.out.new _ rfl) (by simp) | with_reducible exact nul_cells ((HL1.out.new _ rfl).new _ (s := x1.heap.size + 1) (by simp)) (by simp) | with_reducible exact nul_cells (HL2.out.new _ rfl) (by simp) | with_reducible exact nul_cells (HL2.out.tail.set3 _ _ _) (by simp) | with_reducible exact nul_cells (HL2.out.drop2.set3 _ _ _) (by simp))
      (first
        | (go_at_call 12; (with_reducible refine (num_any n _).mono ?_); rintro e x1 ⟨rfl, hb⟩; (first | (with_reducible have HL1 := Lib.hid (HD0.out.bel hb)) | (with_reducible have HL1 := Lib.hid (HDZ.out.bel hb))); clear hb)
        | (go_at_call 11; (first
            | (with_reducible refine (lw_makev (HL1.out.new _ rfl) n ⟨4, 0, ⟨#[]⟩⟩ ⟨8, 0, ⟨#[]⟩⟩ (by decide) (by omega) (by decide +kernel) rfl (T' := [⟨1, List.replicate n nulV⟩]) rfl (by simp)).mono ?_)
            | (with_reducible refine (lw_makev ((HL1.out.new _ rfl).new _ (s := x1.heap.size + 1) (by simp)) n ⟨4, 0, ⟨#[]⟩⟩ ⟨8, 0, ⟨#[]⟩⟩ (by decide) (by omega) (by decide +kernel) rfl (T' := [⟨1, List.replicate n nulV⟩]) rfl (by simp)).mono ?_)); rintro e x2 ⟨rfl, hL, hz⟩; have HL2 := Lib.hid hL; clear hL hz; (first | (with_reducible obtain ⟨z0, z1, z2, y0, y1, y2⟩ := zer_cells HL2.out (List.mem_cons_self ..)) | (with_reducible obtain ⟨z0, z1, z2, y0, y1, y2⟩ := zer_cells HL2.out (List.mem_cons_of_mem _ (List.mem_cons_self ..))) | skip))
        | fail)
    all_goals go_wp2_with fail
    all_goals
      go_meet
      case rel => exact ⟨_, rfl, rfl, (by first | with_reducible exact Lib.hid (HL2.out.tail.new _ rfl) | with_reducible exact Lib.hid (HL2.out.tail.set3 _ _ _) | with_reducible exact Lib.hid (HL2.out.drop2.set3 _ _ _) | fail)⟩
  case rest =>
    obtain ⟨ab, rfl, rfl, H3⟩ := hcut
    have hz3 := (H3.out.find (b := w2.heap.size) (List.mem_cons_of_mem _ (List.mem_cons_self ..))).2.1
    go_wp2_with fail
    refine keeps_mk2 w _ n k ab w2.heap.size hn hk H3 hz3 _ _ _ _ _ _ _ _ _ _ _ _ _ _ _ _ _ _ _ _ _ _ _ _ _ _ _ _ _ _ _ _ _ _ _ _ _ _ _ _ _ _ _ _ _ _ _ _ _ _ _ _ _ _ _ _ _ _ _ _ _ _ _ _ _ _ _ _ _ _ _ _ _ _ _ _ _ _ _ _ _ _ _ _ _ _ _ _ _ _ _ _ _ _ _ _ _ _ _ _ _ _ _ _ _ _ _ _ _ _ _ _ _ _ _ _ _ _ _ _ _ _ _ _ _ _ _ _ _ _ _ _ _ _ _ _ _ _ _ _ _ _ _ _ _ _ _ _ _ _ _ _ _ _ _ _ _ _ _ _ _ _ _ _ _ _ _ _ _ _ _ _ _ _ _ _ _ _ _ _ _ _ _ _ _ _ _ _ _ _ _ _ _ _ _ _ _ _ _ _ _ _ _ _ _ _ _ _ _ _ _ _ _ _ _ _ _ _ _ _ _ _ _ _ _ ?_
    intro m61 m62 m63 m64 m65 m66 m67 m68 m69 bb wx3 H4
    clear H3 hz3
    have p0 := H4.out.cells (List.mem_cons_self ..) 0
    have p1 := H4.out.cells (List.mem_cons_self ..) 1
    have p2 := H4.out.cells (List.mem_cons_self ..) 2
    have q0 := H4.out.cells (List.mem_cons_of_mem _ (List.mem_cons_self ..)) 0
    have q1 := H4.out.cells (List.mem_cons_of_mem _ (List.mem_cons_self ..)) 1
    have q2 := H4.out.cells (List.mem_cons_of_mem _ (List.mem_cons_self ..)) 2
    simp only [List.getElem?_toArray, List.getElem?_cons_zero, List.getElem?_cons_succ] at p0 p1 p2 q0 q1 q2
    go_wp2_with fail
    clear p0 p1 p2 q0 q1 q2
    go_cut [13, 14] (fun s13 s14 wx => ∃ ob tb, s13 = .slice (some ⟨ob, 0, none⟩) n n ∧ s14 = .slice (some ⟨tb, 0, none⟩) k k ∧ Hid (Lw w wx w.heap.size [⟨1, List.replicate n nulV⟩, ⟨1, List.replicate k nulV⟩] [(ob, .cells (Hp.flatV (List.replicate n Hp.none)).toArray 27 (0, 0)), (tb, .cells (Hp.flatV (List.replicate k Hp.none)).toArray 27 (0, 0)), (bb, .cells #[.int .i64 8, .int .i64 1, .string ⟨#[]⟩] 27 (0, 0)), (ab, .cells #[.int .i64 8, .int .i64 0, .string ⟨#[]⟩] 27 (0, 0)), (w2.heap.size, .cells #[.int .i64 4, .int .i64 0, .string ⟨#[]⟩] 27 (0, 0))]))
    case first =>
      go_region
      all_goals go_wp2_with fail
      all_goals
        go_meet
        case rel => exact ⟨_, _, rfl, rfl, (by first | with_reducible exact Lib.hid ((((H4.out.new _ rfl).new _ (by simp)).bel (Below.refl _ _).drew)) | with_reducible exact Lib.hid ((((H4.out.new _ rfl).new _ (by simp)).front2.bel (Below.refl _ _).drew)) | fail)⟩
    case rest =>
      obtain ⟨ob, tb, rfl, rfl, H5⟩ := hcut
      clear hmn hmk
      go_wp2_with fail
      refine keeps_loop1 w _ n k ob tb bb ab w2.heap.size hn hk H5 _ _ _ _ _ _ _ _ _ _ _ _ _ _ _ _ _ _ _ _ _ _ _ _ _ _ _ _ _ _ _ _ _ _ _ _ _ _ _ _ _ _ _ _ _ _ _ _ _ _ _ _ _ _ _ _ _ _ _ _ _ _ _ _ _ _ _ _ _ _ _ _ _ _ _ _ _ _ _ _ _ _ _ _ _ _ _ _ _ _ _ _ _ _ _ _ _ _ _ _ _ _ _ _ _ _ _ _ _ _ _ _ _ _ _ _ _ _ _ _ _ _ _ _ _ _ _ _ _ _ _ _ _ _ _ _ _ _ _ _ _ _ _ _ _ _ _ _ _ _ _ _ _ _ _ _ _ _ _ _ _ _ _ _ _ _ _ _ _ _ _ _ _ _ _ _ _ _ _ _ _ _ _ _ _ _ _ _ _ _ _ _ _ _ _ _ _ _ _ _ _ _ _ _ _ _ _ _ _ _ _ _ _ _ _ _ _ _ _ _ _ ?_
      intro p85 p86 p87 p88 p89 p90 p91 p92 p93 wx5 H6
      clear H5
      go_wp2_with fail
      refine keeps_loop2 w _ n k ob tb bb ab w2.heap.size hn hk H6 _ _ _ _ _ _ _ _ _ _ _ _ _ _ _ _ _ _ _ _ _ _ _ _ _ _ _ _ _ _ _ _ _ _ _ _ _ _ _ _ _ _ _ _ _ _ _ _ _ _ _ _ _ _ _ _ _ _ _ _ _ _ _ _ _ _ _ _ _ _ _ _ _ _ _ _ _ _ _ _ _ _ _ _ _ _ _ _ _ _ _ _ _ _ _ _ _ _ _ _ _ _ _ _ _ _ _ _ _ _ _ _ _ _ _ _ _ _ _ _ _ _ _ _ _ _ _ _ _ _ _ _ _ _ _ _ _ _ _ _ _ _ _ _ _ _ _ _ _ _ _ _ _ _ _ _ _ _ _ _ _ _ _ _ _ _ _ _ _ _ _ _ _ _ _ _ _ _ _ _ _ _ _ _ _ _ _ _ _ _ _ _ _ _ _ _ _ _ _ _ _ _ _ _ _ _ _ _ _ _ _ _ _ _ _ _ _ _ _ _ _ ?_
      intro q94 q95 q96 q97 q98 q99 q100 q101 q102 wx6 H7
      clear H6
      go_wp2_with fail
      go_loopg [17] l.length (fun gk s17 wx => ∃ (i3 : Nat) (l1 l2 : List Hp.V), i3 ≤ l.length ∧ gk = l.length - i3 ∧ s17 = .int .i64 i3 ∧ l1.length = n ∧ l2.length = k ∧ Hid (KSt w wx ob tb bb ab w2.heap.size l1 l2))
      case atStart => exact ⟨0, _, _, Nat.zero_le _, rfl, rfl, by simp, by simp, H7.out⟩
      case round =>
        obtain ⟨i3, l1, l2, hi3, rfl, rfl, hl1, hl2, HS⟩ := hrel
        have HL1 := Lib.hid hl1
        have HL2 := Lib.hid hl2
        clear hl1 hl2
        by_cases hlt3 : i3 < l.length ∧ i3 < 60
        · refine keeps_round w wr n k ob tb bb ab w2.heap.size i3 cp ap l l1 l2 hn hk hlen HPS hlt3 HL1 HL2 HS _ _ _ _ _ _ _ _ _ _ _ _ _ _ _ _ _ _ _ _ _ _ _ _ _ _ _ _ _ _ _ _ _ _ _ _ _ _ _ _ _ _ _ _ _ _ _ _ _ _ _ _ _ _ _ _ _ _ _ _ _ _ _ _ _ _ _ _ _ _ _ _ _ _ _ _ _ _ _ _ _ _ _ _ _ _ _ _ _ _ _ _ _ _ _ _ _ _ _ _ _ _ _ _ _ _ _ _ _ _ _ _ _ _ _ _ _ _ _ _ _ _ _ _ _ _ _ _ _ _ _ _ _ _ _ _ _ _ _ _ _ _ _ _ _ _ _ _ _ _ _ _ _ _ _ _ _ _ _ _ _ _ _ _ _ _ _ _ _ _ _ _ _ _ _ _ _ _ _ _ _ _ _ _ _ _ _ _ _ _ _ _ _ _ _ _ _ _ _ _ _ _ _ _ _ _ _ _ _ _ _ _ _ _ _ _ _ _ _ _ ?_
          intro p6 p18 p19 p20 p21 p22 p23 p24 p25 p26 p27 p28 p29 p103 p104 p105 p106 p107 p108 p109 p110 p111 p112 p113 p114 p115 p116 p117 p118 p119 p120 p121 p122 p123 p124 p125 p126 p127 p128 p129 p130 p131 p132 p133 p134 p135 p136 p137 p138 p139 p140 p141 p142 p143 p144 p145 p146 p147 p148 p149 p150 p151 p152 p153 p154 p155 p156 p157 p158 p159 p160 p161 p162 p163 p164 p165 p166 p167 p168 p169 p170 p171 p172 p173 p174 p175 p176 p177 p178 p179 p180 p181 p182 p183 p184 p185 p186 p187 p188 p189 p190 p191 p192 p193 p194 p195 p196 p197 p198 p199 p200 p201 p202 p203 p204 p205 p206 p207 p208 p209 p210 p211 p212 p213 p214 p215 p216 p217 p218 p219 p220 p221 p222 p223 p224 wx l1' l2' hl1' hl2' HS'
          go_wp2_with fail
          go_roundg (l.length - (i3 + 1))
          case measure => omega
          case rel => exact ⟨i3 + 1, l1', l2', by omega, rfl, by go_num, hl1', hl2', HS'⟩
        · have hor : decide (i3 < l.length) = false ∨ (decide (i3 < l.length) = true ∧ decide ((i3 : Int) < 60) = false) := by
            simp only [decide_eq_true_eq, decide_eq_false_iff_not]
            omega
          clear hlt3
          rcases hor with h1 | ⟨h1, h2⟩
          all_goals
            go_wp2_with fail
            with_reducible refine (count_any HS.out).mono ?_
            rintro e w9 ⟨rfl, rfl⟩
            go_wp2_with fail
            go_ret
            exact ⟨by simp, HS.out.below⟩
end Go.Proofs.Ythbnhneibpoooaa
