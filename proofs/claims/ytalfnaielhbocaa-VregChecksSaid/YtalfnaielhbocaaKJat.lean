/- slices.Repeat of one value. -/
import Derived.Deep.RegionLaw
import Derived.Outline
import Derived.Test.YtalfnaielhbocaaKJak
import Derived.Test.YtalfnaielhbocaaKJas
import Derived.Test.YtalfnaielhbocaaKJah
set_option linter.unusedVariables false
set_option linter.unusedSimpArgs false
set_option linter.unnecessarySimpa false
namespace Go.Proofs.Ytalfnaielhbocaa
open Go.RowKit
set_option maxRecDepth 100000
set_option linter.unusedVariables false
set_option linter.unusedSimpArgs false
theorem mul_any (x y : Nat) (hx : x < 18446744073709551616) (hy : y < 18446744073709551616) (w : World) :
    Calls Try.prog 49 #[.int .u64 x, .int .u64 y] w fun e w' => e = .returned (.tuple #[.int .u64 ((x * y / 18446744073709551616 : Nat) : Int), .int .u64 ((x * y % 18446744073709551616 : Nat) : Int)]) ∧ w' = w := by
  go_enter Try.func49, Try.ntmps49
  go_wp2_with (go_at_call 65; refine (mul64_any x y hx hy _).mono ?_; rintro e w' ⟨rfl, rfl⟩)
  go_ret2
  exact ⟨rfl, rfl⟩
theorem valSizeR : (Try.prog.info? 64).map (·.size) = some 3 := by kernel_rfl
theorem flatV_replicate_length (n : Nat) (v : Hp.V) : (Hp.flatV (List.replicate n v)).length = n * 3 := by rw [Hp.flatV_length, List.length_replicate]
theorem madeCells_zero (n : Nat) : madeCells #[.int .i64 0, .int .i64 0, .string ⟨#[]⟩] (n * 3) = (Hp.flatV (List.replicate n Hp.none)).toArray := by
  apply Array.ext
  · rw [size_madeCells, List.size_toArray, flatV_replicate_length]
  · intro i h1 h2
    rw [size_madeCells] at h1
    have hj : i / 3 < n := by omega
    have hl : (List.replicate n Hp.none)[i / 3]? = some Hp.none := by rw [List.getElem?_replicate, if_pos hj]
    obtain ⟨f0, f1, f2⟩ := Hp.flatV_at _ _ _ hl
    have hr : ∀ u, (Hp.flatV (List.replicate n Hp.none))[i]? = some u → (Hp.flatV (List.replicate n Hp.none)).toArray[i] = u := fun u hu => by
      rw [List.getElem_toArray]
      exact (List.getElem?_eq_some_iff.1 hu).2
    rcases (by omega : i = i / 3 * 3 ∨ i = i / 3 * 3 + 1 ∨ i = i / 3 * 3 + 2) with e | e | e
    · rw [hr (.int .i64 0) (by rw [e]; exact f0)]
      have : i % 3 = 0 := by omega
      simp [madeCells, this]
    · rw [hr (.int .i64 0) (by rw [e]; exact f1)]
      have : i % 3 = 1 := by omega
      simp [madeCells, this]
    · rw [hr (.string ⟨#[]⟩) (by rw [e]; exact f2)]
      have : i % 3 = 2 := by omega
      simp [madeCells, this]
theorem make_vals (q : Nat) (h : q ≤ 1048576) (w : World) : (Instr.makeSlice 66 (.int .i64 q) (.int .i64 q)).run Try.prog w = .ok (.slice (some ⟨w.heap.size, 0, none⟩) q q) (w.alloc (.cells (Hp.flatV (List.replicate q Hp.none)).toArray 64)) := by
  obtain ⟨i, hi, hz, hs, hb⟩ := info_parts infoVal
  have := run_make (P := Try.prog) w _ _ i _ Try.underlying66 hi hz .i64 .i64 q q (by omega) (Int.le_refl _) (by rw [hb]; omega) (by omega)
  rw [hs] at this
  simp only [Int.toNat_natCast] at this
  rw [← madeCells_zero]
  exact this
def part3 (n k : Nat) (v : Hp.V) : List Value := Hp.flatV (List.replicate k v ++ List.replicate (n - k) Hp.none)
theorem part3_length (n k : Nat) (v : Hp.V) (h : k ≤ n) : (part3 n k v).length = n * 3 := by
  unfold part3
  rw [Hp.flatV_length, List.length_append, List.length_replicate, List.length_replicate]
  omega
theorem flatV_take (l : List Hp.V) (k : Nat) : (Hp.flatV l).take (k * 3) = Hp.flatV (l.take k) := by
  induction l generalizing k with
  | nil => simp [Hp.flatV]
  | cons x l ih =>
    cases k with
    | zero => simp [Hp.flatV]
    | succ k =>
      have e : ∀ (y : Hp.V) (l : List Hp.V), Hp.flatV (y :: l) = .int .i64 y.kind :: .int .i64 y.int :: .string y.text :: Hp.flatV l := fun _ _ => rfl
      rw [List.take_succ_cons, e, e, ← ih k, show (k + 1) * 3 = k * 3 + 1 + 1 + 1 by omega]
      simp only [List.take_succ_cons]
theorem flatV_drop (l : List Hp.V) (k : Nat) : (Hp.flatV l).drop (k * 3) = Hp.flatV (l.drop k) := by
  induction l generalizing k with
  | nil => simp [Hp.flatV]
  | cons x l ih =>
    cases k with
    | zero => simp [Hp.flatV]
    | succ k =>
      have e : ∀ (y : Hp.V) (l : List Hp.V), Hp.flatV (y :: l) = .int .i64 y.kind :: .int .i64 y.int :: .string y.text :: Hp.flatV l := fun _ _ => rfl
      rw [List.drop_succ_cons, e, ← ih k, show (k + 1) * 3 = k * 3 + 1 + 1 + 1 by omega]
      simp only [List.drop_succ_cons]
theorem part3_step (n k c : Nat) (v : Hp.V) (h : k + c ≤ n) : splice (part3 n k v) (k * 3) (Hp.flatV (List.replicate c v)) = part3 n (k + c) v := by
  unfold splice part3
  rw [flatV_replicate_length, ← Nat.add_mul, flatV_take, flatV_drop, ← Hp.flatV_append, ← Hp.flatV_append]
  congr 1
  rw [List.take_append_of_le_length (by simp), List.take_of_length_le (by simp), List.drop_append, List.drop_of_length_le (by simp), List.nil_append, List.length_replicate, List.drop_replicate, ← List.append_assoc, List.replicate_append_replicate]
  congr 2
  omega
end Go.Proofs.Ytalfnaielhbocaa
namespace Go.Proofs.Ytalfnaielhbocaa
open Go.RowKit
set_option maxRecDepth 100000
set_option linter.unusedVariables false
set_option linter.unusedSimpArgs false
def RepPost (n : Nat) (v : Hp.V) (w : World) (e : Ending) (w' : World) : Prop :=
  ∃ a c, e = .returned (.slice a n c) ∧ w'.ownsRow w.heap.size 64 3 (.slice a n c) n (Hp.flatV (List.replicate n v)) ∧ Below w.heap.size w w'
theorem rep_own {w w' : World} {n g : Nat} {v : Hp.V} (hg : w'.heap[g]? = some (.cells (part3 n n v).toArray 64 (0, 0))) (hB : w.heap.size ≤ g) (hn : n ≤ 1000000) : w'.ownsRow w.heap.size 64 3 (.slice (some ⟨g, 0, none⟩) n n) n (Hp.flatV (List.replicate n v)) := by
  refine ⟨flatV_replicate_length n v, .inr ⟨g, n, _, rfl, hB, hg, Nat.le_refl _, by simp only [maxLen]; omega, ?_, ?_⟩⟩
  · rw [List.size_toArray, part3_length n n v (Nat.le_refl _)]
  · show (part3 n n v).take (n * 3) = _
    rw [List.take_of_length_le (by rw [part3_length n n v (Nat.le_refl _)]; exact Nat.le_refl _)]
    unfold part3
    simp
theorem part3_cells {w : World} {n k g : Nat} {v : Hp.V} (hg : w.heap[g]? = some (.cells (part3 n k v).toArray 64 (0, 0))) (hk : k ≤ n) (c : Nat) (hc : c ≤ k) : ∀ j u, (Hp.flatV (List.replicate c v))[j]? = some u → w.cell? ((⟨g, 0, none⟩ : Addr).add j) = some u := by
  intro j u hu
  have e := Addr.add_mid g 0 j
  rw [e, Nat.zero_add, cell_of_row w g _ _ _ _ hg]
  have hj : j < c * 3 := by have := (List.getElem?_eq_some_iff.1 hu).1; rw [flatV_replicate_length] at this; exact this
  have ht : (part3 n k v).take (c * 3) = Hp.flatV (List.replicate c v) := by
    unfold part3
    rw [flatV_take, List.take_append_of_le_length (by simpa using hc), List.take_replicate, Nat.min_eq_left hc]
  rw [← ht, List.getElem?_take] at hu
  rw [if_pos hj] at hu
  simpa using hu
theorem src1 {w : World} {b k1 : Nat} {v : Hp.V} (hb : w.heap[b]? = some (.cells #[.int .i64 v.kind, .int .i64 v.int, .string v.text] 64 (0, 0))) (hk : k1 ≤ 1) (o : Obj) : ∀ j u, (Hp.flatV (List.replicate k1 v))[j]? = some u → (w.alloc o).cell? ((⟨b, 0, none⟩ : Addr).add j) = some u := by
  intro j u hu
  have hbl : b < w.heap.size := (Array.getElem?_eq_some_iff.1 hb).1
  rw [Addr.add_mid, Nat.zero_add, World.cell?_alloc_past _ _ _ hbl, cell_of_row w b _ _ _ _ hb]
  rcases (by omega : k1 = 0 ∨ k1 = 1) with rfl | rfl
  · simp [Hp.flatV] at hu
  · have e : Hp.flatV (List.replicate 1 v) = [.int .i64 v.kind, .int .i64 v.int, .string v.text] := rfl
    rw [e] at hu
    simpa using hu
set_option maxHeartbeats 8000000 in
set_option maxRecDepth 100000 in
theorem repeat_wide (v : Hp.V) (n : Nat) (hn : n ≤ 1000000) (b : Nat) (w : World) (hb : w.heap[b]? = some (.cells #[.int .i64 v.kind, .int .i64 v.int, .string v.text] 64 (0, 0))) :
    Calls Try.prog 35 #[.slice (some ⟨b, 0, none⟩) 1 1, .int .i64 n] w (RepPost n v w) := by
  have hbl : b < w.heap.size := (Array.getElem?_eq_some_iff.1 hb).1
  have HBL := Lib.hid hb
  have n0 : decide ((n : Int) < 0) = false := decide_eq_false (by omega)
  have z1 : IntKind.u64.wrap (n : Int) = n := by rw [IntKind.wrap_u64]; omega
  have z2 : IntKind.i64.wrap (n : Int) = n := by rw [IntKind.wrap_i64]; omega
  have m1 : (1 * n / 18446744073709551616 : Nat) = 0 := by omega
  have m2 : (1 * n % 18446744073709551616 : Nat) = n := by omega
  have HMul : Hid (∀ w, Calls Try.prog 49 #[.int .u64 1, .int .u64 n] w fun e w' => e = .returned (.tuple #[.int .u64 0, .int .u64 n]) ∧ w = w') := fun w => by
    refine (mul_any 1 n (by omega) (by omega) w).mono ?_
    rintro e w' ⟨h1, h2⟩
    rw [m1, m2] at h1
    exact ⟨h1, h2.symm⟩
  have HSZ := Lib.hid valSizeR
  have hmk := make_vals n (by omega)
  have hgt : decide ((9223372036854775807 : Int) < n) = false := decide_eq_false (by omega)
  have hgt2 : decide ((9223372036854775807 : Nat) < n) = false := decide_eq_false (by omega)
  clear hb m1 m2
  go_enter Try.func35, Try.ntmps35
  obtain ⟨k1, hk1⟩ : ∃ k1, k1 = Nat.min 1 n := ⟨_, rfl⟩
  have hk1n : k1 ≤ n := by rw [hk1]; exact Nat.min_le_right _ _
  have hk11 : k1 ≤ 1 := by rw [hk1]; exact Nat.min_le_left _ _
  have hk10 : 0 < n → 0 < k1 := fun h => by rw [hk1]; show 0 < min 1 n; omega
  have HK1 := Lib.hid hk1
  have HK10 := Lib.hid hk10
  clear hk1 hk10
  go_wp2_with (first
    | (go_at_call 49; (with_reducible refine (HMul.out _).mono ?_); rintro e w' ⟨rfl, rfl⟩)
    | (refine wpList_copy_size rfl (.tmp 31) (.tmp 32) 66 66 rfl 64 Try.underlying66 3 k1 HSZ.out w.heap.size 0 n n ⟨b, 0, none⟩ 1 1 rfl rfl (part3 n 0 v) 64 ?g1 (Hp.flatV (List.replicate k1 v)) HK1.out ?g2 ?g3 ?g4 ?g5 w.heap.size w ?g6 (Nat.le_refl _) ?_; (case g1 => exact heap_alloc_new w _); (case g2 => exact flatV_replicate_length k1 v); (case g3 => exact src1 (HBL.out) hk11 _); (case g4 => (rw [flatV_replicate_length, part3_length n 0 v (Nat.zero_le _)]; omega)); (case g5 => exact Hp.flatV_one _); (case g6 => exact (Below.refl _ _).alloc (Nat.le_refl _) _); intro w3 hg3 hb3; unfold goInt))
  have hg4 : w3.heap[w.heap.size]? = some (.cells (part3 n k1 v).toArray 64 (0, 0)) := by
    have h := hg3.out
    have e := part3_step n 0 k1 v (by omega)
    rw [Nat.zero_mul, Nat.zero_add] at e
    rw [e] at h
    exact h
  have HG := Lib.hid hg4
  have HB := Lib.hid hb3
  clear hg3 hb3 hg4 hmk
  clear n0 z1 z2 hgt hgt2
  go_loopg [8] n (fun gk s8 wx => ∃ k : Nat, k ≤ n ∧ n - k ≤ gk ∧ Hid (0 < n → 0 < k) ∧ s8 = .int .i64 k ∧ Hid (wx.heap[w.heap.size]? = some (.cells (part3 n k v).toArray 64 (0, 0))) ∧ Hid (Below w.heap.size w wx))
  case atStart => exact ⟨k1, hk1n, by omega, HK10.out, rfl, HG.out, HB.out⟩
  case round =>
    obtain ⟨k, hk, hgk, HP, rfl, HGr, HBr⟩ := hrel
    by_cases hlt : k < n
    · have hk0 : 0 < k := HP.out (by omega)
      have hg1 : (0 : Int) ≤ k := by omega
      have hg2 : (k : Int) ≤ n := by omega
      have hg3 : (k : Int) < n := by omega
      have hkn : ¬ k = n := by omega
      have hnk : ¬ n = k := by omega
      obtain ⟨c, hc⟩ : ∃ c, c = Nat.min k (n - k) := ⟨_, rfl⟩
      have hcb : 0 < c ∧ c ≤ k ∧ k + c ≤ n := by have : c = min k (n - k) := hc; omega
      have hgw : IntKind.i64.wrap ((k : Int) + c) = ((k + c : Nat) : Int) := by rw [IntKind.wrap_i64]; omega
      have HC := Lib.hid hc
      clear hc
      go_wp2_with fail
      go_region_law (refine step_copy_size rfl (.tmp 41) (.tmp 44) 66 66 rfl 64 Try.underlying66 3 c HSZ.out w.heap.size (k * 3) (n - k) (n - k) ⟨w.heap.size, 0, none⟩ k n ?g0 ?g00 (part3 n k v) 64 HGr.out (Hp.flatV (List.replicate c v)) HC.out ?g2 ?g3 ?g4 ?g5 w.heap.size w ?g6 (Nat.le_refl _) ?_; (case g0 => (simp only [Act.eval]; rfl)); (case g00 => (simp only [Act.eval]; rfl)); (case g2 => exact flatV_replicate_length c v); (case g3 => exact part3_cells HGr.out hk c hcb.2.1); (case g4 => (rw [flatV_replicate_length, part3_length n k v hk]; omega)); (case g5 => exact Hp.flatV_one _); (case g6 => exact HBr.out.drew); intro w4 hg4 hb4; unfold goInt)
      have hg5 := hg4.out
      rw [part3_step n k c v hcb.2.2] at hg5
      have HG5 := Lib.hid hg5
      have HB5 := Lib.hid hb4
      clear hg4 hb4 hg5
      go_wp2_with fail
      go_roundg (n - (k + c))
      case measure => omega
      case rel => exact ⟨k + c, hcb.2.2, by omega, fun _ => by omega, rfl, HG5.out, HB5.out⟩
    · obtain rfl : k = n := by omega
      go_wp2_with fail
      go_ret
      exact ⟨_, _, rfl, rep_own HGr.out (Nat.le_refl _) hn, HBr.out⟩
theorem repeat_any (v : Hp.V) (n : Nat) (hn : n ≤ 1000) (b : Nat) (w : World) (hb : w.heap[b]? = some (.cells #[.int .i64 v.kind, .int .i64 v.int, .string v.text] 64 (0, 0))) :
    Calls Try.prog 35 #[.slice (some ⟨b, 0, none⟩) 1 1, .int .i64 n] w (RepPost n v w) := repeat_wide v n (by omega) b w hb
end Go.Proofs.Ytalfnaielhbocaa
namespace Go.Proofs.Ytalfnaielhbocaa
open Go.RowKit
set_option linter.unusedVariables false
set_option linter.unusedSimpArgs false
set_option maxRecDepth 100000
theorem run_copy_zero {P : Program} (w : World) (dT sT ty elem : TypeId) (sz : Nat) (d a : Option Addr) (dLen dCap sCap : Nat) (hu : P.underlying dT = some (.slice elem)) (hs : (P.info? elem).map (·.size) = some sz) :
    (Builtin.copy_ #[dT, sT] ty #[.slice d dLen dCap, .slice a 0 sCap]).run P w = .ok (goInt 0) w := by
  cases hq : P.info? elem with
  | none => simp [hq] at hs
  | some i =>
    have hl : ∀ (x : Addr), (loadCells x 0).run P w = .ok #[] w := fun x => by simpa using run_loadCells_list (P := P) w x [] (by simp)
    cases d <;> cases a <;> simp [Builtin.copy_, run_underlying hu, Builtin.lenOf, Builtin.firstCells, sizeOf, typeInfo, hq, storeCells, hl]
theorem heap_setRow_ne (w : World) (g b : Nat) (cs : Array Value) (h : b ≠ g) : (w.setRow g cs).heap[b]? = w.heap[b]? := by
  unfold World.setRow
  simp only [Array.getElem?_modify]
  rw [if_neg (fun e => h e.symm)]
theorem run_copy_own {w : World} {B : Nat} {dv : Value} {rs a : List Hp.V} {aa : Option Addr} {ca : Nat} (hd : w.ownsRow B 64 3 dv rs.length (Hp.flatV rs)) (ha : VSl w (.slice aa a.length ca) a) (hle : a.length ≤ rs.length) (ty : TypeId) :
    ∃ w', (Builtin.copy_ #[66, 66] ty #[dv, .slice aa a.length ca]).run Try.prog w = .ok (goInt a.length) w' ∧ w'.ownsRow B 64 3 dv rs.length (Hp.flatV (a ++ rs.drop a.length)) ∧ w.grownBy w' dv.ownBlock := by
  obtain ⟨ad, cd, hdv⟩ := own_slice hd
  by_cases hz : a = []
  · subst hz
    refine ⟨w, ?_, by simpa using hd, ⟨rfl, rfl, rfl, Nat.le_refl _, fun _ _ _ => rfl⟩⟩
    rw [hdv]
    exact run_copy_zero w _ _ _ _ 3 ad aa rs.length cd ca Try.underlying66 valSizeR
  · have hpos : 0 < a.length := List.length_pos_iff.2 hz
    obtain ⟨aa', ca', e, h | ⟨ad', h1, h2⟩⟩ := ha
    · exact absurd h.2.2 hz
    cases e
    subst h1
    obtain ⟨hl, ⟨_, e⟩ | ⟨g, cap, cur, hv, hB, hg, hn, hc, hsz, ht⟩⟩ := hd
    · omega
    rw [hdv] at hv
    cases hv
    have hcs : (Hp.flatV a).length = a.length * 3 := Hp.flatV_length a
    have hfit : 0 + (Hp.flatV a).length ≤ cur.size := by rw [hcs, hsz]; omega
    have hrun := run_copy_size (P := Try.prog) w 66 66 ty 64 3 a.length g 0 rs.length cd ad' a.length ca cur 64 (Hp.flatV a) Try.underlying66 valSizeR hg (by show _ = min _ _; omega) hcs h2 hfit (Hp.flatV_one a)
    simp only [Nat.zero_add, List.take_zero, List.nil_append] at hrun
    refine ⟨_, by rw [hdv]; exact hrun, ⟨?_, (.inr ⟨g, cd, _, hdv, hB, setRow_heap w g _ _ _ _ hg, hn, hc, ?_, ?_⟩)⟩, ⟨rfl, rfl, rfl, by simp, fun b hb hne => heap_setRow_ne w g b _ fun e => hne (by rw [hdv, e]; rfl)⟩⟩
    · rw [Hp.flatV_length, List.length_append, List.length_drop]
      omega
    · show (Hp.flatV a ++ cur.toList.drop (Hp.flatV a).length).length = _
      have hcl : cur.toList.length = cur.size := rfl
      rw [List.length_append, List.length_drop, hcs]
      omega
    · have hle3 : a.length * 3 ≤ rs.length * 3 := by omega
      rw [Hp.flatV_append, ← flatV_drop, ← ht]
      show (Hp.flatV a ++ cur.toList.drop (Hp.flatV a).length).take (rs.length * 3) = _
      rw [List.take_append, hcs, List.drop_take, List.take_of_length_le (by rw [hcs]; exact hle3)]
theorem wpList_copy_vals {w : World} {ops : Array Oper} {rest : List Oper} {o : Oper} {x : Act} {Q : Exit → Act → World → Prop} (hgd : o.guard = none) (d s : Operand)
    (ho : o.op = .call { callee := .builtin .copy, args := #[d, s], argTypes := #[66, 66] }) {B : Nat} {dv : Value} {rs a : List Hp.V} {aa : Option Addr} {ca : Nat} (hdv : x.eval d = dv) (hsv : x.eval s = .slice aa a.length ca)
    (hd : w.ownsRow B 64 3 dv rs.length (Hp.flatV rs)) (ha : VSl w (.slice aa a.length ca) a) (hle : a.length ≤ rs.length)
    (h : ∀ w', w'.ownsRow B 64 3 dv rs.length (Hp.flatV (a ++ rs.drop a.length)) → w.grownBy w' dv.ownBlock → wpList Try.prog ops Q rest (x.put o.dst (goInt a.length)) w') : wpList Try.prog ops Q (o :: rest) x w := by
  refine wpList_plain hgd fun K hK => ?_
  obtain ⟨w', hrun, h1, h2⟩ := run_copy_own hd ha hle o.type
  unfold Oper.wp execOp
  simp only [ho, resolve, invoke, builtin, Sem.run_bind, Sem.run_pure, Result.andThen_ok, List.map_toArray, List.map_cons, List.map_nil, hdv, hsv, hrun]
  exact hK _ _ (h w' h1 h2)
end Go.Proofs.Ytalfnaielhbocaa
