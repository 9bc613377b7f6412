/- What a machine of registers keeps, plainly. -/
import Derived.Test.YtalfnaielhbocaaNJay
set_option linter.unusedVariables false
set_option linter.unusedSimpArgs false
set_option linter.unnecessarySimpa false
namespace Go.Proofs.Ytalfnaielhbocaa
open Go.RowKit
set_option linter.unusedVariables false
set_option linter.unusedSimpArgs false
namespace Vm
abbrev Tx (l : List Hp.V) : Prop := ∀ v ∈ l, v.text.size ≤ maxLen
theorem Tx.getD {l : List Hp.V} (h : Tx l) (k : Nat) : (l.getD k Hp.none).text.size ≤ maxLen := Hp.getD_text h k
theorem Tx.set {l : List Hp.V} (h : Tx l) (k : Nat) {v : Hp.V} (hv : v.text.size ≤ maxLen) : Tx (l.set k v) := fun x hx => by
  rcases List.mem_or_eq_of_mem_set hx with e | e
  · exact h x e
  · exact e ▸ hv
theorem Tx.vals {l : List Hp.V} (h : Tx l) (a : List Int) : Tx (vals l a) := fun x hx => by
  unfold Vm.vals at hx
  obtain ⟨r, _, rfl⟩ := List.mem_map.1 hx
  exact h.getD _
theorem vals_length (l : List Hp.V) (a : List Int) : (vals l a).length = a.length := by simp [vals]
def Kn (c : Code) (C : List Cl) (i proc : Nat) : Prop := ∃ k p, look C i = some k ∧ k.kont = false ∧ k.proc = proc ∧ c[proc]? = some p ∧ (k.held.length : Int) = p.holds
theorem look_snoc {C : List Cl} {i : Int} {k : Cl} (h : look C i = some k) (x : Cl) : look (C ++ [x]) i = some k := by
  unfold look at *
  rw [List.find?_append, h]
  rfl
theorem look_tied {C : List Cl} {i : Int} (q j : Nat) (v : Hp.V) : look (tied C q j v) i = (look C i).map fun c => if c.key = q then { c with held := c.held.set j v } else c := by
  induction C with
  | nil => rfl
  | cons x C ih =>
    unfold look tied at *
    rw [List.map_cons, List.find?_cons, List.find?_cons, ih]
    have e : (if x.key = q then { x with held := x.held.set j v } else x).key = x.key := by split <;> rfl
    rw [e]
    split
    · rfl
    · rfl
theorem look_mem' {C : List Cl} {k : Int} {c : Cl} (h : look C k = some c) : c ∈ C ∧ (c.key : Int) = k := by
  unfold look at h
  exact ⟨List.mem_of_find?_eq_some h, by simpa using List.find?_some h⟩
theorem Kn.snoc {c : Code} {C : List Cl} {i proc : Nat} (h : Kn c C i proc) (x : Cl) : Kn c (C ++ [x]) i proc := by
  obtain ⟨k, p, h, r⟩ := h
  exact ⟨k, p, look_snoc h x, r⟩
theorem Kn.tied {c : Code} {C : List Cl} {i proc : Nat} (h : Kn c C i proc) (q j : Nat) (v : Hp.V) : Kn c (tied C q j v) i proc := by
  obtain ⟨k, p, h, h2, h3, h4, h5⟩ := h
  refine ⟨_, p, by rw [look_tied, h]; rfl, ?_, ?_, h4, ?_⟩
  · dsimp only; split <;> exact h2
  · dsimp only; split <;> exact h3
  · dsimp only
    split
    · rw [List.length_set]; exact h5
    · exact h5
structure FrOk (c : Code) (C : List Cl) (f : Fr) : Prop where
  at' : ∃ p b, c[f.proc]? = some p ∧ p.blocks[f.next]? = some b ∧ (f.regs.length : Int) = p.regs
  to : f.to < f.regs.length
  cl : Kn c C f.cl f.proc
  tx : Tx f.regs
structure ClOk (c : Code) (C : List Cl) (k : Cl) : Prop where
  kn : k.kont = false → ∃ p, c[k.proc]? = some p ∧ (k.held.length : Int) = p.holds
  tx : Tx k.held
  frs : ∀ f ∈ k.frs, FrOk c C f
theorem FrOk.snoc {c : Code} {C : List Cl} {f : Fr} (h : FrOk c C f) (x : Cl) : FrOk c (C ++ [x]) f := ⟨h.at', h.to, h.cl.snoc x, h.tx⟩
theorem FrOk.tied {c : Code} {C : List Cl} {f : Fr} (h : FrOk c C f) (q j : Nat) (v : Hp.V) : FrOk c (tied C q j v) f := ⟨h.at', h.to, h.cl.tied q j v, h.tx⟩
structure Mo (c : Code) (n : Nat) (s : St) : Prop where
  good : Hp.Good n s.T
  wf : Hp.WfT s.T
  frs : ∀ f ∈ s.frs, FrOk c s.cls f
  cls : ∀ k ∈ s.cls, k.key < s.T.length ∧ ClOk c s.cls k
  win : s.winders.text.size ≤ maxLen
  told : s.told.text.size ≤ maxLen
  out : s.out.length ≤ n
structure Cu (c : Code) (s : St) : Prop where
  at' : ∃ p b, c[s.proc]? = some p ∧ p.blocks[s.block]? = some b ∧ s.pos ≤ b.ins.length ∧ (s.regs.length : Int) = p.regs
  cl : Kn c s.cls s.cl s.proc
  tx : Tx s.regs
structure CodeOk (c : Code) : Prop where
  all : ∀ p ∈ c, prcB c p = true
  regs : ∀ p ∈ c, p.regs ≤ 2000
  head : ∃ p l, c = p :: l ∧ p.params = 0 ∧ p.holds = 0
  fit : ∀ p ∈ c, ∀ b ∈ p.blocks, ∀ x ∈ b.ins, Dt.Fit x.const
  few : ∀ p ∈ c, ∀ b ∈ p.blocks, b.ins.length ≤ 4096
theorem Mo.mono {c : Code} {n k : Nat} {s : St} (h : Mo c n s) (hn : n ≤ k) : Mo c k s := ⟨h.good.mono hn, h.wf, h.frs, h.cls, h.win, h.told, Nat.le_trans h.out hn⟩
theorem Kn.lt {c : Code} {n : Nat} {s : St} {i proc : Nat} (hm : Mo c n s) (h : Kn c s.cls i proc) : i < s.T.length := by
  obtain ⟨k, p, h, _⟩ := h
  obtain ⟨h1, h2⟩ := look_mem' h
  have := (hm.cls k h1).1
  omega
theorem prcB_facts {c : Code} {p : Prc} (h : prcB c p = true) : 0 ≤ p.params ∧ p.params ≤ 6 ∧ 0 ≤ p.holds ∧ p.holds ≤ 1000 ∧ p.params ≤ p.regs ∧ 0 < p.blocks.length ∧ ∀ b ∈ p.blocks, (∀ x ∈ b.ins, insB c p x = true) ∧ finB p b.fin = true := by
  unfold prcB at h
  simp only [Bool.and_eq_true, decide_eq_true_eq, List.all_eq_true] at h
  obtain ⟨⟨⟨⟨⟨⟨h1, h2⟩, h3⟩, h4⟩, h5⟩, h6⟩, h7⟩ := h
  refine ⟨h1, h2, h3, h4, h5, h6, fun b hb => ?_⟩
  have := h7 b hb
  unfold blkB at this
  simpa only [Bool.and_eq_true, List.all_eq_true] using this
theorem tell_ok {c : Code} {n : Nat} {s : St} {v : Hp.V} (h : Mo c n s) (hv : v.text.size ≤ maxLen) : Mo c n (tell s v) ∧ ((tell s v).done = false → s.done = false → Cu c (tell s v)) := by
  unfold tell
  cases hf : s.frs with
  | nil => exact ⟨⟨h.good, h.wf, (fun f e => nomatch e), h.cls, h.win, hv, h.out⟩, fun e => by simp at e⟩
  | cons f fs =>
    have hfo := h.frs f (by rw [hf]; exact List.mem_cons_self ..)
    refine ⟨⟨h.good, h.wf, fun g hg => h.frs g (by rw [hf]; exact List.mem_cons_of_mem _ hg), h.cls, h.win, h.told, h.out⟩, fun _ _ => ?_⟩
    obtain ⟨p, b, h1, h2, h3⟩ := hfo.at'
    exact ⟨⟨p, b, h1, h2, Nat.zero_le _, by simpa using h3⟩, hfo.cl, hfo.tx.set _ hv⟩
theorem call_ok {c : Code} {n : Nat} {s : St} {v : Hp.V} {a : List Hp.V} (hc : CodeOk c) (h : Mo c n s) (ha : Tx a) : Mo c n (call c s v a) ∧ ((call c s v a).e = 0 → (call c s v a).done = false → s.done = false → Cu c (call c s v a)) := by
  unfold call
  cases hf : find s.cls v with
  | none => exact ⟨⟨h.good, h.wf, h.frs, h.cls, h.win, h.told, h.out⟩, fun e => by simp at e⟩
  | some k =>
    unfold find at hf
    split at hf
    case isFalse => cases hf
    obtain ⟨hm, hk⟩ := look_mem' hf
    obtain ⟨hk1, hk2⟩ := h.cls k hm
    dsimp only
    split
    · have := tell_ok (s := { s with frs := k.frs }) (v := a.getD 0 Hp.none) (c := c) (n := n) ⟨h.good, h.wf, hk2.frs, h.cls, h.win, h.told, h.out⟩ (ha.getD 0)
      exact ⟨this.1, fun _ e2 e3 => this.2 e2 e3⟩
    · cases hp : c[k.proc]? with
      | none => exact ⟨⟨h.good, h.wf, h.frs, h.cls, h.win, h.told, h.out⟩, fun e => by simp at e⟩
      | some p =>
        dsimp only
        split
        · exact ⟨⟨h.good, h.wf, h.frs, h.cls, h.win, h.told, h.out⟩, fun e => by simp at e⟩
        · rename_i hkp
          have hk0 : k.kont = false := by cases e : k.kont with
            | false => rfl
            | true => exact absurd (Or.inl e) hkp
          have hal : (a.length : Int) = p.params := Decidable.byContradiction fun e => hkp (.inr e)
          have hpf := prcB_facts (hc.all p (List.mem_of_getElem? hp))
          refine ⟨⟨h.good, h.wf, h.frs, h.cls, h.win, h.told, h.out⟩, fun _ _ _ => ⟨⟨p, p.blocks[0]'hpf.2.2.2.2.2.1, hp, List.getElem?_eq_getElem _, Nat.zero_le _, ?_⟩, ?_, ?_⟩⟩
          · rw [List.length_append, List.length_replicate]; omega
          · obtain ⟨p', e1, e2⟩ := hk2.kn hk0
            exact ⟨k, p', by rw [hk]; exact hf, hk0, rfl, e1, e2⟩
          · intro x hx
            rcases List.mem_append.1 hx with e | e
            · exact ha x e
            · rw [(List.mem_replicate.1 e).2]; exact Nat.zero_le _
theorem made_ok {c : Code} {n : Nat} {s : St} {proc : Nat} {held : List Hp.V} {kont : Bool} {frs : List Fr} (h : Mo c n s) (hk : ClOk c s.cls ⟨s.T.length, proc, held, kont, frs⟩) : Mo c (n + 1) (s.made proc held kont frs) := by
  have hw : Hp.WfT (s.T ++ [⟨4, []⟩]) := Hp.wf_add h.wf ⟨by decide, by decide, by decide, Nat.zero_le _, fun p hp => by cases hp⟩
  refine ⟨⟨?_, fun t ht => ?_, fun t ht => ?_⟩, hw, fun f hf => (h.frs f hf).snoc _, fun k hk' => ?_, h.win, h.told, Nat.le_succ_of_le h.out⟩
  · have := h.good.len
    simp [St.made]; omega
  · rcases List.mem_append.1 ht with e | e
    · exact h.good.few t e
    · rw [List.mem_singleton] at e; rw [e]; exact Nat.zero_le _
  · rcases List.mem_append.1 ht with e | e
    · exact h.good.text t e
    · rw [List.mem_singleton] at e; rw [e]; intro p hp; cases hp
  · have hl : (s.made proc held kont frs).T.length = s.T.length + 1 := by simp [St.made]
    rw [hl]
    rcases List.mem_append.1 hk' with e | e
    · obtain ⟨h1, h2⟩ := h.cls k e
      exact ⟨by omega, h2.kn, h2.tx, fun f hf => (h2.frs f hf).snoc _⟩
    · rw [List.mem_singleton] at e
      subst e
      exact ⟨by simp, hk.kn, hk.tx, fun f hf => (hk.frs f hf).snoc _⟩
theorem made_cu {c : Code} {s : St} {proc : Nat} {held : List Hp.V} {kont : Bool} {frs : List Fr} (h : Cu c s) : Cu c (s.made proc held kont frs) := ⟨h.at', h.cl.snoc _, h.tx⟩
theorem setR_cu {c : Code} {s : St} {r : Int} {v : Hp.V} (h : Cu c s) (hv : v.text.size ≤ maxLen) : Cu c (s.setR r v) := by
  obtain ⟨p, b, h1, h2, h3, h4⟩ := h.at'
  exact ⟨⟨p, b, h1, h2, h3, by simpa [St.setR] using h4⟩, h.cl, h.tx.set _ hv⟩
theorem setR_mo {c : Code} {n : Nat} {s : St} {r : Int} {v : Hp.V} (h : Mo c n s) : Mo c n (s.setR r v) := ⟨h.good, h.wf, h.frs, h.cls, h.win, h.told, h.out⟩
theorem putF_len (T : List Hp.Th) (v : Hp.V) (i : Int) (x : Hp.V) : T.length ≤ (Hp.putF T v i x).2.2.length := by
  unfold Hp.putF
  split <;> simp
theorem addF_len (T : List Hp.Th) (t : Hp.Th) : T.length ≤ (Hp.addF T t).2.2.length := by simp [Hp.addF]
theorem fillF_len (T : List Hp.Th) (k n : Int) (v : Hp.V) : T.length ≤ (Hp.fillF T k n v).2.2.length := by
  unfold Hp.fillF
  split
  · exact Nat.le_refl _
  · exact addF_len _ _
theorem getF_len (T : List Hp.Th) (v : Hp.V) (i : Int) : T.length ≤ (Hp.getF T v i).2.2.length := by
  unfold Hp.getF
  split <;> exact Nat.le_refl _
theorem actF_len (T : List Hp.Th) (i : Nat) (a b c : Hp.V) (l : List Hp.V) : T.length ≤ (Hp.actF T i a b c l).2.2.length := by
  unfold Hp.actF
  split <;> first
    | exact Nat.le_refl _
    | exact putF_len _ _ _ _
    | exact addF_len _ _
    | exact fillF_len _ _ _ _
    | exact getF_len _ _ _
    | (unfold Hp.sayF; exact Nat.le_refl _)
    | (split <;> first | exact Nat.le_refl _ | exact putF_len _ _ _ _ | exact addF_len _ _ | exact fillF_len _ _ _ _ | exact getF_len _ _ _)
theorem doF_len (T : List Hp.Th) (p : ByteArray) (l : List Hp.V) : T.length ≤ (Hp.doF T p l).2.2.length := by
  unfold Hp.doF
  split
  · split
    · exact Nat.le_refl _
    · split
      · exact Nat.le_refl _
      · split
        · exact Nat.le_refl _
        · exact actF_len _ _ _ _ _ _
  · exact Nat.le_refl _
theorem prim_ok {c : Code} {n : Nat} {s : St} {p : ByteArray} {a : List Hp.V} (h : Mo c n s) (ha : Tx a) (hl : a.length ≤ 1000) : Mo c (n + 1) (prim s p a).2 ∧ (prim s p a).1.text.size ≤ maxLen := by
  have h1 := h.mono (Nat.le_succ n)
  unfold prim
  split
  · split
    · exact ⟨h1, Nat.zero_le _⟩
    · exact ⟨⟨h1.good, h1.wf, h1.frs, h1.cls, h1.win, h1.told, h1.out⟩, Nat.zero_le _⟩
  · split
    · refine ⟨?_, Nat.zero_le _⟩
      dsimp only
      split
      · exact ⟨h1.good, h1.wf, h1.frs, h1.cls, h1.win, h1.told, h1.out⟩
      · split
        · exact ⟨h1.good, h1.wf, h1.frs, h1.cls, h1.win, h1.told, h1.out⟩
        · refine ⟨h1.good, h1.wf, h1.frs, h1.cls, h1.win, h1.told, ?_⟩
          have := h.out
          simp; omega
    · split
      · exact ⟨⟨h1.good, h1.wf, h1.frs, h1.cls, h1.win, h1.told, h1.out⟩, Nat.zero_le _⟩
      · split
        · exact ⟨h1, h.win⟩
        · split
          · exact ⟨⟨h1.good, h1.wf, h1.frs, h1.cls, ha.getD 0, h1.told, h1.out⟩, Nat.zero_le _⟩
          · have hg := Hp.good_do h.good p a ha hl
            have hw := Hp.wf_do h.wf p a hl
            have hln := doF_len s.T p a
            exact ⟨⟨hg.1, hw, h.frs, fun k hk => ⟨Nat.lt_of_lt_of_le (h.cls k hk).1 hln, (h.cls k hk).2⟩, h.win, h.told, Nat.le_succ_of_le h.out⟩, hg.2⟩
theorem prim_same (s : St) (p : ByteArray) (a : List Hp.V) : (prim s p a).2.cls = s.cls ∧ (prim s p a).2.proc = s.proc ∧ (prim s p a).2.regs = s.regs ∧ (prim s p a).2.cl = s.cl ∧ (prim s p a).2.block = s.block ∧ (prim s p a).2.pos = s.pos ∧ (prim s p a).2.frs = s.frs ∧ (prim s p a).2.done = s.done ∧ (prim s p a).2.told = s.told := by
  unfold prim
  split
  · split <;> exact ⟨rfl, rfl, rfl, rfl, rfl, rfl, rfl, rfl, rfl⟩
  · split
    · dsimp only
      split
      · exact ⟨rfl, rfl, rfl, rfl, rfl, rfl, rfl, rfl, rfl⟩
      · split <;> exact ⟨rfl, rfl, rfl, rfl, rfl, rfl, rfl, rfl, rfl⟩
    · split
      · exact ⟨rfl, rfl, rfl, rfl, rfl, rfl, rfl, rfl, rfl⟩
      · split
        · exact ⟨rfl, rfl, rfl, rfl, rfl, rfl, rfl, rfl, rfl⟩
        · split <;> exact ⟨rfl, rfl, rfl, rfl, rfl, rfl, rfl, rfl, rfl⟩
theorem prim_cu {c : Code} {s : St} {p : ByteArray} {a : List Hp.V} (h : Cu c s) : Cu c (prim s p a).2 := by
  obtain ⟨h1, h2, h3, h4, h5, h6, h7, h8, h9⟩ := prim_same s p a
  obtain ⟨⟨pr, b, e1, e2, e3, e4⟩, k, t⟩ := h
  exact ⟨⟨pr, b, by rw [h2]; exact e1, by rw [h5]; exact e2, by rw [h6]; exact e3, by rw [h3]; exact e4⟩, by rw [h1, h2, h4]; exact k, by rw [h3]; exact t⟩
theorem constF_text {d : Dt} (h : Dt.Fit d) : (constF d).1.text.size ≤ maxLen := by
  cases h with
  | mk k i t l ht hl hh =>
    unfold constF
    split
    · exact Nat.zero_le _
    · split
      · exact Nat.zero_le _
      · split
        · exact Nat.zero_le _
        · split
          · exact Nat.zero_le _
          · split
            · exact ht
            · split <;> exact Nat.zero_le _
theorem insB_facts {c : Code} {p : Prc} {x : Ins} (h : insB c p x = true) : x.op ≠ sCallcc ∧ (x.op ≠ sTie → 0 ≤ x.to ∧ x.to < p.regs) ∧ (∀ r ∈ x.args, 0 ≤ r ∧ r < p.regs) ∧
    (x.op = sMove → x.args.length = 1) ∧ (x.op = sHeld → 0 ≤ x.num ∧ x.num < p.holds) ∧ (x.op = sTie → x.args.length = 2 ∧ 0 ≤ x.num) ∧
    (x.op = sClosure → 1 ≤ x.num ∧ ∃ q, c[x.num.toNat]? = some q ∧ (x.args.length : Int) = q.holds) ∧
    (x.op ≠ sConst → x.op ≠ sMove → x.op ≠ sHeld → x.op ≠ sClosure → x.op ≠ sTie → (x.args.length : Int) = arity x.op) := by
  have hreg : ∀ l, regsB p l = true → ∀ r ∈ l, 0 ≤ r ∧ r < p.regs := fun l hl r hr => by
    unfold regsB at hl
    rw [List.all_eq_true] at hl
    simpa using hl r hr
  have n1 : sConst ≠ sCallcc := by decide
  have n2 : sMove ≠ sCallcc := by decide
  have n3 : sHeld ≠ sCallcc := by decide
  have n4 : sClosure ≠ sCallcc := by decide
  have n5 : sTie ≠ sCallcc := by decide
  have m1 : sConst ≠ sMove := by decide
  have m2 : sConst ≠ sHeld := by decide
  have m3 : sConst ≠ sClosure := by decide
  have m4 : sConst ≠ sTie := by decide
  have m5 : sMove ≠ sHeld := by decide
  have m6 : sMove ≠ sClosure := by decide
  have m7 : sMove ≠ sTie := by decide
  have m8 : sHeld ≠ sClosure := by decide
  have m9 : sHeld ≠ sTie := by decide
  have m10 : sClosure ≠ sTie := by decide
  unfold insB at h
  by_cases e1 : x.op = sConst
  · rw [if_pos e1] at h
    simp only [Bool.and_eq_true, decide_eq_true_eq] at h
    obtain ⟨⟨⟨h1, h2⟩, h3⟩, h4⟩ := h
    have ha : x.args = [] := List.eq_nil_of_length_eq_zero h1
    refine ⟨by rw [e1]; exact n1, fun _ => hreg _ h3 _ (by simp), fun r hr => (by rw [ha] at hr; cases hr), fun e => absurd (e1.symm.trans e) m1, fun e => absurd (e1.symm.trans e) m2, fun e => absurd (e1.symm.trans e) m4, fun e => absurd (e1.symm.trans e) m3, fun e => absurd e1 e⟩
  · rw [if_neg e1] at h
    by_cases e2 : x.op = sMove
    · rw [if_pos e2] at h
      simp only [Bool.and_eq_true, decide_eq_true_eq] at h
      obtain ⟨⟨⟨⟨h1, h2⟩, h3⟩, h4⟩, h5⟩ := h
      refine ⟨by rw [e2]; exact n2, fun _ => hreg _ h3 _ (by simp), hreg _ h4, fun _ => h1, fun e => absurd (e2.symm.trans e) m5, fun e => absurd (e2.symm.trans e) m7, fun e => absurd (e2.symm.trans e) m6, fun _ e => absurd e2 e⟩
    · rw [if_neg e2] at h
      by_cases e3 : x.op = sHeld
      · rw [if_pos e3] at h
        simp only [Bool.and_eq_true, decide_eq_true_eq] at h
        obtain ⟨⟨⟨⟨h1, h2⟩, h3⟩, h4⟩, h5⟩ := h
        refine ⟨by rw [e3]; exact n3, fun _ => hreg _ h3 _ (by simp), hreg _ h4, fun e => absurd e e2, fun _ => h2, fun e => absurd (e3.symm.trans e) m9, fun e => absurd (e3.symm.trans e) m8, fun _ _ e => absurd e3 e⟩
      · rw [if_neg e3] at h
        by_cases e4 : x.op = sClosure
        · rw [if_pos e4] at h
          simp only [Bool.and_eq_true, decide_eq_true_eq] at h
          obtain ⟨⟨⟨⟨h1, h2⟩, h3⟩, h4⟩, h5⟩ := h
          refine ⟨by rw [e4]; exact n4, fun _ => hreg _ h3 _ (by simp), hreg _ h4, fun e => absurd e e2, fun e => absurd e e3, fun e => absurd (e4.symm.trans e) m10, fun _ => ⟨h1.1, ?_⟩, fun _ _ _ e => absurd e4 e⟩
          cases hq : c[x.num.toNat]? with
          | none => rw [hq] at h2; simp at h2
          | some q => rw [hq] at h2; exact ⟨q, rfl, by simpa using h2⟩
        · rw [if_neg e4] at h
          by_cases e5 : x.op = sTie
          · rw [if_pos e5] at h
            simp only [Bool.and_eq_true, decide_eq_true_eq] at h
            obtain ⟨⟨⟨⟨h1, h2⟩, h3⟩, h4⟩, h5⟩ := h
            exact ⟨by rw [e5]; exact n5, fun e => absurd e5 e, hreg _ h4, fun e => absurd e e2, fun e => absurd e e3, fun _ => ⟨h1, h2⟩, fun e => absurd e e4, fun _ _ _ _ e => absurd e5 e⟩
          · rw [if_neg e5] at h
            by_cases e6 : x.op = sCallcc
            · rw [if_pos e6] at h; cases h
            · rw [if_neg e6] at h
              simp only [Bool.and_eq_true, decide_eq_true_eq] at h
              obtain ⟨⟨⟨⟨h1, h2⟩, h3⟩, h4⟩, h5⟩ := h
              exact ⟨e6, fun _ => hreg _ h3 _ (by simp), hreg _ h4, fun e => absurd e e2, fun e => absurd e e3, fun e => absurd e e5, fun e => absurd e e4, fun _ _ _ _ _ => h1⟩
theorem arity_le (s : ByteArray) : arity s ≤ 3 := by
  unfold arity
  split
  · decide
  · split
    · decide
    · split
      · decide
      · split <;> decide
theorem insB_few {c : Code} (hc : CodeOk c) {p : Prc} {x : Ins} (h : insB c p x = true) : x.args.length ≤ 1000 := by
  obtain ⟨_, _, _, h1, h2, h3, h4, h5⟩ := insB_facts h
  by_cases e1 : x.op = sConst
  · unfold insB at h
    rw [if_pos e1] at h
    simp only [Bool.and_eq_true, decide_eq_true_eq] at h
    omega
  · by_cases e2 : x.op = sMove
    · have := h1 e2; omega
    · by_cases e3 : x.op = sHeld
      · unfold insB at h
        rw [if_neg e1, if_neg e2, if_pos e3] at h
        simp only [Bool.and_eq_true, decide_eq_true_eq] at h
        omega
      · by_cases e4 : x.op = sClosure
        · obtain ⟨_, q, hq, hl⟩ := h4 e4
          have := prcB_facts (hc.all q (List.mem_of_getElem? hq))
          omega
        · by_cases e5 : x.op = sTie
          · have := h3 e5; omega
          · have := h5 e1 e2 e3 e4 e5
            have := arity_le x.op
            omega
theorem doI_ok {c : Code} {n : Nat} {s : St} {x : Ins} {p : Prc} (hc : CodeOk c) (h : Mo c n s) (hu : Cu c s) (hp : c[s.proc]? = some p) (hx : insB c p x = true) (hf : Dt.Fit x.const) : Mo c (n + 1) (doI s x) ∧ Cu c (doI s x) := by
  have h1 := h.mono (Nat.le_succ n)
  have htx : Tx (vals s.regs x.args) := hu.tx.vals _
  have hfew := insB_few hc hx
  have hx4 := (insB_facts hx).2.2.2.2.2.2.1
  unfold doI
  split
  · exact ⟨setR_mo h1, setR_cu hu (constF_text hf)⟩
  · split
    · exact ⟨setR_mo h1, setR_cu hu (htx.getD 0)⟩
    · split
      · refine ⟨setR_mo h1, setR_cu hu ?_⟩
        obtain ⟨k, p', e1, e2, e3, e4, e5⟩ := hu.cl
        have : Tx s.held := by
          unfold St.held
          rw [e1]
          exact ((h.cls k (look_mem' e1).1).2).tx
        exact this.getD _
      · split
        · rename_i e4
          obtain ⟨_, q, hq, hl⟩ := hx4 e4
          have hk : ClOk c s.cls ⟨s.T.length, x.num.toNat, vals s.regs x.args, false, []⟩ := ⟨fun _ => ⟨q, hq, by rw [vals_length]; exact hl⟩, htx, fun f hf => by cases hf⟩
          exact ⟨setR_mo (made_ok h hk), setR_cu (made_cu hu) (Nat.zero_le _)⟩
        · split
          · split
            · exact ⟨⟨h1.good, h1.wf, h1.frs, h1.cls, h1.win, h1.told, h1.out⟩, ⟨hu.at', hu.cl, hu.tx⟩⟩
            · split
              · exact ⟨⟨h1.good, h1.wf, h1.frs, h1.cls, h1.win, h1.told, h1.out⟩, ⟨hu.at', hu.cl, hu.tx⟩⟩
              · refine ⟨⟨h1.good, h1.wf, fun f hf => (h1.frs f hf).tied _ _ _, fun k hk => ?_, h1.win, h1.told, h1.out⟩, ⟨hu.at', hu.cl.tied _ _ _, hu.tx⟩⟩
                unfold tied at hk
                obtain ⟨k0, hk0, rfl⟩ := List.mem_map.1 hk
                obtain ⟨q1, q2⟩ := h1.cls k0 hk0
                refine ⟨by split <;> exact q1, ?_⟩
                split
                · exact ⟨fun e => by rw [List.length_set]; exact q2.kn e, q2.tx.set _ (htx.getD 1), fun f hf => (q2.frs f hf).tied _ _ _⟩
                · exact ⟨q2.kn, q2.tx, fun f hf => (q2.frs f hf).tied _ _ _⟩
          · have hpr := prim_ok (p := x.op) h htx (by rw [vals_length]; exact hfew)
            split
            · exact ⟨setR_mo hpr.1, setR_cu (prim_cu hu) hpr.2⟩
            · exact ⟨hpr.1, prim_cu hu⟩
theorem finB_facts {p : Prc} {x : Fin} (h : finB p x = true) : 0 ≤ x.kind ∧ x.kind ≤ 6 ∧ (x.kind ≠ 0 → 0 ≤ x.reg ∧ x.reg < p.regs) ∧ (∀ r ∈ x.args, 0 ≤ r ∧ r < p.regs) ∧ x.args.length ≤ 6 ∧
    (x.kind = 0 ∨ x.kind = 1 ∨ x.kind = 4 ∨ x.kind = 6 → 0 ≤ x.next ∧ x.next < p.blocks.length) ∧ (x.kind = 1 → 0 ≤ x.els ∧ x.els < p.blocks.length) ∧ (x.kind = 4 ∨ x.kind = 6 → 0 ≤ x.to ∧ x.to < p.regs) := by
  have hreg : ∀ l, regsB p l = true → ∀ r ∈ l, 0 ≤ r ∧ r < p.regs := fun l hl r hr => by
    unfold regsB at hl
    rw [List.all_eq_true] at hl
    simpa using hl r hr
  have hblk : ∀ b, blockB p b = true → 0 ≤ b ∧ b < p.blocks.length := fun b hb => by
    unfold blockB at hb
    simpa using hb
  have hnil : ∀ {l : List Int}, l.length = 0 → (∀ r ∈ l, 0 ≤ r ∧ r < p.regs) ∧ l.length ≤ 6 := fun hl => by
    rw [List.eq_nil_of_length_eq_zero hl]; simp
  unfold finB at h
  split at h
  · simp only [Bool.and_eq_true, decide_eq_true_eq] at h
    obtain ⟨⟨⟨⟨h1, h2⟩, h3⟩, h4⟩, h5⟩ := h
    exact ⟨by omega, by omega, by omega, (hnil h2).1, (hnil h2).2, fun _ => hblk _ h1, by omega, by omega⟩
  · split at h
    · simp only [Bool.and_eq_true, decide_eq_true_eq] at h
      obtain ⟨⟨⟨⟨h1, h2⟩, h3⟩, h4⟩, h5⟩ := h
      exact ⟨by omega, by omega, fun _ => hreg _ h3 _ (by simp), (hnil h2).1, (hnil h2).2, fun _ => hblk _ h1, fun _ => hblk _ h4, by omega⟩
    · split at h
      · simp only [Bool.and_eq_true, decide_eq_true_eq] at h
        obtain ⟨⟨⟨⟨h1, h2⟩, h3⟩, h4⟩, h5⟩ := h
        exact ⟨by omega, by omega, fun _ => hreg _ h1 _ (by simp), (hnil h2).1, (hnil h2).2, by omega, by omega, by omega⟩
      · split at h
        · simp only [Bool.and_eq_true, decide_eq_true_eq] at h
          obtain ⟨⟨⟨⟨h1, h2⟩, h3⟩, h4⟩, h5⟩ := h
          exact ⟨by omega, by omega, fun _ => hreg _ h1 _ (by simp), hreg _ h2.2, h2.1, by omega, by omega, by omega⟩
        · split at h
          · simp only [Bool.and_eq_true, decide_eq_true_eq] at h
            obtain ⟨⟨⟨h1, h2⟩, h3⟩, h4⟩ := h
            exact ⟨by omega, by omega, fun _ => hreg _ h1 _ (by simp), hreg _ h2.2, h2.1, fun _ => hblk _ h3, by omega, fun _ => hreg _ h1 _ (by simp)⟩
          · split at h
            · simp only [Bool.and_eq_true, decide_eq_true_eq] at h
              obtain ⟨⟨⟨h1, h2⟩, h3⟩, h4⟩ := h
              exact ⟨by omega, by omega, fun _ => hreg _ h1 _ (by simp), (hnil h2).1, (hnil h2).2, fun _ => hblk _ h3, by omega, fun _ => hreg _ h1 _ (by simp)⟩
            · cases h
theorem push_ok {c : Code} {n : Nat} {s : St} {x : Fin} {p : Prc} (h : Mo c n s) (hu : Cu c s) (hp : c[s.proc]? = some p) (hx : finB p x = true) (hk : x.kind = 4 ∨ x.kind = 6) : Mo c n (push s x) := by
  obtain ⟨p', b, e1, e2, e3, e4⟩ := hu.at'
  rw [hp] at e1
  cases e1
  obtain ⟨_, _, _, _, _, f1, _, f2⟩ := finB_facts hx
  have n1 := f1 (by omega)
  have n2 := f2 hk
  refine ⟨h.good, h.wf, fun f hf => ?_, h.cls, h.win, h.told, h.out⟩
  unfold push at hf
  rcases List.mem_cons.1 hf with rfl | hf
  · exact ⟨⟨p, p.blocks[x.next.toNat]'(by omega), hp, List.getElem?_eq_getElem _, e4⟩, by dsimp only; omega, hu.cl, hu.tx⟩
  · exact h.frs f hf
theorem endB_ok {c : Code} {n : Nat} {s : St} {x : Fin} {p : Prc} (hc : CodeOk c) (h : Mo c n s) (hu : Cu c s) (hp : c[s.proc]? = some p) (hx : finB p x = true) : Mo c (n + 1) (endB c s x) ∧ ((endB c s x).e = 0 → (endB c s x).done = false → s.done = false → Cu c (endB c s x)) := by
  have h1 := h.mono (Nat.le_succ n)
  obtain ⟨f0, f0', f1, f2, f3, f4, f5, f6⟩ := finB_facts hx
  obtain ⟨p', b, e1, e2, e3, e4⟩ := hu.at'
  rw [hp] at e1
  cases e1
  have hmk : ∀ {s : St}, Mo c n s → Mo c (n + 1) (s.made 0 [] true s.frs) := fun {s} hs => made_ok hs (ClOk.mk (fun e => Bool.noConfusion e) (fun v hv => nomatch hv) hs.frs)
  have hv1 : ∀ (s : St), Tx [s.newV] := fun s v hv => by rw [List.mem_singleton] at hv; rw [hv]; exact Nat.zero_le _
  unfold endB
  split
  · have := f4 (.inl ‹_›)
    exact ⟨⟨h1.good, h1.wf, h1.frs, h1.cls, h1.win, h1.told, h1.out⟩, fun _ _ _ => ⟨⟨p, p.blocks[x.next.toNat]'(by omega), hp, List.getElem?_eq_getElem _, Nat.zero_le _, e4⟩, hu.cl, hu.tx⟩⟩
  · split
    · rename_i hk
      have q1 := f4 (.inr (.inl hk))
      have q2 := f5 hk
      refine ⟨⟨h1.good, h1.wf, h1.frs, h1.cls, h1.win, h1.told, h1.out⟩, fun _ _ _ => ?_⟩
      have hb : ∃ b', p.blocks[(if s.regs.getD x.reg.toNat Hp.none = Hp.none then x.els.toNat else x.next.toNat)]? = some b' := by
        split
        · exact ⟨_, List.getElem?_eq_getElem (by omega)⟩
        · exact ⟨_, List.getElem?_eq_getElem (by omega)⟩
      obtain ⟨b', hb⟩ := hb
      exact ⟨⟨p, b', hp, hb, Nat.zero_le _, e4⟩, hu.cl, hu.tx⟩
    · split
      · have := tell_ok h1 (hu.tx.getD x.reg.toNat)
        exact ⟨this.1, fun _ => this.2⟩
      · split
        · exact call_ok hc h1 (hu.tx.vals _)
        · split
          · rename_i hk
            exact call_ok hc (push_ok h1 hu hp hx (.inl hk)) (hu.tx.vals _)
          · split
            · exact call_ok hc (hmk h) (hv1 _)
            · exact call_ok hc (hmk (push_ok h hu hp hx (.inr (by omega)))) (hv1 _)
theorem step_ok {c : Code} {n : Nat} {s : St} (hc : CodeOk c) (h : Mo c n s) (hu : Cu c s) : Mo c (n + 1) (step c s) ∧ ((step c s).e = 0 → (step c s).done = false → s.done = false → Cu c (step c s)) := by
  obtain ⟨p, b, e1, e2, e3, e4⟩ := hu.at'
  have hpm := List.mem_of_getElem? e1
  have hbm := List.mem_of_getElem? e2
  have hpf := (prcB_facts (hc.all p hpm)).2.2.2.2.2.2 b hbm
  have hb : blkAt c s = some b := by
    unfold blkAt
    rw [e1]
    exact e2
  unfold step
  rw [hb]
  dsimp only
  cases hx : b.ins[s.pos]? with
  | none => exact endB_ok hc h hu e1 hpf.2
  | some x =>
    have hxm := List.mem_of_getElem? hx
    have hlt := (List.getElem?_eq_some_iff.1 hx).1
    have h' : Mo c n { s with pos := s.pos + 1 } := ⟨h.good, h.wf, h.frs, h.cls, h.win, h.told, h.out⟩
    have hu' : Cu c { s with pos := s.pos + 1 } := ⟨⟨p, b, e1, e2, hlt, e4⟩, hu.cl, hu.tx⟩
    have := doI_ok hc h' hu' e1 (hpf.1 x hxm) (hc.fit p hpm b hbm x hxm)
    exact ⟨this.1, fun _ _ _ => this.2⟩
end Vm
end Go.Proofs.Ytalfnaielhbocaa
