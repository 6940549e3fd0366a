/- What a proposer asks next, told from its replies (no memory, no program). Paxos: votes, promises, what one verb does (no memory, no program). Paxos: the invariant of a fabric and its proposers; a piece of a verb (no memory, no program). Paxos: a turn keeps the invariant (no memory, no program). Paxos: a turn keeps the invariant, joined (no memory, no program). Paxos: events, the drive with events, the end (no memory, no program). Paxos: the beginning and the end of PaxosAgrees (no memory, no program). -/
import Derived.Test.YtaojipegpjolcaaGreatGO
set_option linter.unusedVariables false
set_option linter.unusedSimpArgs false
namespace Go.Proofs.YtaojipegpjolcaaGreat
open Go.RowKit

/-- The candidates behind the first replies, who has promised behind the second, the value, who has accepted behind the third. -/
def nC1 (j : PJ) (r0 : List Dn) : List Ac := pCands (bal j) (rdFold 0 r0).1
def nW2 (j : PJ) (r0 r1 : List Dn) : Sw := swFold (pPromise (bal j)) (nC1 j r0) (rdFold 0 r0).2.1 r1
def nS2 (j : PJ) (r0 r1 : List Dn) : List Ac := (nW2 j r0 r1).sw
def nV2 (j : PJ) (r0 r1 : List Dn) : Int := (pVal j.value (nS2 j r0 r1)).1
def nS3 (j : PJ) (r0 r1 r2 : List Dn) : List Ac := (swFold (pAccept (bal j) (nV2 j r0 r1)) (nS2 j r0 r1) (nW2 j r0 r1).gr r2).sw

theorem tBatch_inv {gs : List (List Dn)} {k : Nat} {l : List Vb} {r : Res} {d : List Dn} (h : tBatch gs k l = (r, d)) :
    (l = [] ∧ r = .done k ∧ d = []) ∨ (l ≠ [] ∧ gs[k]? = none ∧ r = .ask l) ∨ (l ≠ [] ∧ gs[k]? = some d ∧ r = .done (k + 1) ∧ fitB l d = true) ∨ r = .wrong := by
  unfold tBatch at h
  split at h
  · rename_i hl
    simp only [Prod.mk.injEq] at h
    exact .inl ⟨by simpa using hl, h.1.symm, h.2.symm⟩
  · rename_i hl
    have hne : l ≠ [] := fun e => hl (by rw [e]; rfl)
    cases hg : gs[k]? with
    | none =>
      rw [hg] at h
      simp only [Prod.mk.injEq] at h
      exact .inr (.inl ⟨hne, rfl, h.1.symm⟩)
    | some d' =>
      rw [hg] at h
      simp only at h
      split at h
      · rename_i hf
        simp only [Prod.mk.injEq] at h
        obtain ⟨h1, rfl⟩ := h
        exact .inr (.inr (.inl ⟨hne, rfl, h1.symm, hf⟩))
      · simp only [Prod.mk.injEq] at h
        exact .inr (.inr (.inr h.1.symm))
theorem judge_zero {n a g gr : Int} (h : (pJudge n a g gr).code = 0) : pMaj n ≤ a ∧ pMaj n ≤ g := by
  unfold pJudge at h
  split at h
  · simp at h
  · split at h
    · simp [pLost] at h
    · omega
theorem judge_not {n a g gr : Int} (h : ¬ (pJudge n a g gr).code ≠ 0) : (pJudge n a g gr).code = 0 := by
  by_cases e : (pJudge n a g gr).code = 0
  · exact e
  · exact absurd e h

/-- What comes next, by the replies. -/
inductive NxIs (j : PJ) (gs : List (List Dn)) (x : List Vb × Oc × Bool) : Prop where
  | read : gs = [] → x.1 = rdAsk j → x.2.2 = false → NxIs j gs x
  | prom (r0 : List Dn) : gs = [r0] → fitB (rdAsk j) r0 = true → pMaj j.nodes ≤ (nC1 j r0).length → x.1 = swAsk j (pPromise (bal j)) (nC1 j r0) → x.2.2 = false → NxIs j gs x
  | acc (r0 r1 : List Dn) : gs = [r0, r1] → fitB (rdAsk j) r0 = true → fitB (swAsk j (pPromise (bal j)) (nC1 j r0)) r1 = true → pMaj j.nodes ≤ (nS2 j r0 r1).length → x.1 = swAsk j (pAccept (bal j) (nV2 j r0 r1)) (nS2 j r0 r1) → x.2.2 = false → NxIs j gs x
  | yes (r0 r1 r2 : List Dn) : gs = [r0, r1, r2] → fitB (rdAsk j) r0 = true → fitB (swAsk j (pPromise (bal j)) (nC1 j r0)) r1 = true → fitB (swAsk j (pAccept (bal j) (nV2 j r0 r1)) (nS2 j r0 r1)) r2 = true → pMaj j.nodes ≤ (nS2 j r0 r1).length → pMaj j.nodes ≤ (nS3 j r0 r1 r2).length →
      x.2.1.value = nV2 j r0 r1 → x.2.2 = true → x.2.1.code = 0 → NxIs j gs x
  | no : x.2.2 = true → x.2.1.code ≠ 0 → NxIs j gs x
theorem len_one {α : Type} {gs : List α} {d : α} (h0 : gs[0]? = some d) (h1 : gs[1]? = none) : gs = [d] := by
  match gs, h0, h1 with
  | [a], h0, _ => simp at h0; rw [h0]
  | [], h0, _ => simp at h0
  | a :: b :: tl, _, h1 => simp at h1
theorem len_two {α : Type} {gs : List α} {d e : α} (h0 : gs[0]? = some d) (h1 : gs[1]? = some e) (h2 : gs[2]? = none) : gs = [d, e] := by
  match gs, h0, h1, h2 with
  | [a, b], h0, h1, _ => simp at h0 h1; rw [h0, h1]
  | [], h0, _, _ => simp at h0
  | [a], _, h1, _ => simp at h1
  | a :: b :: c :: tl, _, _, h2 => simp at h2
theorem len_three {α : Type} {gs : List α} {d e f : α} (h0 : gs[0]? = some d) (h1 : gs[1]? = some e) (h2 : gs[2]? = some f) (h3 : ¬ 3 < gs.length) : gs = [d, e, f] := by
  match gs, h0, h1, h2, h3 with
  | [a, b, c], h0, h1, h2, _ => simp at h0 h1 h2; rw [h0, h1, h2]
  | [], h0, _, _, _ => simp at h0
  | [a], _, h1, _, _ => simp at h1
  | [a, b], _, _, h2, _ => simp at h2
  | a :: b :: c :: d :: tl, _, _, _, h3 => simp at h3
theorem pNext_is {j : PJ} (hj : pValid j = 0) (gs : List (List Dn)) : NxIs j gs (pNext j gs) := by
  obtain ⟨v1, v2, _⟩ := pValid_parts hj
  have hb := bal_eq hj
  have hm : 1 ≤ pMaj j.nodes := by unfold pMaj; rw [if_neg (by omega)]; omega
  have hrd : rdAsk j ≠ [] := fun e => by
    have := congrArg List.length e
    rw [rdAsk_len] at this
    simp at this
    omega
  obtain ⟨X, hX⟩ : ∃ X, X = pNext j gs := ⟨_, rfl⟩
  rw [← hX]
  unfold pNext pRun at hX
  rw [hb] at hX
  obtain ⟨r1, d1, hr1⟩ : ∃ r d, tBatch gs 0 (rdAsk j) = (r, d) := ⟨_, _, rfl⟩
  rw [hr1] at hX
  rcases tBatch_inv hr1 with ⟨e, _⟩ | ⟨_, g0, rfl⟩ | ⟨_, g0, rfl, f0⟩ | rfl
  · exact absurd e hrd
  · simp only at hX
    refine .read (List.eq_nil_iff_length_eq_zero.2 ?_) (by rw [hX]) (by rw [hX])
    have := List.getElem?_eq_none_iff.1 g0
    omega
  · simp only at hX
    by_cases hc : (pJudge j.nodes ((rdFold 0 d1).1.length : Nat) ((pCands (bal j) (rdFold 0 d1).1).length : Nat) (rdFold 0 d1).2.1).code ≠ 0
    · rw [if_pos hc] at hX
      simp only at hX
      split at hX
      · exact .no (by rw [hX]) (by rw [hX]; simp)
      · exact .no (by rw [hX]) (by rw [hX]; exact hc)
    · rw [if_neg hc] at hX
      obtain ⟨-, m1⟩ := judge_zero (judge_not hc)
      unfold pRun2 at hX
      have hc1 : pCands (bal j) (rdFold 0 d1).1 = nC1 j d1 := rfl
      rw [hc1] at hX m1
      have hne1 : swAsk j (pPromise (bal j)) (nC1 j d1) ≠ [] := fun e => by
        have := congrArg List.length e
        simp only [swAsk, List.length_map, List.length_nil] at this
        omega
      obtain ⟨r2, d2, hr2⟩ : ∃ r d, tBatch gs (0 + 1) (swAsk j (pPromise (bal j)) (nC1 j d1)) = (r, d) := ⟨_, _, rfl⟩
      rw [hr2] at hX
      rcases tBatch_inv hr2 with ⟨e, _⟩ | ⟨_, g1, rfl⟩ | ⟨_, g1, rfl, f1⟩ | rfl
      · exact absurd e hne1
      · simp only at hX
        exact .prom d1 (len_one g0 g1) f0 m1 (by rw [hX]) (by rw [hX])
      · simp only at hX
        have hw2 : swFold (pPromise (bal j)) (nC1 j d1) (rdFold 0 d1).2.1 d2 = nW2 j d1 d2 := rfl
        rw [hw2] at hX
        by_cases hc2 : (pJudge j.nodes (nW2 j d1 d2).ans ((nW2 j d1 d2).sw.length : Nat) (nW2 j d1 d2).gr).code ≠ 0
        · rw [if_pos hc2] at hX
          simp only at hX
          split at hX
          · exact .no (by rw [hX]) (by rw [hX]; simp)
          · exact .no (by rw [hX]) (by rw [hX]; exact hc2)
        · rw [if_neg hc2] at hX
          obtain ⟨-, m2⟩ := judge_zero (judge_not hc2)
          unfold pRun3 at hX
          have hs2 : (nW2 j d1 d2).sw = nS2 j d1 d2 := rfl
          have hv2 : (pVal j.value (nS2 j d1 d2)).1 = nV2 j d1 d2 := rfl
          rw [hs2] at m2
          rw [hs2, hv2] at hX
          have hne2 : swAsk j (pAccept (bal j) (nV2 j d1 d2)) (nS2 j d1 d2) ≠ [] := fun e => by
            have := congrArg List.length e
            simp only [swAsk, List.length_map, List.length_nil] at this
            omega
          obtain ⟨r3, d3, hr3⟩ : ∃ r d, tBatch gs (0 + 1 + 1) (swAsk j (pAccept (bal j) (nV2 j d1 d2)) (nS2 j d1 d2)) = (r, d) := ⟨_, _, rfl⟩
          rw [hr3] at hX
          rcases tBatch_inv hr3 with ⟨e, _⟩ | ⟨_, g2, rfl⟩ | ⟨_, g2, rfl, f2⟩ | rfl
          · exact absurd e hne2
          · simp only at hX
            exact .acc d1 d2 (len_two g0 g1 g2) f0 f1 m2 (by rw [hX]) (by rw [hX])
          · simp only at hX
            have hs3 : (swFold (pAccept (bal j) (nV2 j d1 d2)) (nS2 j d1 d2) (nW2 j d1 d2).gr d3).sw = nS3 j d1 d2 d3 := rfl
            obtain ⟨S3, hS3⟩ : ∃ x, x = swFold (pAccept (bal j) (nV2 j d1 d2)) (nS2 j d1 d2) (nW2 j d1 d2).gr d3 := ⟨_, rfl⟩
            rw [← hS3] at hX hs3
            by_cases hc3 : (pJudge j.nodes S3.ans (S3.sw.length : Nat) S3.gr).code ≠ 0
            · rw [if_pos hc3] at hX
              simp only at hX
              split at hX
              · exact .no (by rw [hX]) (by rw [hX]; simp)
              · exact .no (by rw [hX]) (by rw [hX]; exact hc3)
            · rw [if_neg hc3] at hX
              obtain ⟨-, m3⟩ := judge_zero (judge_not hc3)
              rw [hs3] at m3
              simp only at hX
              split at hX
              · exact .no (by rw [hX]) (by rw [hX]; simp)
              · rename_i hl
                exact .yes d1 d2 d3 (len_three g0 g1 g2 hl) f0 f1 f2 m2 m3 (by rw [hX]) (by rw [hX]) (by rw [hX])
          · simp only at hX
            exact .no (by rw [hX]) (by rw [hX]; simp)
      · simp only at hX
        exact .no (by rw [hX]) (by rw [hX]; simp)
  · simp only at hX
    exact .no (by rw [hX]) (by rw [hX]; simp)

/-- Who stands in what read and swap hand back. -/
theorem rdFold_mem (ds : List Dn) : ∀ (pre : List Dn) (s : List Ac × Int × Nat), s.2.2 = pre.length → (∀ a ∈ s.1, ∃ (k : Nat) (d : Dn), (pre ++ ds)[k]? = some d ∧ d.code = 0 ∧ a = ((k : Int), dWord d)) → ∀ a ∈ (ds.foldl rdStep s).1, ∃ (k : Nat) (d : Dn), (pre ++ ds)[k]? = some d ∧ d.code = 0 ∧ a = ((k : Int), dWord d) := by
  induction ds with
  | nil => intro pre s _ h; exact h
  | cons d tl ih =>
    intro pre s h1 h2
    rw [List.foldl_cons]
    have e : pre ++ d :: tl = (pre ++ [d]) ++ tl := by simp
    rw [e]
    refine ih (pre ++ [d]) (rdStep s d) ?_ ?_
    · unfold rdStep; split <;> simp [h1]
    · intro a ha
      rw [← e]
      unfold rdStep at ha
      split at ha
      · rename_i hc
        simp only at ha
        rcases List.mem_append.1 ha with ha | ha
        · exact h2 a ha
        · rw [List.mem_singleton] at ha
          exact ⟨pre.length, d, by simp, hc, by rw [ha, h1]⟩
      · exact h2 a ha
theorem rdFold_in {ds : List Dn} {gr : Int} {a : Ac} (h : a ∈ (rdFold gr ds).1) : ∃ (k : Nat) (d : Dn), ds[k]? = some d ∧ d.code = 0 ∧ a = ((k : Int), dWord d) :=
  rdFold_mem ds [] ([], gr, 0) rfl (fun a ha => by cases ha) a h
theorem swFold_mem (nx : Int → Int) (l : List Ac) (ds : List Dn) : ∀ (pre : List Dn) (s : Sw), s.i = pre.length → pre.length + ds.length ≤ l.length →
    (∀ a ∈ s.sw, ∃ (k : Nat) (x : Ac) (d : Dn), l[k]? = some x ∧ (pre ++ ds)[k]? = some d ∧ d.code = 0 ∧ dWord d = x.2 ∧ a = (x.1, nx x.2)) →
    ∀ a ∈ (ds.foldl (swStep nx l) s).sw, ∃ (k : Nat) (x : Ac) (d : Dn), l[k]? = some x ∧ (pre ++ ds)[k]? = some d ∧ d.code = 0 ∧ dWord d = x.2 ∧ a = (x.1, nx x.2) := by
  induction ds with
  | nil => intro pre s _ _ h; exact h
  | cons d tl ih =>
    intro pre s h1 hl h2
    rw [List.foldl_cons]
    have e : pre ++ d :: tl = (pre ++ [d]) ++ tl := by simp
    rw [e]
    simp only [List.length_cons] at hl
    refine ih (pre ++ [d]) (swStep nx l s d) ?_ (by simp only [List.length_append, List.length_singleton]; omega) ?_
    · unfold swStep; split
      · simp [h1]
      · split <;> simp [h1]
    · intro a ha
      rw [← e]
      have hi : s.i < l.length := by omega
      have eg : l.getD s.i (0, 0) = l[s.i] := by rw [List.getD_eq_getElem?_getD, List.getElem?_eq_getElem hi]; rfl
      unfold swStep at ha
      split at ha
      · exact h2 a ha
      · rename_i hc
        rw [eg] at ha
        split at ha
        · exact h2 a ha
        · rename_i hw
          simp only at ha
          rcases List.mem_append.1 ha with ha | ha
          · exact h2 a ha
          · rw [List.mem_singleton] at ha
            have hc0 : d.code = 0 := by
              by_cases q : d.code = 0
              · exact q
              · exact absurd q hc
            have hw0 : dWord d = l[s.i].2 := by
              by_cases q : dWord d = l[s.i].2
              · exact q
              · exact absurd q hw
            exact ⟨s.i, l[s.i], d, List.getElem?_eq_getElem hi, by rw [h1]; simp, hc0, hw0, by rw [ha, hw0]⟩
theorem swFold_in {nx : Int → Int} {l : List Ac} {ds : List Dn} {gr : Int} (hl : ds.length ≤ l.length) {a : Ac} (h : a ∈ (swFold nx l gr ds).sw) : ∃ (k : Nat) (x : Ac) (d : Dn), l[k]? = some x ∧ ds[k]? = some d ∧ d.code = 0 ∧ dWord d = x.2 ∧ a = (x.1, nx x.2) :=
  swFold_mem nx l ds [] ⟨0, [], gr, 0⟩ rfl (by simpa using hl) (fun a ha => by cases ha) a h
theorem fitB_len2 {vs : List Vb} {ds : List Dn} (h : fitB vs ds = true) : ds.length = vs.length := by
  unfold fitB at h
  rw [Bool.and_eq_true, decide_eq_true_eq] at h
  exact h.1.symm
theorem swAsk_len {j : PJ} {nx : Int → Int} {l : List Ac} : (swAsk j nx l).length = l.length := by simp [swAsk]

/-- The nodes of rising acceptors. -/
def inA (l : List Ac) (m : Nat) : Bool := l.any (fun a => a.1.toNat == m)
theorem rise_count (n : Nat) : ∀ l : List Ac, RiseA l → (∀ a ∈ l, 0 ≤ a.1 ∧ a.1 < n) → l.length ≤ (List.range n).countP (inA l) := by
  have key : ∀ (l : List Ac) (s : Nat), RiseA l → (∀ a ∈ l, (s : Int) ≤ a.1 ∧ a.1 < (s : Int) + n) → l.length ≤ (List.range' s n).countP (inA l) := by
    induction n with
    | zero =>
      intro l s _ h
      cases l with
      | nil => simp
      | cons a tl => have := h a List.mem_cons_self; omega
    | succ n ih =>
      intro l s hr h
      rw [List.range'_succ]
      cases l with
      | nil => simp
      | cons a tl =>
        have ha := h a List.mem_cons_self
        by_cases e : a.1 = s
        · rw [List.countP_cons_of_pos (by simp [inA, e]), List.length_cons]
          have h2 := ih tl (s + 1) hr.2 (fun x hx => by
            have h3 := hr.1 x hx
            have h4 := h x (List.mem_cons_of_mem _ hx)
            omega)
          have h3 : (List.range' (s + 1) n).countP (inA tl) ≤ (List.range' (s + 1) n).countP (inA (a :: tl)) := by
            apply List.countP_mono_left
            intro x _ hx
            simp only [inA, List.any_cons, Bool.or_eq_true] at hx ⊢
            exact .inr hx
          omega
        · have h2 := ih (a :: tl) (s + 1) hr (fun x hx => by
            have h4 := h x hx
            rcases List.mem_cons.1 hx with rfl | hx
            · omega
            · have h3 := hr.1 x hx
              omega)
          have h3 : (List.range' (s + 1) n).countP (inA (a :: tl)) ≤ (s :: List.range' (s + 1) n).countP (inA (a :: tl)) := by
            rw [List.countP_cons]; omega
          omega
  intro l hr h
  rw [List.range_eq_range']
  exact key l 0 hr (fun a ha => by have := h a ha; omega)
theorem inA_iff {l : List Ac} {m : Nat} : inA l m = true ↔ ∃ a ∈ l, a.1.toNat = m := by
  simp [inA]
end Go.Proofs.YtaojipegpjolcaaGreat
set_option linter.unusedVariables false
set_option linter.unusedSimpArgs false
namespace Go.Proofs.YtaojipegpjolcaaGreat
open Go.RowKit

def prOf (w : Int) : Int := w / 4503599627370496
/-- A consensus word. -/
structure WF (w : Int) : Prop where
  a : 0 ≤ w
  b : accOf w ≤ prOf w
  c : prOf w ≤ 40
theorem accOf_nn (w : Int) : 0 ≤ accOf w := Int.emod_nonneg _ (by decide)
theorem promise_parts {b x : Int} (hx : WF x) (hb : prOf x < b) (hb2 : b ≤ 40) : WF (pPromise b x) ∧ prOf (pPromise b x) = b ∧ accOf (pPromise b x) = accOf x ∧ valOf (pPromise b x) = valOf x := by
  obtain ⟨e1, e2⟩ := accOf_promise (b := b) hx.a
  have e3 : prOf (pPromise b x) = b := by unfold prOf pPromise; omega
  have h1 := hx.a
  have h2 := hx.b
  have h0 := accOf_nn x
  refine ⟨⟨?_, by rw [e1, e3]; omega, by omega⟩, e3, e1, e2⟩
  unfold pPromise; omega
theorem accept_parts {b v : Int} (hb0 : 0 < b) (hb : b ≤ 40) (hv0 : 0 ≤ v) (hv : v < 1099511627776) (x : Int) : WF (pAccept b v x) ∧ prOf (pAccept b v x) = b ∧ accOf (pAccept b v x) = b ∧ valOf (pAccept b v x) = v := by
  obtain ⟨e1, e2⟩ := accOf_accept (b := b) (v := v) (by omega) (by omega) hv0 hv x
  have e3 : prOf (pAccept b v x) = b := by unfold prOf pAccept; omega
  refine ⟨⟨by unfold pAccept; omega, by rw [e1, e3]; omega, by omega⟩, e3, e1, e2⟩

abbrev Wd := Nat → Int
/-- vt m b v: node m has accepted v at ballot b; pv b v: v is proposed at b. -/
abbrev Vt := Nat → Int → Int → Prop
abbrev Pv := Int → Int → Prop
structure Le (W : Wd) (vt : Vt) (W' : Wd) (vt' : Vt) : Prop where
  pr : ∀ m, prOf (W m) ≤ prOf (W' m)
  sub : ∀ m b v, vt m b v → vt' m b v
  new : ∀ m b v, vt' m b v → vt m b v ∨ prOf (W m) ≤ b
theorem Le.refl (W : Wd) (vt : Vt) : Le W vt W vt := ⟨fun _ => Int.le_refl _, fun _ _ _ h => h, fun _ _ _ h => .inl h⟩
theorem Le.trans {W W' W'' : Wd} {vt vt' vt'' : Vt} (h : Le W vt W' vt') (h2 : Le W' vt' W'' vt'') : Le W vt W'' vt'' :=
  ⟨fun m => Int.le_trans (h.pr m) (h2.pr m), fun m b v q => h2.sub m b v (h.sub m b v q), fun m b v q => by
    rcases h2.new m b v q with q | q
    · exact h.new m b v q
    · exact .inr (Int.le_trans (h.pr m) q)⟩
def Prom (W : Wd) (vt : Vt) (m : Nat) (b a v : Int) : Prop := b ≤ prOf (W m) ∧ (∀ b' v', vt m b' v' → b' < b → b' ≤ a) ∧ (a ≠ 0 → vt m a v)
theorem Prom.le {W W' : Wd} {vt vt' : Vt} {m : Nat} {b a v : Int} (h : Prom W vt m b a v) (l : Le W vt W' vt') : Prom W' vt' m b a v :=
  ⟨Int.le_trans h.1 (l.pr m), fun b' v' q hb => by
    rcases l.new m b' v' q with q | q
    · exact h.2.1 b' v' q hb
    · have := h.1; omega, fun ha => l.sub _ _ _ (h.2.2 ha)⟩
/-- No majority can ever accept another value at a lower ballot. -/
def Safe (n : Nat) (W : Wd) (vt : Vt) (b v : Int) : Prop := ∀ b' v', b' < b → v' ≠ v → ∃ q : Nat → Bool, n / 2 + 1 ≤ (List.range n).countP q ∧ ∀ m, q m = true → b' < prOf (W m) ∧ ¬ vt m b' v'
theorem Safe.le {n : Nat} {W W' : Wd} {vt vt' : Vt} {b v : Int} (h : Safe n W vt b v) (l : Le W vt W' vt') : Safe n W' vt' b v := fun b' v' h1 h2 => by
  obtain ⟨q, q1, q2⟩ := h b' v' h1 h2
  refine ⟨q, q1, fun m hm => ?_⟩
  obtain ⟨a1, a2⟩ := q2 m hm
  refine ⟨Int.lt_of_lt_of_le a1 (l.pr m), fun hv => ?_⟩
  rcases l.new m b' v' hv with e | e
  · exact a2 e
  · omega
def Chosen (n : Nat) (vt : Vt) (b v : Int) : Prop := ∃ q : Nat → Bool, n / 2 + 1 ≤ (List.range n).countP q ∧ ∀ m, q m = true → vt m b v
theorem Chosen.le {n : Nat} {W W' : Wd} {vt vt' : Vt} {b v : Int} (h : Chosen n vt b v) (l : Le W vt W' vt') : Chosen n vt' b v := by
  obtain ⟨q, q1, q2⟩ := h
  exact ⟨q, q1, fun m hm => l.sub _ _ _ (q2 m hm)⟩
structure Inv0 (n : Nat) (W : Wd) (vt : Vt) (pv : Pv) : Prop where
  n1 : ∀ m b v, vt m b v → m < n ∧ 0 < b ∧ b ≤ accOf (W m) ∧ pv b v
  n2 : ∀ m, m < n → accOf (W m) ≠ 0 → vt m (accOf (W m)) (valOf (W m))
  wf : ∀ m, m < n → WF (W m)
  fn : ∀ b v v', pv b v → pv b v' → v = v'
  safe : ∀ b v, pv b v → Safe n W vt b v
  vals : ∀ b v, pv b v → 100 ≤ v ∧ v < 104
theorem chosen_safe {n : Nat} {W : Wd} {vt : Vt} {b v b' v' : Int} (h : Safe n W vt b v) (hc : Chosen n vt b' v') (hb : b' < b) : v' = v := by
  by_cases e : v' = v
  · exact e
  · exfalso
    obtain ⟨q, q1, q2⟩ := h b' v' hb e
    obtain ⟨p, p1, p2⟩ := hc
    obtain ⟨m, hm, m1, m2⟩ := meet (List.range n) q p (by rw [List.length_range]; omega)
    exact (q2 m m1).2 (p2 m m2)
/-- Two decisions agree. -/
theorem agree {n : Nat} {W : Wd} {vt : Vt} {pv : Pv} (h : Inv0 n W vt pv) {b v b' v' : Int} (c : Chosen n vt b v) (p : pv b v) (c' : Chosen n vt b' v') (p' : pv b' v') : v = v' := by
  rcases Int.lt_trichotomy b b' with e | e | e
  · exact chosen_safe (h.safe b' v' p') c e
  · subst e; exact h.fn _ _ _ p p'
  · exact (chosen_safe (h.safe b v p) c' e).symm

/-- A verb that a proposer may ask. -/
structure VOK1 (n : Nat) (pv : Pv) (v : Vb) : Prop where
  sv : Sv n v
  at_ : v.at_ = 10
  old : v.kind = 3 → WF v.old ∧ WF v.new
  new : v.kind = 3 → (prOf v.old < prOf v.new ∧ accOf v.new = accOf v.old ∧ valOf v.new = valOf v.old) ∨ (prOf v.new = prOf v.old ∧ accOf v.old < prOf v.old ∧ accOf v.new = prOf v.new ∧ pv (prOf v.new) (valOf v.new))
theorem VOK1.mono {n : Nat} {pv pv' : Pv} {v : Vb} (h : VOK1 n pv v) (hp : ∀ b x, pv b x → pv' b x) : VOK1 n pv' v :=
  ⟨h.sv, h.at_, h.old, fun k => by
    rcases h.new k with q | ⟨q1, q2, q3, q4⟩
    · exact .inl q
    · exact .inr ⟨q1, q2, q3, hp _ _ q4⟩⟩
/-- What a swap that succeeded has brought about. -/
def Done (W : Wd) (vt : Vt) (v : Vb) : Prop := (prOf v.old < prOf v.new → Prom W vt v.node.toNat (prOf v.new) (accOf v.old) (valOf v.old)) ∧ (prOf v.old = prOf v.new → vt v.node.toNat (accOf v.new) (valOf v.new))
/-- What is known of a reply. -/
structure Rep (W : Wd) (vt : Vt) (v : Vb) (d : Dn) : Prop where
  rd : v.kind = 1 → d.code = 0 → WF (dWord d)
  sw : v.kind = 3 → d.code = 0 → dWord d = v.old → Done W vt v
theorem Rep.le {W W' : Wd} {vt vt' : Vt} {v : Vb} {d : Dn} (h : Rep W vt v d) (l : Le W vt W' vt') : Rep W' vt' v d :=
  ⟨h.rd, fun h1 h2 h3 => ⟨fun e => ((h.sw h1 h2 h3).1 e).le l, fun e => l.sub _ _ _ ((h.sw h1 h2 h3).2 e)⟩⟩
def Wd.put (W : Wd) (m : Nat) (x : Int) : Wd := fun k => if k = m then x else W k
theorem put_same {W : Wd} {m : Nat} {x : Int} (h : x = W m) : W.put m x = W := by
  funext k; unfold Wd.put; split
  · rename_i e; rw [e, h]
  · rfl
theorem exec_ok {n : Nat} {W : Wd} {vt : Vt} {pv : Pv} (h : Inv0 n W vt pv) {v : Vb} (hv : VOK1 n pv v) {N : Nd} (hl : 24 ≤ N.words.length) (hN : N.words.getD 10 0 = W v.node.toNat) :
    ∃ vt', Inv0 n (W.put v.node.toNat ((nodeDo N v).1.words.getD 10 0)) vt' pv ∧ Le W vt (W.put v.node.toNat ((nodeDo N v).1.words.getD 10 0)) vt' ∧ Rep (W.put v.node.toNat ((nodeDo N v).1.words.getD 10 0)) vt' v (nodeDo N v).2 := by
  obtain ⟨m, hm⟩ : ∃ m, m = v.node.toNat := ⟨_, rfl⟩
  have hmn : m < n := by rw [hm]; exact hv.sv.nd1
  have hat : v.at_.toNat = 10 := by rw [hv.at_]; rfl
  rw [← hm] at hN ⊢
  have same : ∀ d : Dn, Rep W vt v d → ∃ vt', Inv0 n (W.put m (N.words.getD 10 0)) vt' pv ∧ Le W vt (W.put m (N.words.getD 10 0)) vt' ∧ Rep (W.put m (N.words.getD 10 0)) vt' v d := fun d hd => by
    rw [put_same hN]
    exact ⟨vt, h, Le.refl W vt, hd⟩
  unfold nodeDo
  rw [hat, hN]
  by_cases hd : N.down = true
  · rw [if_pos hd]
    exact same _ ⟨fun _ e => by simp at e, fun _ e => by simp at e⟩
  · rw [if_neg hd]
    by_cases hk : v.kind = 1
    · rw [if_pos hk]
      exact same _ ⟨fun _ _ => h.wf m hmn, fun e => by omega⟩
    · rw [if_neg hk]
      by_cases ho : W m = v.old
      · rw [if_pos ho]
        have hk3 : v.kind = 3 := by rcases hv.sv.kind with ⟨e, _⟩ | e; exact absurd e hk; exact e
        obtain ⟨wo, wn⟩ := hv.old hk3
        have hput : (N.words.set 10 v.new).getD 10 0 = v.new := by
          rw [List.getD_eq_getElem?_getD, List.getElem?_set_self (by omega)]; rfl
        simp only [hput]
        have hWm : W.put m v.new m = v.new := by simp [Wd.put]
        have hWo : ∀ k, k ≠ m → W.put m v.new k = W k := fun k hk => by simp [Wd.put, hk]
        have hprm : prOf (W m) ≤ prOf v.new := by
          rw [ho]; rcases hv.new hk3 with q | q <;> omega
        have hpr : ∀ k, prOf (W k) ≤ prOf (W.put m v.new k) := fun k => by
          by_cases e : k = m
          · subst e; rw [hWm]; exact hprm
          · rw [hWo k e]; exact Int.le_refl _
        have hwf : ∀ k, k < n → WF (W.put m v.new k) := fun k hkn => by
          by_cases e : k = m
          · subst e; rw [hWm]; exact wn
          · rw [hWo k e]; exact h.wf k hkn
        rcases hv.new hk3 with ⟨q1, q2, q3⟩ | ⟨q1, q2, q3, q4⟩
        · have hle : Le W vt (W.put m v.new) vt := ⟨hpr, fun _ _ _ e => e, fun _ _ _ e => .inl e⟩
          refine ⟨vt, ⟨fun k b x e => ?_, fun k hkn e => ?_, hwf, h.fn, fun b x e => (h.safe b x e).le hle, h.vals⟩, hle, ⟨fun e => by omega, fun _ _ _ => ⟨fun _ => ⟨?_, fun b' v' e _ => ?_, fun e => ?_⟩, fun e => by omega⟩⟩⟩
          · obtain ⟨a1, a2, a3, a4⟩ := h.n1 k b x e
            refine ⟨a1, a2, ?_, a4⟩
            by_cases ek : k = m
            · subst ek; rw [hWm, q2, ← ho]; exact a3
            · rw [hWo k ek]; exact a3
          · by_cases ek : k = m
            · subst ek
              rw [hWm] at e ⊢
              rw [q2, ← ho] at e
              rw [q2, q3, ← ho]
              exact h.n2 k hkn e
            · rw [hWo k ek] at e ⊢; exact h.n2 k hkn e
          · rw [← hm, hWm]; exact Int.le_refl _
          · rw [← hm] at e
            have := (h.n1 m b' v' e).2.2.1
            rw [ho] at this; exact this
          · rw [← ho] at e ⊢
            rw [← hm]; exact h.n2 m hmn e
        · have h0 := accOf_nn v.old
          have hle : Le W vt (W.put m v.new) (fun k b x => vt k b x ∨ (k = m ∧ b = accOf v.new ∧ x = valOf v.new)) := ⟨hpr, fun _ _ _ e => .inl e, fun k b x e => by
            rcases e with e | ⟨rfl, rfl, rfl⟩
            · exact .inl e
            · right; rw [ho, q3, q1]; exact Int.le_refl _⟩
          refine ⟨_, ⟨fun k b x e => ?_, fun k hkn e => ?_, hwf, h.fn, fun b x e => (h.safe b x e).le hle, h.vals⟩, hle, ⟨fun e => by omega, fun _ _ _ => ⟨fun e => by omega, fun _ => .inr ⟨hm.symm, rfl, rfl⟩⟩⟩⟩
          · rcases e with e | ⟨rfl, rfl, rfl⟩
            · obtain ⟨a1, a2, a3, a4⟩ := h.n1 k b x e
              refine ⟨a1, a2, ?_, a4⟩
              by_cases ek : k = m
              · subst ek; rw [hWm]; rw [ho] at a3; omega
              · rw [hWo k ek]; exact a3
            · rw [hWm]
              refine ⟨hmn, by omega, Int.le_refl _, ?_⟩
              rw [q3]; exact q4
          · by_cases ek : k = m
            · subst ek; right; rw [hWm]; exact ⟨rfl, rfl, rfl⟩
            · rw [hWo k ek] at e ⊢; exact .inl (h.n2 k hkn e)
      · rw [if_neg ho]
        exact same _ ⟨fun e => absurd e hk, fun _ _ e => absurd (by simpa [dWord] using e) ho⟩

/-- The greatest accepted ballot among the promises. -/
theorem pVal_max (own : Int) (l : List Ac) : ((∀ a ∈ l, accOf a.2 = 0) ∧ (pVal own l).1 = own) ∨ ∃ a ∈ l, accOf a.2 ≠ 0 ∧ (∀ x ∈ l, accOf x.2 ≤ accOf a.2) ∧ (pVal own l).1 = valOf a.2 := by
  have key : ∀ (l pre : List Ac) (s : Int × Int), ((s = (own, 0) ∧ ∀ a ∈ pre, accOf a.2 = 0) ∨ ∃ a ∈ pre, accOf a.2 ≠ 0 ∧ (∀ x ∈ pre, accOf x.2 ≤ accOf a.2) ∧ s = (valOf a.2, accOf a.2)) →
      (((l.foldl pVal1 s) = (own, 0) ∧ ∀ a ∈ pre ++ l, accOf a.2 = 0) ∨ ∃ a ∈ pre ++ l, accOf a.2 ≠ 0 ∧ (∀ x ∈ pre ++ l, accOf x.2 ≤ accOf a.2) ∧ (l.foldl pVal1 s) = (valOf a.2, accOf a.2)) := by
    intro l
    induction l with
    | nil => intro pre s h; simpa using h
    | cons b tl ih =>
      intro pre s h
      rw [List.foldl_cons, show pre ++ b :: tl = (pre ++ [b]) ++ tl by simp]
      refine ih (pre ++ [b]) _ ?_
      have hb0 := accOf_nn b.2
      have hb1 : b.2 / 1099511627776 % 4096 = accOf b.2 := rfl
      have hb2 : b.2 % 1099511627776 = valOf b.2 := rfl
      unfold pVal1
      rw [hb1, hb2]
      rcases h with ⟨rfl, h⟩ | ⟨a, ha, h1, h2, rfl⟩
      · by_cases e : accOf b.2 = 0
        · left
          refine ⟨by rw [if_neg (by simp only; omega)], fun x hx => ?_⟩
          rcases List.mem_append.1 hx with hx | hx
          · exact h x hx
          · rw [List.mem_singleton] at hx; rw [hx]; exact e
        · right
          refine ⟨b, by simp, e, fun x hx => ?_, by rw [if_pos (by simp only; omega)]⟩
          rcases List.mem_append.1 hx with hx | hx
          · rw [h x hx]; exact hb0
          · rw [List.mem_singleton] at hx; rw [hx]; exact Int.le_refl _
      · right
        by_cases e : accOf a.2 < accOf b.2
        · refine ⟨b, by simp, by have := accOf_nn a.2; omega, fun x hx => ?_, by rw [if_pos e]⟩
          rcases List.mem_append.1 hx with hx | hx
          · have := h2 x hx; omega
          · rw [List.mem_singleton] at hx; rw [hx]; exact Int.le_refl _
        · refine ⟨a, by simp [ha], h1, fun x hx => ?_, by rw [if_neg e]⟩
          rcases List.mem_append.1 hx with hx | hx
          · exact h2 x hx
          · rw [List.mem_singleton] at hx; rw [hx]; omega
  rcases key l [] (own, 0) (.inl ⟨rfl, fun a ha => by cases ha⟩) with ⟨h1, h2⟩ | ⟨a, ha, h1, h2, h3⟩
  · left; exact ⟨by simpa using h2, by unfold pVal; rw [h1]⟩
  · right; exact ⟨a, by simpa using ha, h1, by simpa using h2, by unfold pVal; rw [h3]⟩
/-- A majority of promises makes the value safe. -/
theorem safe_new {n : Nat} {W : Wd} {vt : Vt} {pv : Pv} (h : Inv0 n W vt pv) {B own : Int} (ho : 100 ≤ own ∧ own < 104) (s : List Ac) (hr : RiseA s) (hs : ∀ a ∈ s, 0 ≤ a.1 ∧ a.1 < n ∧ Prom W vt a.1.toNat B (accOf a.2) (valOf a.2)) (hm : n / 2 + 1 ≤ s.length) :
    Safe n W vt B (pVal own s).1 ∧ 100 ≤ (pVal own s).1 ∧ (pVal own s).1 < 104 := by
  have hcnt : n / 2 + 1 ≤ (List.range n).countP (inA s) := Nat.le_trans hm (rise_count n s hr (fun a ha => ⟨(hs a ha).1, (hs a ha).2.1⟩))
  have hq : ∀ m, inA s m = true → ∃ a ∈ s, Prom W vt m B (accOf a.2) (valOf a.2) := fun m hm => by
    obtain ⟨a, ha, rfl⟩ := inA_iff.1 hm
    exact ⟨a, ha, (hs a ha).2.2⟩
  rcases pVal_max own s with ⟨h0, hv⟩ | ⟨a, ha, h1, h2, hv⟩
  · rw [hv]
    refine ⟨fun b' v' hb hne => ⟨inA s, hcnt, fun m hm => ?_⟩, ho⟩
    obtain ⟨x, hx, hp⟩ := hq m hm
    refine ⟨Int.lt_of_lt_of_le hb hp.1, fun e => ?_⟩
    have := hp.2.1 b' v' e hb
    rw [h0 x hx] at this
    have := (h.n1 m b' v' e).2.1
    omega
  · rw [hv]
    have hva := (hs a ha).2.2.2.2 h1
    have hpa := (h.n1 _ _ _ hva).2.2.2
    refine ⟨fun b' v' hb hne => ?_, h.vals _ _ hpa⟩
    rcases Int.lt_trichotomy b' (accOf a.2) with e | e | e
    · exact h.safe _ _ hpa b' v' e hne
    · refine ⟨inA s, hcnt, fun m hm => ?_⟩
      obtain ⟨x, hx, hp⟩ := hq m hm
      refine ⟨Int.lt_of_lt_of_le hb hp.1, fun q => hne ?_⟩
      have := (h.n1 m b' v' q).2.2.2
      rw [e] at this
      exact h.fn _ _ _ this hpa
    · refine ⟨inA s, hcnt, fun m hm => ?_⟩
      obtain ⟨x, hx, hp⟩ := hq m hm
      refine ⟨Int.lt_of_lt_of_le hb hp.1, fun q => ?_⟩
      have h3 := hp.2.1 b' v' q hb
      have h4 := h2 x hx
      omega
theorem Inv0.grow {n : Nat} {W : Wd} {vt : Vt} {pv pv' : Pv} (h : Inv0 n W vt pv) {B V : Int} (hs : Safe n W vt B V) (hv : 100 ≤ V ∧ V < 104) (hf : ∀ v, pv B v → v = V) (hp : ∀ b v, pv' b v ↔ pv b v ∨ (b = B ∧ v = V)) : Inv0 n W vt pv' :=
  ⟨fun m b v e => by
    obtain ⟨a1, a2, a3, a4⟩ := h.n1 m b v e
    exact ⟨a1, a2, a3, (hp _ _).2 (.inl a4)⟩, h.n2, h.wf, fun b v v' e e' => by
    rcases (hp _ _).1 e with e | ⟨rfl, rfl⟩
    · rcases (hp _ _).1 e' with e' | ⟨rfl, rfl⟩
      · exact h.fn _ _ _ e e'
      · exact hf _ e
    · rcases (hp _ _).1 e' with e' | ⟨_, rfl⟩
      · exact (hf _ e').symm
      · rfl, fun b v e => by
    rcases (hp _ _).1 e with e | ⟨rfl, rfl⟩
    · exact h.safe _ _ e
    · exact hs, fun b v e => by
    rcases (hp _ _).1 e with e | ⟨rfl, rfl⟩
    · exact h.vals _ _ e
    · exact hv⟩
theorem Inv0.same {n : Nat} {W : Wd} {vt : Vt} {pv pv' : Pv} (h : Inv0 n W vt pv) (hp : ∀ b v, pv' b v ↔ pv b v) : Inv0 n W vt pv' := by
  have : pv' = pv := by funext b v; exact propext (hp b v)
  rw [this]; exact h
end Go.Proofs.YtaojipegpjolcaaGreat
set_option linter.unusedVariables false
set_option linter.unusedSimpArgs false
namespace Go.Proofs.YtaojipegpjolcaaGreat
open Go.RowKit

def wd (ns : List Nd) : Wd := fun m => (ns.getD m ⟨[], true⟩).words.getD 10 0
theorem wd_set {ns : List Nd} {m : Nat} {N : Nd} (h : m < ns.length) : wd (ns.set m N) = (wd ns).put m (N.words.getD 10 0) := by
  funext k
  unfold wd Wd.put
  by_cases e : k = m
  · subst e
    have : (ns.set k N).getD k ⟨[], true⟩ = N := by rw [List.getD_eq_getElem?_getD, List.getElem?_set_self h]; rfl
    rw [if_pos rfl, this]
  · have : (ns.set m N).getD k ⟨[], true⟩ = ns.getD k ⟨[], true⟩ := by rw [List.getD_eq_getElem?_getD, List.getElem?_set_ne (fun q => e q.symm), ← List.getD_eq_getElem?_getD]
    rw [if_neg e, this]
theorem wd_get {ns : List Nd} {m : Nat} {N : Nd} (h : ns[m]? = some N) : wd ns m = N.words.getD 10 0 := by
  have : ns.getD m ⟨[], true⟩ = N := by rw [List.getD_eq_getElem?_getD, h]; rfl
  unfold wd; rw [this]
/-- What the conversations propose. -/
def pvT (ts : List PT) : Pv := fun b v => ∃ t ∈ ts, bal t.job = b ∧ ∃ r0 r1, t.gots.take 2 = [r0, r1] ∧ (pNext t.job [r0, r1]).2.2 = false ∧ v = nV2 t.job r0 r1

structure PairOk (c : Nat) (p : PP) : Prop where
  cl : p.cl = c
  inc : p.inc = 1
  ex : p.ex = 0
  ws : p.ws = []
theorem PairOk.done {c : Nat} {p : PP} (h : PairOk c p) : PairOk c (pDone p) := ⟨h.cl, h.inc, rfl, rfl⟩
structure LaneOk (c m : Nat) (O : List Vb) (l : PL) : Prop where
  pr : PairOk c l.p
  nd : l.p.nd = (m : Nat)
  len : l.p.vs.length = l.ps.length
  at_ : ∀ (q : Nat) v k, l.p.vs[q]? = some v → l.ps[q]? = some k → 0 ≤ k ∧ O[k.toNat]? = some v ∧ v.node.toNat = m
structure LiveOk (n : Nat) (W : Wd) (vt : Vt) (pv : Pv) (c : Nat) (C : PC) (O : List Vb) : Prop where
  ls : C.ls.length = n
  lanes : ∀ (m : Nat) l, C.ls[m]? = some l → LaneOk c m O l
  ds : C.ds.length = O.length
  rep : ∀ (k : Nat) v d, O[k]? = some v → C.ds[k]? = some d → (∃ (m : Nat) (l : PL), C.ls[m]? = some l ∧ (k : Int) ∈ l.ps) ∨ Rep W vt v d
  ok : ∀ v ∈ O, VOK1 n pv v
  wait : C.waiting = ((C.ls.map (fun l => l.ps.length)).sum : Nat)
theorem LiveOk.le {n : Nat} {W W' : Wd} {vt vt' : Vt} {pv pv' : Pv} {c : Nat} {C : PC} {O : List Vb} (h : LiveOk n W vt pv c C O) (l : Le W vt W' vt') (hp : ∀ b x, pv b x → pv' b x) : LiveOk n W' vt' pv' c C O :=
  ⟨h.ls, h.lanes, h.ds, fun k v d h1 h2 => (h.rep k v d h1 h2).imp_right (fun r => r.le l), fun v hv => (h.ok v hv).mono hp, h.wait⟩
/-- A conversation. -/
structure TI (n : Nat) (W : Wd) (vt : Vt) (pv : Pv) (i : Nat) (t : PT) : Prop where
  client : t.client = i
  nodes : t.job.nodes = (n : Nat)
  number : t.job.number = 2
  jcl : t.job.client = i
  round : 1 ≤ t.job.round ∧ t.job.round ≤ 4
  value : t.job.value = 100 + (i : Int)
  bad : t.bad = false
  hist : ∀ (k : Nat) r, t.gots[k]? = some r → (pNext t.job (t.gots.take k)).2.2 = false ∧ ∀ (q : Nat) v d, (pNext t.job (t.gots.take k)).1[q]? = some v → r[q]? = some d → Rep W vt v d
  dec : t.over = true → t.code = 0 → pv (bal t.job) t.value ∧ Chosen n vt (bal t.job) t.value
theorem TI.le {n : Nat} {W W' : Wd} {vt vt' : Vt} {pv pv' : Pv} {i : Nat} {t : PT} (h : TI n W vt pv i t) (l : Le W vt W' vt') (hp : ∀ b x, pv b x → pv' b x) : TI n W' vt' pv' i t :=
  ⟨h.client, h.nodes, h.number, h.jcl, h.round, h.value, h.bad, fun k r e => ⟨(h.hist k r e).1, fun q v d h1 h2 => ((h.hist k r e).2 q v d h1 h2).le l⟩, fun h1 h2 => ⟨hp _ _ (h.dec h1 h2).1, (h.dec h1 h2).2.le l⟩⟩
/-- A compute node and its conversation. -/
structure CT (n : Nat) (W : Wd) (vt : Vt) (pv : Pv) (i : Nat) (t : PT) (C : PC) : Prop where
  live : C.alive = true → C.inc = 1 ∧ ∃ O, LiveOk n W vt pv i C O ∧ (t.over = false → (C.ds = [] ∧ t.gots = []) ∨ (C.ds ≠ [] ∧ (pNext t.job t.gots).2.2 = false ∧ (pNext t.job t.gots).1 = O))
  dead : C.alive = false → C.ls = []
theorem CT.le {n : Nat} {W W' : Wd} {vt vt' : Vt} {pv pv' : Pv} {i : Nat} {t : PT} {C : PC} (h : CT n W vt pv i t C) (l : Le W vt W' vt') (hp : ∀ b x, pv b x → pv' b x) : CT n W' vt' pv' i t C :=
  ⟨fun ha => by
    obtain ⟨h0, O, h1, h2⟩ := h.live ha
    exact ⟨h0, O, h1.le l hp, h2⟩, h.dead⟩
structure OrOk (n : Nat) (pv : Pv) (p : PP) : Prop where
  ne : p.vs ≠ []
  pr : ∃ c : Nat, c < 6 ∧ PairOk c p
  vs : ∀ v ∈ p.vs, VOK1 n pv v ∧ v.node.toNat = p.nd.toNat
structure Inv (n : Nat) (P : PF) (ts : List PT) (vt : Vt) : Prop where
  i0 : Inv0 n (wd P.ns) vt (pvT ts)
  len : P.ns.length = n
  door : ∀ N ∈ P.ns, door6 N
  cl : P.cs.length = 6
  tl : ts.length ≤ 4
  tk : ∀ (i : Nat) t, ts[i]? = some t → TI n (wd P.ns) vt (pvT ts) i t ∧ ∃ C, P.cs[i]? = some C ∧ CT n (wd P.ns) vt (pvT ts) i t C
  fresh : ∀ (i : Nat) C, ts.length ≤ i → P.cs[i]? = some C → C = freshPC n i
  os : ∀ p ∈ P.os, OrOk n (pvT ts) p

theorem sumSet {α : Type} (f : α → Nat) (xs : List α) : ∀ (m : Nat) (a b : α), xs[m]? = some a → ((xs.set m b).map f).sum + f a = (xs.map f).sum + f b := by
  induction xs with
  | nil => intro m a b h; simp at h
  | cons x tl ih =>
    intro m a b h
    cases m with
    | zero =>
      simp only [List.getElem?_cons_zero, Option.some.injEq] at h
      subst h
      simp only [List.set_cons_zero, List.map_cons, List.sum_cons]; omega
    | succ m =>
      rw [List.getElem?_cons_succ] at h
      have := ih m a b h
      simp only [List.set_cons_succ, List.map_cons, List.sum_cons]; omega
theorem door_nd {c : Nat} (hc : c < 6) {p : PP} (hp : PairOk c p) {N : Nd} (h : door6 N) : NdOk p.cl p.inc N := by
  refine ⟨by have := h.1; omega, ?_⟩
  rw [hp.cl, hp.inc]
  exact h.2 c hc
theorem nodeDo_door {N : Nd} {n : Nat} {v : Vb} (hv : Sv n v) (h : door6 N) : door6 (nodeDo N v).1 := by
  refine ⟨?_, fun c hc => ?_⟩
  · unfold nodeDo
    split
    · exact h.1
    · split
      · exact h.1
      · simp only; split
        · simp only [List.length_set]; exact h.1
        · exact h.1
  · exact (nodeDo_ok (c := (c : Int)) (inc := 1) ⟨by have := h.1; omega, h.2 c hc⟩ (by omega) hv).door
/-- One node does a verb: what stays. -/
theorem Inv.node {n : Nat} {P : PF} {ts : List PT} {vt : Vt} (h : Inv n P ts vt) {v : Vb} (hv : VOK1 n (pvT ts) v) {N : Nd} (hN : P.ns[v.node.toNat]? = some N) :
    ∃ vt', Inv0 n (wd (P.ns.set v.node.toNat (nodeDo N v).1)) vt' (pvT ts) ∧ Le (wd P.ns) vt (wd (P.ns.set v.node.toNat (nodeDo N v).1)) vt' ∧ Rep (wd (P.ns.set v.node.toNat (nodeDo N v).1)) vt' v (nodeDo N v).2 := by
  have hm := (List.getElem?_eq_some_iff.1 hN).1
  have hd := h.door N (List.mem_of_getElem? hN)
  rw [wd_set hm]
  exact exec_ok h.i0 hv (by have := hd.1; omega) (wd_get hN).symm
theorem bal_range {n : Nat} {W : Wd} {vt : Vt} {pv : Pv} {i : Nat} {t : PT} (h : TI n W vt pv i t) : bal t.job = t.job.round * 8 + i + 1 := by
  unfold bal; rw [h.jcl]
/-- The nodes change, the rest stays. -/
theorem Inv.nodes {n : Nat} {P : PF} {ts : List PT} {vt vt' : Vt} (h : Inv n P ts vt) {ns' : List Nd} (h0 : Inv0 n (wd ns') vt' (pvT ts)) (hl : Le (wd P.ns) vt (wd ns') vt') (hlen : ns'.length = P.ns.length) (hd : ∀ N ∈ ns', door6 N) : Inv n { P with ns := ns' } ts vt' :=
  ⟨h0, hlen.trans h.len, hd, h.cl, h.tl, fun i t ht => by
    obtain ⟨h1, C, h2, h3⟩ := h.tk i t ht
    exact ⟨h1.le hl (fun _ _ q => q), C, h2, h3.le hl (fun _ _ q => q)⟩, h.fresh, h.os⟩
theorem door_set {ns : List Nd} {m : Nat} {N : Nd} (h : ∀ N ∈ ns, door6 N) (hN : door6 N) : ∀ M ∈ ns.set m N, door6 M := fun M hM => by
  rcases mem_set hM with hM | rfl
  · exact h M hM
  · exact hN
theorem live_step {n : Nat} {W W' : Wd} {vt vt' : Vt} {pv : Pv} {c : Nat} {C : PC} {O : List Vb} (h : LiveOk n W vt pv c C O) (hle : Le W vt W' vt') {m : Nat} {l : PL} (hl : C.ls[m]? = some l) {v : Vb} {tl : List Vb} (hvs : l.p.vs = v :: tl) {d : Dn} (hr : Rep W' vt' v d) :
    LiveOk n W' vt' pv c { C with ls := C.ls.set m ⟨pDone l.p, l.ps.tail⟩, ds := C.ds.set (l.ps.headD 0).toNat d, waiting := C.waiting - 1 } O := by
  have hlo := h.lanes m l hl
  obtain ⟨k, ps, hps⟩ : ∃ k ps, l.ps = k :: ps := by
    have := hlo.len
    rw [hvs] at this
    cases hq : l.ps with
    | nil => rw [hq] at this; simp at this
    | cons k ps => exact ⟨k, ps, rfl⟩
  have hml := (List.getElem?_eq_some_iff.1 hl).1
  obtain ⟨k0, hOk, hvm⟩ := hlo.at_ 0 v k (by rw [hvs]; rfl) (by rw [hps]; rfl)
  have hnew : LaneOk c m O ⟨pDone l.p, l.ps.tail⟩ := ⟨hlo.pr.done, hlo.nd, by
    have := hlo.len
    rw [hvs, hps] at this
    simp only [pDone, hvs, hps, List.tail_cons]
    simpa using this, fun q v' k' h1 h2 => by
    simp only [pDone, hvs, hps, List.tail_cons] at h1 h2
    exact hlo.at_ (q + 1) v' k' (by rw [hvs]; exact h1) (by rw [hps]; exact h2)⟩
  refine ⟨by simp only [List.length_set]; exact h.ls, fun m' l' hl' => ?_, by simp only [List.length_set]; exact h.ds, fun k' v' d' h1 h2 => ?_, h.ok, ?_⟩
  · simp only at hl'
    by_cases e : m = m'
    · subst e
      rw [List.getElem?_set_self hml] at hl'
      cases hl'
      exact hnew
    · rw [List.getElem?_set_ne e] at hl'
      exact h.lanes m' l' hl'
  · rw [hps] at h2
    simp only [List.headD_cons] at h2 ⊢
    by_cases e : k.toNat = k'
    · subst e
      have hkl : k.toNat < C.ds.length := by rw [h.ds]; exact (List.getElem?_eq_some_iff.1 h1).1
      rw [List.getElem?_set_self hkl] at h2
      cases h2
      rw [hOk] at h1
      cases h1
      exact .inr hr
    · rw [List.getElem?_set_ne e] at h2
      rcases h.rep k' v' d' h1 h2 with ⟨m0, l0, g1, g2⟩ | g
      · left
        by_cases em : m = m0
        · subst em
          rw [hl] at g1
          cases g1
          refine ⟨m, _, List.getElem?_set_self hml, ?_⟩
          rw [hps] at g2
          simp only [hps, List.tail_cons]
          rcases List.mem_cons.1 g2 with g2 | g2
          · exfalso; exact e (by omega)
          · exact g2
        · exact ⟨m0, l0, by rw [List.getElem?_set_ne em]; exact g1, g2⟩
      · exact .inr (g.le hle)
  · have := sumSet (fun l : PL => l.ps.length) C.ls m l ⟨pDone l.p, l.ps.tail⟩ hl
    have hw := h.wait
    simp only [hps, List.tail_cons, List.length_cons] at this ⊢
    omega
theorem pStepLive_inv {n : Nat} {P : PF} {ts : List PT} {vt : Vt} (h : Inv n P ts vt) (i m : Nat) : ∃ vt', Inv n (pStepLive P i m) ts vt' := by
  unfold pStepLive
  cases hC : P.cs[i]? with
  | none => exact ⟨vt, h⟩
  | some C =>
    cases hN : P.ns[m]? with
    | none => exact ⟨vt, h⟩
    | some N =>
      simp only
      cases hl : C.ls[m]? with
      | none => exact ⟨vt, h⟩
      | some l =>
        simp only
        cases hvs : l.p.vs with
        | nil =>
          have e : pStepPair l.p N = (l.p, N, none) := by unfold pStepPair; rw [hvs]
          rw [e]
          simp only
          rw [set_same hN, show C.ls.set m { p := l.p, ps := l.ps } = C.ls from set_same hl]
          have e2 : P.cs.set i { alive := C.alive, inc := C.inc, ls := C.ls, ds := C.ds, waiting := C.waiting, trips := C.trips, posted := C.posted } = P.cs := set_same hC
          rw [e2]
          exact ⟨vt, h⟩
        | cons v tl =>
          have hit : i < ts.length := by
            by_cases e : i < ts.length
            · exact e
            · exfalso
              have := h.fresh i C (by omega) hC
              rw [this] at hl
              have h2 := freshLs_quiet (n := n) (c := (i : Int)) (inc := 1) l (List.mem_of_getElem? hl)
              rw [hvs] at h2
              cases h2
          obtain ⟨t, ht⟩ : ∃ t, ts[i]? = some t := ⟨ts[i], by simp [hit]⟩
          obtain ⟨hti, C', hC', hct⟩ := h.tk i t ht
          rw [hC] at hC'
          cases hC'
          have ha : C.alive = true := by
            cases e : C.alive with
            | true => rfl
            | false => rw [hct.dead e] at hl; simp at hl
          obtain ⟨hinc, O, hlive, hover⟩ := hct.live ha
          have hlo := hlive.lanes m l hl
          obtain ⟨k, ps, hps⟩ : ∃ k ps, l.ps = k :: ps := by
            have := hlo.len
            rw [hvs] at this
            cases hq : l.ps with
            | nil => rw [hq] at this; simp at this
            | cons k ps => exact ⟨k, ps, rfl⟩
          obtain ⟨k0, hOk, hvm⟩ := hlo.at_ 0 v k (by rw [hvs]; rfl) (by rw [hps]; rfl)
          have hvok := hlive.ok v (List.mem_of_getElem? hOk)
          have hdN := h.door N (List.mem_of_getElem? hN)
          have hsp := step_simple hvs hlo.pr.ex hlo.pr.ws hvok.sv (door_nd (show i < 6 by have := h.tl; omega) hlo.pr hdN)
          rw [← hvm] at hN
          obtain ⟨vt', g1, g2, g3⟩ := h.node hvok hN
          rw [hvm] at g1 g2 g3
          rw [hsp]
          simp only
          have hns := h.nodes g1 g2 (by rw [List.length_set]) (door_set h.door (nodeDo_door hvok.sv hdN))
          have hil : i < P.cs.length := (List.getElem?_eq_some_iff.1 hC).1
          refine ⟨vt', ⟨hns.i0, hns.len, hns.door, by simp only [List.length_set]; exact hns.cl, hns.tl, fun i' t' ht' => ?_, fun i' C' hi' hC' => ?_, hns.os⟩⟩
          · obtain ⟨q1, C2, q2, q3⟩ := hns.tk i' t' ht'
            refine ⟨q1, ?_⟩
            by_cases e : i = i'
            · subst e
              rw [ht] at ht'
              cases ht'
              refine ⟨_, List.getElem?_set_self hil, ⟨fun _ => ⟨hinc, O, live_step hlive g2 hl hvs g3, fun ho => ?_⟩, fun hd => ?_⟩⟩
              · rcases hover ho with ⟨o1, o2⟩ | ⟨o1, o2, o3⟩
                · left
                  simp only [o1, List.set_nil]
                  exact ⟨trivial, o2⟩
                · right
                  refine ⟨fun q => o1 ?_, o2, o3⟩
                  simp only at q
                  have := congrArg List.length q
                  rw [List.length_set] at this
                  exact List.length_eq_zero_iff.1 this
              · simp only at hd
                rw [ha] at hd
                cases hd
            · exact ⟨C2, by rw [List.getElem?_set_ne e]; exact q2, q3⟩
          · simp only at hC'
            rw [List.getElem?_set_ne (by omega)] at hC'
            exact h.fresh i' C' hi' hC'
theorem pStepOrphan_inv {n : Nat} {P : PF} {ts : List PT} {vt : Vt} (h : Inv n P ts vt) (i : Nat) : ∃ vt', Inv n (pStepOrphan P i) ts vt' := by
  unfold pStepOrphan
  cases hp : P.os[i]? with
  | none => exact ⟨vt, h⟩
  | some p =>
    simp only
    have hpo := h.os p (List.mem_of_getElem? hp)
    cases hN : P.ns[p.nd.toNat]? with
    | none => exact ⟨vt, h⟩
    | some N =>
      simp only
      obtain ⟨c, hc, hpr⟩ := hpo.pr
      have herase : ∀ {P' : PF} {vt' : Vt} (j : Nat), Inv n P' ts vt' → P'.os = P.os → Inv n { P' with os := P.os.eraseIdx j } ts vt' := fun j h' ho =>
        ⟨h'.i0, h'.len, h'.door, h'.cl, h'.tl, h'.tk, h'.fresh, fun q hq => h.os q (List.mem_of_mem_eraseIdx hq)⟩
      cases hvs : p.vs with
      | nil =>
        have e : pStepPair p N = (p, N, none) := by unfold pStepPair; rw [hvs]
        rw [e]
        simp only
        rw [set_same hN, hvs]
        exact ⟨vt, herase i h rfl⟩
      | cons v tl =>
        obtain ⟨hvok, hvn⟩ := hpo.vs v (by rw [hvs]; exact List.mem_cons_self)
        have hdN := h.door N (List.mem_of_getElem? hN)
        have hsp := step_simple hvs hpr.ex hpr.ws hvok.sv (door_nd hc hpr hdN)
        rw [← hvn] at hN
        obtain ⟨vt', g1, g2, g3⟩ := h.node hvok hN
        rw [hvn] at g1 g2 g3
        rw [hsp]
        simp only
        have hns := h.nodes g1 g2 (by rw [List.length_set]) (door_set h.door (nodeDo_door hvok.sv hdN))
        split
        · exact ⟨vt', herase i hns rfl⟩
        · rename_i hne
          refine ⟨vt', ⟨hns.i0, hns.len, hns.door, hns.cl, hns.tl, hns.tk, hns.fresh, fun q hq => ?_⟩⟩
          simp only at hq
          rcases mem_set hq with hq | rfl
          · exact h.os q hq
          · refine ⟨fun e => hne (by rw [e]; rfl), ⟨c, hc, hpr.done⟩, fun x hx => ?_⟩
            have := hpo.vs x (by simp only [pDone, hvs, List.tail_cons] at hx; rw [hvs]; exact List.mem_cons_of_mem _ hx)
            exact this
theorem pStep_inv {n : Nat} {P : PF} {ts : List PT} {vt : Vt} (h : Inv n P ts vt) (c : Ch) : ∃ vt', Inv n (pStep P c) ts vt' := by
  unfold pStep; split
  · exact pStepOrphan_inv h _
  · exact pStepLive_inv h _ _
theorem pRunStep_inv {n : Nat} {P : PF} {ts : List PT} {vt : Vt} (h : Inv n P ts vt) (sched : List Int) (k : Nat) : ∃ vt', Inv n (pRunStep P sched k).1 ts vt' := by
  unfold pRunStep; split
  · exact ⟨vt, h⟩
  · exact pStep_inv h _
end Go.Proofs.YtaojipegpjolcaaGreat
set_option linter.unusedVariables false
set_option linter.unusedSimpArgs false
namespace Go.Proofs.YtaojipegpjolcaaGreat
open Go.RowKit

/-- Posting a batch onto lanes. -/
theorem post_lane {c : Nat} {O : List Vb} {ls : List PL} {k : Nat} {v : Vb} (hO : O[k]? = some v) (h : ∀ (m : Nat) l, ls[m]? = some l → LaneOk c m O l) : ∀ (m : Nat) l, (postLane ls k v)[m]? = some l → LaneOk c m O l := by
  intro m l hl
  unfold postLane at hl
  cases hx : ls[v.node.toNat]? with
  | none => rw [hx] at hl; exact h m l hl
  | some x =>
    rw [hx] at hl
    simp only at hl
    by_cases e : v.node.toNat = m
    · subst e
      rw [List.getElem?_set_self (List.getElem?_eq_some_iff.1 hx).1] at hl
      cases hl
      have hx1 := h _ x hx
      refine ⟨⟨hx1.pr.cl, hx1.pr.inc, hx1.pr.ex, hx1.pr.ws⟩, hx1.nd, by simp [hx1.len], fun q v' k' h1 h2 => ?_⟩
      simp only at h1 h2
      have hlen := hx1.len
      by_cases hq : q < x.p.vs.length
      · rw [List.getElem?_append_left hq] at h1
        rw [List.getElem?_append_left (by omega)] at h2
        exact hx1.at_ q v' k' h1 h2
      · rw [List.getElem?_append_right (by omega)] at h1
        rw [List.getElem?_append_right (by omega)] at h2
        rw [hlen] at h1
        have hq0 : q - x.ps.length = 0 := by
          have := (List.getElem?_eq_some_iff.1 h1).1
          simp only [List.length_singleton] at this
          omega
        rw [hq0] at h1 h2
        simp only [List.getElem?_cons_zero, Option.some.injEq] at h1 h2
        subst h1 h2
        exact ⟨by omega, by rw [Int.toNat_natCast]; exact hO, rfl⟩
    · rw [List.getElem?_set_ne e] at hl
      exact h m l hl
theorem posted_lanes {c : Nat} {O : List Vb} (vs : List Vb) : ∀ (ls : List PL) (k : Nat), (∀ (q : Nat) v, vs[q]? = some v → O[k + q]? = some v) → (∀ (m : Nat) l, ls[m]? = some l → LaneOk c m O l) → ∀ (m : Nat) l, (pPosted ls k vs)[m]? = some l → LaneOk c m O l := by
  induction vs with
  | nil => intro ls k _ h; exact h
  | cons v tl ih =>
    intro ls k hO h
    rw [pPosted]
    exact ih _ _ (fun q x hx => by have := hO (q + 1) x (by simpa using hx); rwa [show k + 1 + q = k + (q + 1) by omega]) (post_lane (hO 0 v rfl) h)
theorem post_keeps {ls : List PL} {k : Nat} {v : Vb} {m : Nat} {l : PL} {i : Int} (h : ls[m]? = some l) (hi : i ∈ l.ps) : ∃ l', (postLane ls k v)[m]? = some l' ∧ i ∈ l'.ps := by
  unfold postLane
  cases hx : ls[v.node.toNat]? with
  | none => exact ⟨l, h, hi⟩
  | some x =>
    simp only
    by_cases e : v.node.toNat = m
    · subst e
      rw [hx] at h
      cases h
      exact ⟨_, List.getElem?_set_self (List.getElem?_eq_some_iff.1 hx).1, List.mem_append_left _ hi⟩
    · exact ⟨l, by rw [List.getElem?_set_ne e]; exact h, hi⟩
theorem posted_keeps (vs : List Vb) : ∀ (ls : List PL) (k : Nat) {m : Nat} {l : PL} {i : Int}, ls[m]? = some l → i ∈ l.ps → ∃ l', (pPosted ls k vs)[m]? = some l' ∧ i ∈ l'.ps := by
  induction vs with
  | nil => intro ls k m l i h hi; exact ⟨l, h, hi⟩
  | cons v tl ih =>
    intro ls k m l i h hi
    obtain ⟨l', h1, h2⟩ := post_keeps (k := k) (v := v) h hi
    exact ih _ _ h1 h2
theorem posted_in (vs : List Vb) : ∀ (ls : List PL) (k : Nat), (∀ v ∈ vs, v.node.toNat < ls.length) → ∀ (q : Nat) v, vs[q]? = some v → ∃ (m : Nat) (l : PL), (pPosted ls k vs)[m]? = some l ∧ ((k + q : Nat) : Int) ∈ l.ps := by
  induction vs with
  | nil => intro ls k _ q v h; simp at h
  | cons x tl ih =>
    intro ls k hn q v h
    rw [pPosted]
    cases q with
    | zero =>
      obtain ⟨l, hl⟩ : ∃ l, ls[x.node.toNat]? = some l := ⟨ls[x.node.toNat]'(hn x List.mem_cons_self), by simp [hn x List.mem_cons_self]⟩
      have hp : (postLane ls k x)[x.node.toNat]? = some { p := { l.p with vs := l.p.vs ++ [x] }, ps := l.ps ++ [(k : Int)] } := by
        unfold postLane
        rw [hl]
        exact List.getElem?_set_self (List.getElem?_eq_some_iff.1 hl).1
      obtain ⟨l', h1, h2⟩ := posted_keeps tl (postLane ls k x) (k + 1) (i := (k : Int)) hp (by simp)
      exact ⟨_, l', h1, h2⟩
    | succ q =>
      obtain ⟨m, l, h1, h2⟩ := ih (postLane ls k x) (k + 1) (fun v hv => by rw [postLane_len]; exact hn v (List.mem_cons_of_mem _ hv)) q v (by simpa using h)
      exact ⟨m, l, h1, by rwa [show k + (q + 1) = k + 1 + q by omega]⟩
theorem posted_sum (vs : List Vb) : ∀ (ls : List PL) (k : Nat), (∀ v ∈ vs, v.node.toNat < ls.length) → ((pPosted ls k vs).map (fun l => l.ps.length)).sum = (ls.map (fun l => l.ps.length)).sum + vs.length := by
  induction vs with
  | nil => intro ls k _; simp [pPosted]
  | cons x tl ih =>
    intro ls k hn
    rw [pPosted, ih _ _ (fun v hv => by rw [postLane_len]; exact hn v (List.mem_cons_of_mem _ hv))]
    obtain ⟨l, hl⟩ : ∃ l, ls[x.node.toNat]? = some l := ⟨ls[x.node.toNat]'(hn x List.mem_cons_self), by simp [hn x List.mem_cons_self]⟩
    have hp : postLane ls k x = ls.set x.node.toNat { p := { l.p with vs := l.p.vs ++ [x] }, ps := l.ps ++ [(k : Int)] } := by unfold postLane; rw [hl]
    have := sumSet (fun l : PL => l.ps.length) ls x.node.toNat l { p := { l.p with vs := l.p.vs ++ [x] }, ps := l.ps ++ [(k : Int)] } hl
    rw [hp]
    simp only [List.length_append, List.length_cons, List.length_nil] at this ⊢
    omega
theorem sumZero {α : Type} (f : α → Nat) (xs : List α) (h : (xs.map f).sum = 0) : ∀ x ∈ xs, f x = 0 := by
  induction xs with
  | nil => intro x hx; cases hx
  | cons a tl ih =>
    rw [List.map_cons, List.sum_cons] at h
    intro x hx
    rcases List.mem_cons.1 hx with rfl | hx
    · omega
    · exact ih (by omega) x hx

/-- The jobs of the proposers. -/
theorem TI.valid {n : Nat} {W : Wd} {vt : Vt} {pv : Pv} {i : Nat} {t : PT} (h : TI n W vt pv i t) (n1 : 1 ≤ n) (n5 : n ≤ 5) (hi : i < 4) : pValid t.job = 0 := by
  have e1 := h.nodes
  have e2 := h.number
  have e3 := h.jcl
  have e4 := h.round
  have e5 := h.value
  unfold pValid
  rw [if_neg (by omega), if_neg (by omega)]
  have hb : pBal t.job.round t.job.client = 0 := by unfold pBal; rw [if_neg (by omega), if_neg (by omega)]
  rw [if_neg (by rw [hb]; simp), if_neg (by omega)]
theorem hist_len {n : Nat} {W : Wd} {vt : Vt} {pv : Pv} {i : Nat} {t : PT} (h : TI n W vt pv i t) (hv : pValid t.job = 0) : t.gots.length ≤ 3 := by
  by_cases e : t.gots.length ≤ 3
  · exact e
  · exfalso
    obtain ⟨r, hr⟩ : ∃ r, t.gots[3]? = some r := ⟨t.gots[3]'(by omega), by simp [show 3 < t.gots.length by omega]⟩
    have h1 := (h.hist 3 r hr).1
    have hl : (t.gots.take 3).length = 3 := by rw [List.length_take]; omega
    rcases pNext_is hv (t.gots.take 3) with ⟨q, _⟩ | ⟨r0, q, _⟩ | ⟨r0, r1, q, _⟩ | ⟨r0, r1, r2, _, _, _, _, _, _, _, hov, _⟩ | ⟨hov, _⟩
    · rw [q] at hl; simp at hl
    · rw [q] at hl; simp at hl
    · rw [q] at hl; simp at hl
    · rw [hov] at h1; cases h1
    · rw [hov] at h1; cases h1

def pvOne (t : PT) : Pv := fun b v => bal t.job = b ∧ ∃ r0 r1, t.gots.take 2 = [r0, r1] ∧ (pNext t.job [r0, r1]).2.2 = false ∧ v = nV2 t.job r0 r1
theorem pvT_set {ts : List PT} {i : Nat} {t t' : PT} (ht : ts[i]? = some t) (b v : Int) : pvT (ts.set i t') b v ↔ (∃ (k : Nat) (x : PT), k ≠ i ∧ ts[k]? = some x ∧ pvOne x b v) ∨ pvOne t' b v := by
  have hil := (List.getElem?_eq_some_iff.1 ht).1
  constructor
  · rintro ⟨x, hx, hp⟩
    obtain ⟨k, hk⟩ := List.getElem?_of_mem hx
    by_cases e : i = k
    · subst e; rw [List.getElem?_set_self hil] at hk; cases hk; exact .inr hp
    · rw [List.getElem?_set_ne e] at hk; exact .inl ⟨k, x, fun q => e q.symm, hk, hp⟩
  · rintro (⟨k, x, e, hk, hp⟩ | hp)
    · exact ⟨x, List.mem_of_getElem? (by rw [List.getElem?_set_ne (fun q => e q.symm)]; exact hk), hp⟩
    · exact ⟨t', List.mem_of_getElem? (List.getElem?_set_self hil), hp⟩
theorem pvT_at {ts : List PT} {i : Nat} {t : PT} (ht : ts[i]? = some t) (b v : Int) : pvT ts b v ↔ (∃ (k : Nat) (x : PT), k ≠ i ∧ ts[k]? = some x ∧ pvOne x b v) ∨ pvOne t b v := by
  have := pvT_set (t' := t) ht b v
  rwa [set_same ht] at this

/-- A conversation's history: what is known of its replies. -/
structure Hs (n : Nat) (W : Wd) (vt : Vt) (j : PJ) (gs : List (List Dn)) : Prop where
  h : ∀ (k : Nat) r, gs[k]? = some r → (pNext j (gs.take k)).2.2 = false ∧ ∀ (q : Nat) v d, (pNext j (gs.take k)).1[q]? = some v → r[q]? = some d → Rep W vt v d
structure Jb (n : Nat) (j : PJ) : Prop where
  valid : pValid j = 0
  nodes : j.nodes = (n : Nat)
  number : j.number = 2
  b0 : 0 < bal j
  b1 : bal j ≤ 40
  own : 100 ≤ j.value ∧ j.value < 104
/-- The words of those who answer. -/
theorem c1_wf {n : Nat} {W : Wd} {vt : Vt} {j : PJ} (hj : Jb n j) {r0 : List Dn} {gs : List (List Dn)} (h : Hs n W vt j (r0 :: gs)) (hf : fitB (rdAsk j) r0 = true) : RiseA (nC1 j r0) ∧ ∀ a ∈ nC1 j r0, 0 ≤ a.1 ∧ a.1 < (n : Int) ∧ WF a.2 ∧ prOf a.2 < bal j := by
  have hl := fitB_len2 hf
  rw [rdAsk_len] at hl
  have hn := hj.nodes
  refine ⟨(rdFold_rise r0 ([], 0, 0) trivial (fun a ha => by cases ha)).filter _, fun a ha => ?_⟩
  obtain ⟨h1, h2⟩ := List.mem_filter.1 ha
  rw [decide_eq_true_eq] at h2
  obtain ⟨b1, b2⟩ := rdFold_nodes j.nodes r0 ([], 0, 0) (fun a ha => by cases ha) (by simp only; omega) a h1
  obtain ⟨k, d, k1, k2, rfl⟩ := rdFold_in h1
  obtain ⟨g1, g2⟩ := h.h 0 r0 rfl
  simp only [List.take_zero] at g1 g2
  have hv : (pNext j []).1[k]? = some (rdVerb j k) := by
    have hx : NxIs j [] (pNext j []) := pNext_is hj.valid []
    have hk : k < j.nodes.toNat := by have := (List.getElem?_eq_some_iff.1 k1).1; omega
    rcases hx with ⟨_, q, _⟩ | ⟨r, q⟩ | ⟨r, r', q⟩ | ⟨r, r', r'', q⟩ | ⟨q, _⟩
    · rw [q]; simp [rdAsk, hk]
    · simp at q
    · simp at q
    · simp at q
    · rw [g1] at q; cases q
  exact ⟨b1, by omega, (g2 k _ d hv k1).rd rfl k2, h2⟩
/-- Who has promised. -/
theorem s2_prom {n : Nat} {W : Wd} {vt : Vt} {j : PJ} (hj : Jb n j) {r0 r1 : List Dn} {gs : List (List Dn)} (h : Hs n W vt j (r0 :: r1 :: gs)) (hf : fitB (rdAsk j) r0 = true) (hf1 : fitB (swAsk j (pPromise (bal j)) (nC1 j r0)) r1 = true) :
    RiseA (nS2 j r0 r1) ∧ ∀ a ∈ nS2 j r0 r1, 0 ≤ a.1 ∧ a.1 < (n : Int) ∧ WF a.2 ∧ prOf a.2 = bal j ∧ accOf a.2 < bal j ∧ Prom W vt a.1.toNat (bal j) (accOf a.2) (valOf a.2) := by
  obtain ⟨c1, c2⟩ := c1_wf hj h hf
  have hl := fitB_len2 hf1
  rw [swAsk_len] at hl
  refine ⟨swFold_rise _ _ c1 r1 ⟨0, [], _, 0⟩ trivial (fun a ha => by cases ha) (by simp only; omega), fun a ha => ?_⟩
  obtain ⟨k, x, d, k1, k2, k3, k4, rfl⟩ := swFold_in (by omega) ha
  obtain ⟨x0, x1, x2, x3⟩ := c2 x (List.mem_of_getElem? k1)
  obtain ⟨p1, p2, p3, p4⟩ := promise_parts x2 x3 hj.b1
  obtain ⟨g1, g2⟩ := h.h 1 r1 rfl
  have ht : (r0 :: r1 :: gs).take 1 = [r0] := rfl
  rw [ht] at g1 g2
  have hv : (pNext j [r0]).1[k]? = some (swVerb j (pPromise (bal j)) x) := by
    rcases pNext_is hj.valid [r0] with ⟨q, _⟩ | ⟨r, q, _, _, q2, _⟩ | ⟨r, r', q⟩ | ⟨r, r', r'', q⟩ | ⟨q, _⟩
    · simp at q
    · simp only [List.cons.injEq, and_true] at q
      subst q
      rw [q2]; simp [swAsk, k1]
    · simp at q
    · simp at q
    · rw [g1] at q; cases q
  have hdone := (g2 k _ d hv k2).sw rfl k3 k4
  have hx : (swVerb j (pPromise (bal j)) x).old = x.2 := rfl
  have hy : (swVerb j (pPromise (bal j)) x).new = pPromise (bal j) x.2 := rfl
  have hprom := hdone.1 (by rw [hx, hy, p2]; exact x3)
  rw [hx, hy, p2] at hprom
  refine ⟨x0, x1, p1, p2, ?_, ?_⟩
  · simp only; rw [p3]; have := x2.b; omega
  · simp only; rw [p3, p4]; exact hprom
/-- Who has accepted. -/
theorem s3_votes {n : Nat} {W : Wd} {vt : Vt} {j : PJ} (hj : Jb n j) {r0 r1 r2 : List Dn} (h : Hs n W vt j [r0, r1, r2]) (hf : fitB (rdAsk j) r0 = true) (hf1 : fitB (swAsk j (pPromise (bal j)) (nC1 j r0)) r1 = true) (hf2 : fitB (swAsk j (pAccept (bal j) (nV2 j r0 r1)) (nS2 j r0 r1)) r2 = true)
    (hV : 100 ≤ nV2 j r0 r1 ∧ nV2 j r0 r1 < 104) (hm : n / 2 + 1 ≤ (nS3 j r0 r1 r2).length) : Chosen n vt (bal j) (nV2 j r0 r1) := by
  obtain ⟨c1, c2⟩ := s2_prom hj h hf hf1
  have hl := fitB_len2 hf2
  rw [swAsk_len] at hl
  have hri : RiseA (nS3 j r0 r1 r2) := swFold_rise _ _ c1 r2 ⟨0, [], _, 0⟩ trivial (fun a ha => by cases ha) (by simp only; omega)
  have hmem : ∀ a ∈ nS3 j r0 r1 r2, 0 ≤ a.1 ∧ a.1 < (n : Int) ∧ vt a.1.toNat (bal j) (nV2 j r0 r1) := fun a ha => by
    obtain ⟨k, x, d, k1, k2, k3, k4, rfl⟩ := swFold_in (by omega) ha
    obtain ⟨x0, x1, x2, x3, x4, x5⟩ := c2 x (List.mem_of_getElem? k1)
    obtain ⟨p1, p2, p3, p4⟩ := accept_parts hj.b0 hj.b1 (show 0 ≤ nV2 j r0 r1 by omega) (by omega) x.2
    obtain ⟨g1, g2⟩ := h.h 2 r2 rfl
    have ht : [r0, r1, r2].take 2 = [r0, r1] := rfl
    rw [ht] at g1 g2
    have hv : (pNext j [r0, r1]).1[k]? = some (swVerb j (pAccept (bal j) (nV2 j r0 r1)) x) := by
      rcases pNext_is hj.valid [r0, r1] with ⟨q, _⟩ | ⟨r, q⟩ | ⟨r, r', q, _, _, _, q2, _⟩ | ⟨r, r', r'', q⟩ | ⟨q, _⟩
      · simp at q
      · simp at q
      · simp only [List.cons.injEq, and_true] at q
        obtain ⟨rfl, rfl⟩ := q
        rw [q2]; simp [swAsk, k1]
      · simp at q
      · rw [g1] at q; cases q
    have hdone := (g2 k _ d hv k2).sw rfl k3 k4
    have hx : (swVerb j (pAccept (bal j) (nV2 j r0 r1)) x).old = x.2 := rfl
    have hy : (swVerb j (pAccept (bal j) (nV2 j r0 r1)) x).new = pAccept (bal j) (nV2 j r0 r1) x.2 := rfl
    have hvt := hdone.2 (by rw [hx, hy, p2, x3])
    rw [hy, p3, p4] at hvt
    exact ⟨x0, x1, hvt⟩
  refine ⟨inA (nS3 j r0 r1 r2), Nat.le_trans hm (rise_count n _ hri (fun a ha => ⟨(hmem a ha).1, (hmem a ha).2.1⟩)), fun m hm => ?_⟩
  obtain ⟨a, ha, rfl⟩ := inA_iff.1 hm
  exact (hmem a ha).2.2
end Go.Proofs.YtaojipegpjolcaaGreat
set_option linter.unusedVariables false
set_option linter.unusedSimpArgs false
namespace Go.Proofs.YtaojipegpjolcaaGreat
open Go.RowKit

theorem ask_vok {n : Nat} {W : Wd} {vt : Vt} {pv : Pv} {j : PJ} (hj : Jb n j) {gs : List (List Dn)} (h : Hs n W vt j gs)
    (hacc : ∀ r0 r1, gs = [r0, r1] → (pNext j gs).2.2 = false → pv (bal j) (nV2 j r0 r1) ∧ 100 ≤ nV2 j r0 r1 ∧ nV2 j r0 r1 < 104) (hov : (pNext j gs).2.2 = false) : ∀ v ∈ (pNext j gs).1, VOK1 n pv v := by
  intro v hv
  have hn := hj.nodes
  have hnum := hj.number
  have hsv := (pNext_cons j gs (by omega) v hv)
  rw [hn] at hsv
  have hat : v.at_ = 10 := by have := hsv.2.2.2.1; omega
  have hsv := hsv.sv (by omega) (by omega)
  rcases pNext_is hj.valid gs with ⟨q, q1, _⟩ | ⟨r0, q, f0, m1, q1, _⟩ | ⟨r0, r1, q, f0, f1, m2, q1, _⟩ | ⟨r0, r1, r2, _, _, _, _, _, _, _, q, _⟩ | ⟨q, _⟩
  · rw [q1] at hv
    obtain ⟨k, _, rfl⟩ := List.mem_map.1 hv
    exact ⟨hsv, hat, fun e => by simp [rdVerb] at e, fun e => by simp [rdVerb] at e⟩
  · rw [q1] at hv
    rw [q] at h
    obtain ⟨c1, c2⟩ := c1_wf hj h f0
    obtain ⟨a, ha, rfl⟩ := List.mem_map.1 hv
    obtain ⟨a0, a1, a2, a3⟩ := c2 a ha
    obtain ⟨p1, p2, p3, p4⟩ := promise_parts a2 a3 hj.b1
    exact ⟨hsv, hat, fun _ => ⟨a2, p1⟩, fun _ => .inl ⟨by simp only [swVerb, p2]; exact a3, p3, p4⟩⟩
  · obtain ⟨k1, k2, k3⟩ := hacc r0 r1 q hov
    rw [q1] at hv
    rw [q] at h
    obtain ⟨c1, c2⟩ := s2_prom hj h f0 f1
    obtain ⟨a, ha, rfl⟩ := List.mem_map.1 hv
    obtain ⟨a0, a1, a2, a3, a4, _⟩ := c2 a ha
    obtain ⟨p1, p2, p3, p4⟩ := accept_parts hj.b0 hj.b1 (show 0 ≤ nV2 j r0 r1 by omega) (by omega) a.2
    exact ⟨hsv, hat, fun _ => ⟨a2, p1⟩, fun _ => .inr ⟨by simp only [swVerb, p2, a3], by simp only [swVerb, a3]; exact a4, by simp only [swVerb, p2, p3], by simp only [swVerb, p2, p4]; exact k1⟩⟩
  · rw [q] at hov; cases hov
  · rw [q] at hov; cases hov
theorem Inv.turned {n : Nat} {P : PF} {ts : List PT} {vt : Vt} (h : Inv n P ts vt) {i : Nat} {t t' : PT} {C C' : PC} (ht : ts[i]? = some t) (hC : P.cs[i]? = some C) (h0 : Inv0 n (wd P.ns) vt (pvT (ts.set i t'))) (hp : ∀ b v, pvT ts b v → pvT (ts.set i t') b v)
    (hti : TI n (wd P.ns) vt (pvT (ts.set i t')) i t') (hct : CT n (wd P.ns) vt (pvT (ts.set i t')) i t' C') : Inv n { P with cs := P.cs.set i C' } (ts.set i t') vt := by
  have hil := (List.getElem?_eq_some_iff.1 ht).1
  have hcl := (List.getElem?_eq_some_iff.1 hC).1
  refine ⟨h0, h.len, h.door, by simp only [List.length_set]; exact h.cl, by rw [List.length_set]; exact h.tl, fun k x hx => ?_, fun k D hk hD => ?_, fun p hp' => ?_⟩
  · by_cases e : i = k
    · subst e
      rw [List.getElem?_set_self hil] at hx
      cases hx
      exact ⟨hti, C', List.getElem?_set_self hcl, hct⟩
    · rw [List.getElem?_set_ne e] at hx
      obtain ⟨g1, D, g2, g3⟩ := h.tk k x hx
      exact ⟨g1.le (Le.refl _ _) hp, D, by simp only; rw [List.getElem?_set_ne e]; exact g2, g3.le (Le.refl _ _) hp⟩
  · rw [List.length_set] at hk
    simp only at hD
    rw [List.getElem?_set_ne (by omega)] at hD
    exact h.fresh k D hk hD
  · have := h.os p hp'
    exact ⟨this.ne, this.pr, fun v hv => ⟨(this.vs v hv).1.mono hp, (this.vs v hv).2⟩⟩
theorem take_more {gots : List (List Dn)} {ds : List Dn} {r0 r1 : List Dn} (h : gots.take 2 = [r0, r1]) : (gots ++ [ds]).take 2 = [r0, r1] := by
  have hl := congrArg List.length h
  simp only [List.length_take, List.length_cons, List.length_nil] at hl
  rw [List.take_append_of_le_length (by omega)]
  exact h

theorem pTurn_inv {n : Nat} (n1 : 1 ≤ n) (n5 : n ≤ 5) {P : PF} {ts : List PT} {vt : Vt} (h : Inv n P ts vt) {i : Nat} {t : PT} (ht : ts[i]? = some t) : Inv n (pTurn P t).1 (ts.set i (pTurn P t).2) vt := by
  obtain ⟨hti, C, hC, hct⟩ := h.tk i t ht
  have hi4 : i < 4 := by have := (List.getElem?_eq_some_iff.1 ht).1; have := h.tl; omega
  have hjv := hti.valid n1 n5 hi4
  have hbr := bal_range hti
  have hrd := hti.round
  have hval := hti.value
  have hj : Jb n t.job := ⟨hjv, hti.nodes, hti.number, by omega, by omega, by omega⟩
  have hgl := hist_len hti hjv
  unfold pTurn
  rw [hti.client, Int.toNat_natCast, hC]
  simp only
  by_cases hidle : t.over = true ∨ C.alive = false ∨ 0 < C.waiting
  · rw [if_pos hidle]
    simp only
    rw [set_same ht]
    exact h
  · rw [if_neg hidle]
    have ho : t.over = false := by cases e : t.over with
      | true => exact absurd (.inl e) hidle
      | false => rfl
    have ha : C.alive = true := by cases e : C.alive with
      | true => rfl
      | false => exact absurd (.inr (.inl e)) hidle
    obtain ⟨hinc, O, hlive, hover⟩ := hct.live ha
    have hw0 : (C.ls.map (fun l => l.ps.length)).sum = 0 := by
      have := hlive.wait
      have : ¬ 0 < C.waiting := fun e => hidle (.inr (.inr e))
      omega
    have hps : ∀ (m : Nat) l, C.ls[m]? = some l → l.ps = [] := fun m l hl => List.length_eq_zero_iff.1 (sumZero _ _ hw0 l (List.mem_of_getElem? hl))
    have hrep : ∀ (k : Nat) v d, O[k]? = some v → C.ds[k]? = some d → Rep (wd P.ns) vt v d := fun k v d h1 h2 => by
      rcases hlive.rep k v d h1 h2 with ⟨m, l, g1, g2⟩ | g
      · rw [hps m l g1] at g2; cases g2
      · exact g
    obtain ⟨gs, hgs⟩ : ∃ gs, gs = gotsTaken C t := ⟨_, rfl⟩
    have hgs2 : gs = if C.ds = [] then t.gots else t.gots ++ [C.ds] := hgs
    have hhs : Hs n (wd P.ns) vt t.job gs := by
      refine ⟨fun k r hr => ?_⟩
      rcases hover ho with ⟨o1, o2⟩ | ⟨o1, o2, o3⟩
      · rw [hgs2, if_pos o1, o2] at hr; simp at hr
      · rw [hgs2, if_neg o1] at hr ⊢
        by_cases e : k < t.gots.length
        · rw [List.getElem?_append_left e] at hr
          rw [List.take_append_of_le_length (by omega)]
          exact hti.hist k r hr
        · rw [List.getElem?_append_right (by omega)] at hr
          have hk0 : k - t.gots.length = 0 := by
            have := (List.getElem?_eq_some_iff.1 hr).1
            simp only [List.length_singleton] at this
            omega
          rw [hk0] at hr
          simp only [List.getElem?_cons_zero, Option.some.injEq] at hr
          subst hr
          have : k = t.gots.length := by omega
          subst this
          rw [List.take_left]
          exact ⟨o2, fun q v d h1 h2 => hrep q v d (by rw [← o3]; exact h1) h2⟩
    have hlen : gs.length ≤ 4 := by rw [hgs2]; split <;> (try simp only [List.length_append, List.length_singleton]) <;> omega
    have htk : pTaken P i C = { P with cs := P.cs.set i { C with ds := [] } } := by
      unfold pTaken pTake
      rw [hC]
      split
      · rename_i e
        have : ({ C with ds := [] } : PC) = C := by rw [← e]
        rw [this, set_same hC]
      · rfl
    rw [← hgs, if_neg (by omega), htk]
    -- proposals
    have hpv0 : ∀ (t' : PT), t'.job = t.job → t'.gots = gs → ∀ b v, pvOne t' b v ↔ pvOne t b v ∨ ∃ r0 r1, gs = [r0, r1] ∧ (pNext t.job gs).2.2 = false ∧ t.gots.length = 1 ∧ b = bal t.job ∧ v = nV2 t.job r0 r1 := by
      intro t' e1 e2 b v
      unfold pvOne
      rw [e1, e2]
      constructor
      · rintro ⟨g1, r0, r1, g2, g3, g4⟩
        by_cases e : C.ds = []
        · rw [hgs2, if_pos e] at g2
          exact .inl ⟨g1, r0, r1, g2, g3, g4⟩
        · rw [hgs2, if_neg e] at g2
          by_cases e3 : 2 ≤ t.gots.length
          · rw [List.take_append_of_le_length e3] at g2
            exact .inl ⟨g1, r0, r1, g2, g3, g4⟩
          · have hl := congrArg List.length g2
            simp only [List.length_take, List.length_append, List.length_cons, List.length_nil] at hl
            have hgg : gs = [r0, r1] := by
              rw [hgs2, if_neg e, ← g2, List.take_of_length_le (by simp; omega)]
            exact .inr ⟨r0, r1, hgg, by rw [hgg]; exact g3, by omega, g1.symm, g4⟩
      · rintro (⟨g1, r0, r1, g2, g3, g4⟩ | ⟨r0, r1, g1, g2, _, rfl, rfl⟩)
        · refine ⟨g1, r0, r1, ?_, g3, g4⟩
          rw [hgs2]
          split
          · exact g2
          · exact take_more g2
        · exact ⟨rfl, r0, r1, by rw [g1]; rfl, by rw [← g1]; exact g2, rfl⟩
    have hpvsub : ∀ (t' : PT), t'.job = t.job → t'.gots = gs → ∀ b v, pvT ts b v → pvT (ts.set i t') b v := fun t' e1 e2 b v hp => by
      rcases (pvT_at ht b v).1 hp with g | g
      · exact (pvT_set ht b v).2 (.inl g)
      · exact (pvT_set ht b v).2 (.inr ((hpv0 t' e1 e2 b v).2 (.inl g)))
    have hnum : pMaj t.job.nodes = (n : Int) / 2 + 1 := by unfold pMaj; rw [hti.nodes, if_neg (by omega)]
    have hsafe : ∀ r0 r1 tl, gs = r0 :: r1 :: tl → fitB (rdAsk t.job) r0 = true → fitB (swAsk t.job (pPromise (bal t.job)) (nC1 t.job r0)) r1 = true → pMaj t.job.nodes ≤ (nS2 t.job r0 r1).length → Safe n (wd P.ns) vt (bal t.job) (nV2 t.job r0 r1) ∧ 100 ≤ nV2 t.job r0 r1 ∧ nV2 t.job r0 r1 < 104 := by
      intro r0 r1 tl e f0 f1 m2
      rw [e] at hhs
      obtain ⟨s1, s2⟩ := s2_prom hj hhs f0 f1
      exact safe_new h.i0 hj.own (nS2 t.job r0 r1) s1 (fun a ha => by
        obtain ⟨a0, a1, _, _, _, a5⟩ := s2 a ha
        exact ⟨a0, a1, a5⟩) (by rw [hnum] at m2; omega)
    have hi0 : ∀ (t' : PT), t'.job = t.job → t'.gots = gs → Inv0 n (wd P.ns) vt (pvT (ts.set i t')) := by
      intro t' e1 e2
      by_cases hacc : ∃ r0 r1, gs = [r0, r1] ∧ (pNext t.job gs).2.2 = false ∧ t.gots.length = 1
      · obtain ⟨r0, r1, g1, g2, g3⟩ := hacc
        rcases pNext_is hjv gs with ⟨q, _⟩ | ⟨_, q, _⟩ | ⟨x0, x1, q, f0, f1, m2, _, _⟩ | ⟨_, _, _, _, _, _, _, _, _, _, q, _⟩ | ⟨q, _⟩
        · rw [g1] at q; simp at q
        · rw [g1] at q; simp at q
        · obtain ⟨s1, s2⟩ := hsafe x0 x1 [] q f0 f1 m2
          rw [g1] at q
          simp only [List.cons.injEq, and_true] at q
          obtain ⟨rfl, rfl⟩ := q
          have hnot : ∀ b v, ¬ pvOne t b v := fun b v hp => by
            obtain ⟨_, a, b', e, _⟩ := hp
            have := congrArg List.length e
            simp only [List.length_take, List.length_cons, List.length_nil] at this
            omega
          refine h.i0.grow s1 s2 (fun v hp => ?_) (fun b v => ?_)
          · rcases (pvT_at ht _ v).1 hp with ⟨k, x, hk, hx, hp⟩ | hp
            · exfalso
              have hxi := (h.tk k x hx).1
              have h2 := bal_range hxi
              have h3 := hp.1
              have hk4 : k < 4 := by have := (List.getElem?_eq_some_iff.1 hx).1; have := h.tl; omega
              omega
            · exact absurd hp (hnot _ _)
          · rw [pvT_set ht, pvT_at ht, hpv0 t' e1 e2]
            constructor
            · rintro (g | g | ⟨_, _, h1, _, _, rfl, rfl⟩)
              · exact .inl (.inl g)
              · exact .inl (.inr g)
              · rw [g1] at h1
                simp only [List.cons.injEq, and_true] at h1
                obtain ⟨rfl, rfl⟩ := h1
                exact .inr ⟨rfl, rfl⟩
            · rintro ((g | g) | ⟨rfl, rfl⟩)
              · exact .inl g
              · exact .inr (.inl g)
              · exact .inr (.inr ⟨r0, r1, g1, g2, g3, rfl, rfl⟩)
        · rw [g2] at q; cases q
        · rw [g2] at q; cases q
      · refine h.i0.same (fun b v => ?_)
        rw [pvT_set ht, pvT_at ht, hpv0 t' e1 e2]
        constructor
        · rintro (g | g | ⟨r0, r1, h1, h2, h3, _⟩)
          · exact .inl g
          · exact .inr g
          · exact absurd ⟨r0, r1, h1, h2, h3⟩ hacc
        · rintro (g | g)
          · exact .inl g
          · exact .inr (.inl g)
    by_cases hov : (pNext t.job gs).2.2 = true
    · rw [if_pos hov]
      simp only
      obtain ⟨t', ht'⟩ : ∃ t' : PT, t' = { t with gots := gs, over := true, code := (pNext t.job gs).2.1.code, value := (pNext t.job gs).2.1.value } := ⟨_, rfl⟩
      rw [hti.client] at ht'
      rw [← ht']
      have e1 : t'.job = t.job := by rw [ht']
      have e2 : t'.gots = gs := by rw [ht']
      refine h.turned ht hC (hi0 t' e1 e2) (hpvsub t' e1 e2) ⟨by rw [ht'], by rw [e1]; exact hti.nodes, by rw [e1]; exact hti.number, by rw [e1]; exact hti.jcl, by rw [e1]; exact hti.round, by rw [e1]; exact hti.value, by rw [ht']; exact hti.bad, fun k r hr => by rw [e1, e2]; rw [e2] at hr; exact hhs.h k r hr, fun _ hc => ?_⟩
        ⟨fun _ => ⟨hinc, [], ⟨hlive.ls, fun m l hl => ?_, rfl, fun k v d h1 => (by simp at h1), fun v hv => (by cases hv), hlive.wait⟩, fun q => by rw [ht'] at q; cases q⟩, fun q => by simp only at q; rw [ha] at q; cases q⟩
      · rw [ht'] at hc
        simp only at hc
        rcases pNext_is hjv gs with ⟨_, _, q⟩ | ⟨_, _, _, _, _, q⟩ | ⟨_, _, _, _, _, _, _, q⟩ | ⟨r0, r1, r2, q, f0, f1, f2, m2, m3, hv, _, _⟩ | ⟨_, q⟩
        · rw [hov] at q; cases q
        · rw [hov] at q; cases q
        · rw [hov] at q; cases q
        · obtain ⟨s1, s2⟩ := hsafe r0 r1 [r2] q f0 f1 m2
          have hv' : t'.value = nV2 t.job r0 r1 := by rw [ht']; exact hv
          rw [e1, hv']
          refine ⟨(pvT_set ht _ _).2 (.inr ⟨by rw [e1], r0, r1, by rw [e2, q]; rfl, ?_, by rw [e1]⟩), s3_votes hj (by rw [← q]; exact hhs) f0 f1 f2 s2 (by rw [hnum] at m3; omega)⟩
          rw [e1]
          have := (hhs.h 2 r2 (by rw [q]; rfl)).1
          rw [q] at this
          exact this
        · exact absurd hc q
      · have hlo := hlive.lanes m l hl
        have hpn := hps m l hl
        exact ⟨hlo.pr, hlo.nd, hlo.len, fun q v k _ h2 => by rw [hpn] at h2; simp at h2⟩
    · rw [if_neg hov]
      have hov' : (pNext t.job gs).2.2 = false := by simpa using hov
      simp only
      obtain ⟨t', ht'⟩ : ∃ t' : PT, t' = { t with gots := gs, over := false, code := (pNext t.job gs).2.1.code, value := (pNext t.job gs).2.1.value } := ⟨_, rfl⟩
      rw [hti.client] at ht'
      rw [← ht']
      have e1 : t'.job = t.job := by rw [ht']
      have e2 : t'.gots = gs := by rw [ht']
      obtain ⟨ask, hask⟩ : ∃ x, x = (pNext t.job gs).1 := ⟨_, rfl⟩
      have hne : ask ≠ [] := by rw [hask]; exact pNext_ask_ne hov'
      have hil := (List.getElem?_eq_some_iff.1 hC).1
      have hacc : ∀ r0 r1, gs = [r0, r1] → (pNext t.job gs).2.2 = false → pvT (ts.set i t') (bal t.job) (nV2 t.job r0 r1) ∧ 100 ≤ nV2 t.job r0 r1 ∧ nV2 t.job r0 r1 < 104 := fun r0 r1 q q2 => by
        rcases pNext_is hjv gs with ⟨q', _⟩ | ⟨_, q', _⟩ | ⟨x0, x1, q', f0, f1, m2, _, _⟩ | ⟨_, _, _, _, _, _, _, _, _, _, q', _⟩ | ⟨q', _⟩
        · rw [q] at q'; simp at q'
        · rw [q] at q'; simp at q'
        · obtain ⟨s1, s2⟩ := hsafe x0 x1 [] q' f0 f1 m2
          rw [q] at q'
          simp only [List.cons.injEq, and_true] at q'
          obtain ⟨rfl, rfl⟩ := q'
          exact ⟨(pvT_set ht _ _).2 (.inr ⟨by rw [e1], r0, r1, by rw [e2, q]; rfl, by rw [e1, ← q]; exact q2, by rw [e1]⟩), s2⟩
        · rw [q2] at q'; cases q'
        · rw [q2] at q'; cases q'
      have hvok := ask_vok hj hhs hacc hov'
      rw [← hask] at hvok
      have hnd : ∀ v ∈ ask, v.node.toNat < C.ls.length := fun v hv => by rw [hlive.ls]; exact (hvok v hv).sv.nd1
      have hpost : pPost { P with cs := P.cs.set i { C with ds := [] } } i ask = { P with cs := P.cs.set i { C with ls := pPosted C.ls 0 ask, ds := List.replicate ask.length ⟨0, []⟩, waiting := ask.length, trips := wrap64 (C.trips + 1), posted := wrap64 (C.posted + ask.length) } } := by
        unfold pPost
        simp only
        rw [List.getElem?_set_self hil]
        simp only [List.set_set]
      rw [← hask, hpost]
      refine h.turned ht hC (hi0 t' e1 e2) (hpvsub t' e1 e2) ⟨by rw [ht'], by rw [e1]; exact hti.nodes, by rw [e1]; exact hti.number, by rw [e1]; exact hti.jcl, by rw [e1]; exact hti.round, by rw [e1]; exact hti.value, by rw [ht']; exact hti.bad, fun k r hr => by rw [e1, e2]; rw [e2] at hr; exact hhs.h k r hr, fun q => by rw [ht'] at q; cases q⟩
        ⟨fun _ => ⟨hinc, ask, ⟨by rw [pp_len]; exact hlive.ls, ?_, by simp, fun k v d h1 h2 => ?_, hvok, ?_⟩, fun _ => .inr ⟨?_, by rw [e1, e2]; exact hov', by rw [e1, e2, hask]⟩⟩, fun q => by simp only at q; rw [ha] at q; cases q⟩
      · refine posted_lanes ask C.ls 0 (fun q v hv => by rw [Nat.zero_add]; exact hv) (fun m l hl => ?_)
        have hlo := hlive.lanes m l hl
        have hpn := hps m l hl
        exact ⟨hlo.pr, hlo.nd, hlo.len, fun q v k _ h2 => by rw [hpn] at h2; simp at h2⟩
      · obtain ⟨m, l, g1, g2⟩ := posted_in ask C.ls 0 hnd k v h1
        rw [Nat.zero_add] at g2
        exact .inl ⟨m, l, g1, g2⟩
      · rw [posted_sum ask C.ls 0 hnd, hw0]; simp
      · intro q
        simp only at q
        have := congrArg List.length q
        simp only [List.length_replicate, List.length_nil] at this
        exact hne (List.length_eq_zero_iff.1 this)
theorem pTurns_inv {n : Nat} (n1 : 1 ≤ n) (n5 : n ≤ 5) {vt : Vt} (suf : List PT) : ∀ (pre : List PT) (P : PF), Inv n P (pre ++ suf) vt → Inv n (pTurns P suf).1 (pre ++ (pTurns P suf).2) vt := by
  induction suf with
  | nil => intro pre P h; exact h
  | cons t tl ih =>
    intro pre P h
    have h1 := pTurn_inv n1 n5 h (i := pre.length) (t := t) (by simp)
    have e : (pre ++ t :: tl).set pre.length (pTurn P t).2 = (pre ++ [(pTurn P t).2]) ++ tl := by
      rw [List.set_append_right _ _ (Nat.le_refl _), Nat.sub_self, List.set_cons_zero]; simp
    rw [e] at h1
    have h2 := ih (pre ++ [(pTurn P t).2]) _ h1
    simp only [pTurns]
    simpa using h2
end Go.Proofs.YtaojipegpjolcaaGreat
set_option linter.unusedVariables false
set_option linter.unusedSimpArgs false
namespace Go.Proofs.YtaojipegpjolcaaGreat
open Go.RowKit

structure Ev where
  at_ : Int
  kind : Int
  a : Int
def pDrop (P : PF) (i : Nat) : PF := { P with os := P.os.eraseIdx i }
def pHappen (P : PF) (cl : List Int) (e : Ev) : PF :=
  if pick e.kind 4 = 0 then (if cl = [] then P else pDie P (cl.getD (pick e.a (cl.length : Nat)).toNat 0).toNat)
  else if pick e.kind 4 = 1 then pFail P (pick e.a (P.ns.length : Nat)).toNat
  else if pick e.kind 4 = 2 then pBack P (pick e.a (P.ns.length : Nat)).toNat
  else pDrop P (pick e.a 3).toNat
def pEvents (cl : List Int) (n : Nat) : PF → List Ev → PF
  | P, [] => P
  | P, e :: tl => pEvents cl n (if pick e.at_ 60 = (n : Int) then pHappen P cl e else P) tl
def pLoopE (sched : List Int) (cl : List Int) (evs : List Ev) : Nat → Nat → PF → List PT → PF × List PT
  | 0, _, P, ts => (P, ts)
  | k + 1, n, P, ts => if (pRunStep (pTurns (pEvents cl n P evs) ts).1 sched n).2 then pLoopE sched cl evs k (n + 1) (pRunStep (pTurns (pEvents cl n P evs) ts).1 sched n).1 (pTurns (pEvents cl n P evs) ts).2 else ((pRunStep (pTurns (pEvents cl n P evs) ts).1 sched n).1, (pTurns (pEvents cl n P evs) ts).2)
def pDriveE (P : PF) (ts : List PT) (sched : List Int) (evs : List Ev) (most : Nat) : PF × List PT := pTurns (pLoopE sched (ts.map (·.client)) evs most 0 P ts).1 (pLoopE sched (ts.map (·.client)) evs most 0 P ts).2

theorem pDie_inv {n : Nat} {P : PF} {ts : List PT} {vt : Vt} (h : Inv n P ts vt) {i : Nat} (hi : i < ts.length) : Inv n (pDie P i) ts vt := by
  obtain ⟨t, ht⟩ : ∃ t, ts[i]? = some t := ⟨ts[i], by simp [hi]⟩
  obtain ⟨hti, C, hC, hct⟩ := h.tk i t ht
  unfold pDie
  rw [hC]
  simp only
  split
  · rename_i ha
    obtain ⟨hinc, O, hlive, _⟩ := hct.live ha
    have hil := (List.getElem?_eq_some_iff.1 hC).1
    have htl := h.tl
    refine ⟨h.i0, h.len, h.door, by simp only [List.length_set]; exact h.cl, h.tl, fun k x hx => ?_, fun k D hk hD => ?_, fun p hp => ?_⟩
    · obtain ⟨g1, D, g2, g3⟩ := h.tk k x hx
      refine ⟨g1, ?_⟩
      by_cases e : i = k
      · subst e
        exact ⟨_, List.getElem?_set_self hil, ⟨fun q => by simp at q, fun _ => rfl⟩⟩
      · exact ⟨D, by simp only; rw [List.getElem?_set_ne e]; exact g2, g3⟩
    · simp only at hD
      rw [List.getElem?_set_ne (by omega)] at hD
      exact h.fresh k D hk hD
    · simp only at hp
      rcases List.mem_append.1 hp with hp | hp
      · exact h.os p hp
      · obtain ⟨l, hl, rfl⟩ := List.mem_map.1 hp
        obtain ⟨m, hm⟩ := List.getElem?_of_mem (List.mem_filter.1 hl).1
        have hlo := hlive.lanes m l hm
        refine ⟨fun e => by have := (List.mem_filter.1 hl).2; rw [e] at this; simp at this, ⟨i, by omega, hlo.pr⟩, fun v hv => ?_⟩
        obtain ⟨q, hq⟩ := List.getElem?_of_mem hv
        obtain ⟨k, hk⟩ : ∃ k, l.ps[q]? = some k := ⟨l.ps[q]'(by have := hlo.len; have := (List.getElem?_eq_some_iff.1 hq).1; omega), by simp⟩
        obtain ⟨k0, hO, hvm⟩ := hlo.at_ q v k hq hk
        exact ⟨hlive.ok v (List.mem_of_getElem? hO), by rw [hvm, hlo.nd]; simp⟩
  · exact h
theorem Inv.setN {n : Nat} {P : PF} {ts : List PT} {vt : Vt} (h : Inv n P ts vt) {k : Nat} {N M : Nd} (hk : P.ns[k]? = some N) (hd : door6 M) (hw : M.words.getD 10 0 = N.words.getD 10 0) : Inv n (pSetN P k M) ts vt := by
  have hkl := (List.getElem?_eq_some_iff.1 hk).1
  have e : wd (P.ns.set k M) = wd P.ns := by rw [wd_set hkl, hw, put_same (wd_get hk).symm]
  exact h.nodes (ns' := P.ns.set k M) (by rw [e]; exact h.i0) (by rw [e]; exact Le.refl _ _) (by rw [List.length_set]) (door_set h.door hd)
theorem pFail_inv {n : Nat} {P : PF} {ts : List PT} {vt : Vt} (h : Inv n P ts vt) (k : Nat) : Inv n (pFail P k) ts vt := by
  unfold pFail; split
  · rename_i N hN
    exact h.setN hN (h.door N (List.mem_of_getElem? hN)) rfl
  · exact h
theorem pBack_inv {n : Nat} {P : PF} {ts : List PT} {vt : Vt} (h : Inv n P ts vt) (k : Nat) : Inv n (pBack P k) ts vt := by
  unfold pBack; split
  · rename_i N hN
    obtain ⟨d1, d2⟩ := h.door N (List.mem_of_getElem? hN)
    exact h.setN hN ⟨by rw [ndBack_len]; exact d1, fun c hc => by rw [ndBack_w _ (by omega)]; exact d2 c hc⟩ (ndBack_w 10 (by decide))
  · exact h
theorem pDrop_inv {n : Nat} {P : PF} {ts : List PT} {vt : Vt} (h : Inv n P ts vt) (i : Nat) : Inv n (pDrop P i) ts vt :=
  ⟨h.i0, h.len, h.door, h.cl, h.tl, h.tk, h.fresh, fun p hp => h.os p (List.mem_of_mem_eraseIdx hp)⟩
/-- The clients of the conversations. -/
theorem Inv.clients {n : Nat} {P : PF} {ts : List PT} {vt : Vt} (h : Inv n P ts vt) : ts.map (·.client) = (List.range ts.length).map (fun (i : Nat) => (i : Int)) := by
  apply List.ext_getElem?
  intro i
  rw [List.getElem?_map, List.getElem?_map]
  cases ht : ts[i]? with
  | none => rw [List.getElem?_eq_none (by rw [List.length_range]; exact List.getElem?_eq_none_iff.1 ht)]; rfl
  | some t =>
    rw [List.getElem?_range (List.getElem?_eq_some_iff.1 ht).1]
    simp only [Option.map_some, (h.tk i t ht).1.client]
def cls (k : Nat) : List Int := (List.range k).map (fun (i : Nat) => (i : Int))
theorem cls_get {k : Nat} (hk : 0 < k) (a : Int) : ((cls k).getD (pick a ((cls k).length : Nat)).toNat 0).toNat < k ∧ (cls k).length = k := by
  have hl : (cls k).length = k := by simp [cls]
  have h1 := pick_lo a ((cls k).length : Nat)
  have h2 := pick_hi a ((cls k).length : Nat) (by omega)
  refine ⟨?_, hl⟩
  obtain ⟨x, hx⟩ : ∃ x, x = (pick a ((cls k).length : Nat)).toNat := ⟨_, rfl⟩
  rw [← hx]
  have hxl : x < k := by omega
  rw [List.getD_eq_getElem?_getD, cls, List.getElem?_map, List.getElem?_range hxl]
  simpa using hxl
theorem pHappen_inv {n : Nat} {P : PF} {ts : List PT} {vt : Vt} (h : Inv n P ts vt) (e : Ev) : Inv n (pHappen P (cls ts.length) e) ts vt := by
  unfold pHappen
  split
  · split
    · exact h
    · rename_i hne
      have h0 : 0 < ts.length := by
        rcases Nat.eq_zero_or_pos ts.length with q | q
        · exact absurd (by rw [q]; rfl) hne
        · exact q
      exact pDie_inv h (cls_get h0 e.a).1
  · split
    · exact pFail_inv h _
    · split
      · exact pBack_inv h _
      · exact pDrop_inv h _
theorem pEvents_inv {n : Nat} {ts : List PT} {vt : Vt} (k : Nat) (evs : List Ev) : ∀ P, Inv n P ts vt → Inv n (pEvents (cls ts.length) k P evs) ts vt := by
  induction evs with
  | nil => intro P h; exact h
  | cons e tl ih =>
    intro P h
    rw [pEvents]
    split
    · exact ih _ (pHappen_inv h e)
    · exact ih _ h
theorem pTurns_len (ts : List PT) : ∀ P, (pTurns P ts).2.length = ts.length := by
  induction ts with
  | nil => intro P; rfl
  | cons t tl ih => intro P; simp only [pTurns, List.length_cons, ih]
theorem pLoopE_inv {n : Nat} (n1 : 1 ≤ n) (n5 : n ≤ 5) (sched : List Int) (evs : List Ev) (c : Nat) (k : Nat) : ∀ (q : Nat) (P : PF) (ts : List PT) (vt : Vt), ts.length = c → Inv n P ts vt → ∃ vt', Inv n (pLoopE sched (cls c) evs k q P ts).1 (pLoopE sched (cls c) evs k q P ts).2 vt' ∧ (pLoopE sched (cls c) evs k q P ts).2.length = c := by
  induction k with
  | zero => intro q P ts vt hc h; exact ⟨vt, h, hc⟩
  | succ k ih =>
    intro q P ts vt hc h
    have h1 := pEvents_inv q evs P h
    rw [hc] at h1
    have h2 := pTurns_inv n1 n5 ts [] _ h1
    rw [List.nil_append] at h2
    obtain ⟨vt', h3⟩ := pRunStep_inv h2 sched q
    have hl : (pTurns (pEvents (cls c) q P evs) ts).2.length = c := by rw [pTurns_len, hc]
    rw [pLoopE]
    split
    · exact ih (q + 1) _ _ vt' hl h3
    · exact ⟨vt', h3, hl⟩

/-- Boot numbers, and who is up. -/
theorem pStepPair_node {p : PP} {N : Nd} (h : ∀ v ∈ p.vs, v.kind = 1 ∨ v.kind = 3 ∧ v.at_ = 10) : (pStepPair p N).2.1.words.getD 1 0 = N.words.getD 1 0 ∧ (pStepPair p N).2.1.down = N.down := by
  have he : ∀ v ∈ p.vs, ∀ pa pn, (ndExec N v pa pn).1.words.getD 1 0 = N.words.getD 1 0 ∧ (ndExec N v pa pn).1.down = N.down := fun v hv pa pn => by
    unfold ndExec
    rcases h v hv with k | ⟨k, ka⟩
    · rw [if_pos k]; exact ⟨rfl, rfl⟩
    · rw [if_neg (by omega), if_neg (by omega)]
      simp only
      split
      · refine ⟨?_, rfl⟩
        simp only
        rw [ka, List.getD_eq_getElem?_getD, List.getElem?_set_ne (by decide), ← List.getD_eq_getElem?_getD]
      · exact ⟨rfl, rfl⟩
  unfold pStepPair
  split
  · exact ⟨rfl, rfl⟩
  · rename_i v tl hvs
    have hv := he v (by rw [hvs]; exact List.mem_cons_self)
    split
    · exact ⟨rfl, rfl⟩
    · split
      · exact ⟨rfl, rfl⟩
      · split
        · exact hv _ _
        · exact hv _ _
/-- The nodes have kept what is not a consensus word. -/
def Kept (ns ns' : List Nd) : Prop := ns'.length = ns.length ∧ ∀ (i : Nat) N', ns'[i]? = some N' → ∃ N, ns[i]? = some N ∧ N'.words.getD 1 0 = N.words.getD 1 0 ∧ N'.down = N.down
theorem Kept.refl (ns : List Nd) : Kept ns ns := ⟨rfl, fun i N h => ⟨N, h, rfl, rfl⟩⟩
theorem Kept.trans {a b c : List Nd} (h : Kept a b) (h2 : Kept b c) : Kept a c := ⟨h2.1.trans h.1, fun i N' q => by
  obtain ⟨N, g1, g2, g3⟩ := h2.2 i N' q
  obtain ⟨M, g4, g5, g6⟩ := h.2 i N g1
  exact ⟨M, g4, g2.trans g5, g3.trans g6⟩⟩
theorem Kept.set {ns : List Nd} {m : Nat} {N M : Nd} (hN : ns[m]? = some N) (h : M.words.getD 1 0 = N.words.getD 1 0 ∧ M.down = N.down) : Kept ns (ns.set m M) := ⟨by rw [List.length_set], fun i N' q => by
  by_cases e : m = i
  · subst e
    rw [List.getElem?_set_self (List.getElem?_eq_some_iff.1 hN).1] at q
    cases q
    exact ⟨N, hN, h⟩
  · rw [List.getElem?_set_ne e] at q
    exact ⟨N', q, rfl, rfl⟩⟩
theorem vok_kind {n : Nat} {pv : Pv} {v : Vb} (h : VOK1 n pv v) : v.kind = 1 ∨ v.kind = 3 ∧ v.at_ = 10 := by
  rcases h.sv.kind with ⟨k, _⟩ | k
  · exact .inl k
  · exact .inr ⟨k, h.at_⟩
theorem Inv.lane_vs {n : Nat} {P : PF} {ts : List PT} {vt : Vt} (h : Inv n P ts vt) {i m : Nat} {C : PC} {l : PL} (hC : P.cs[i]? = some C) (hl : C.ls[m]? = some l) : ∀ v ∈ l.p.vs, VOK1 n (pvT ts) v := by
  by_cases e : i < ts.length
  · obtain ⟨t, ht⟩ : ∃ t, ts[i]? = some t := ⟨ts[i], by simp [e]⟩
    obtain ⟨hti, C', hC', hct⟩ := h.tk i t ht
    rw [hC] at hC'
    cases hC'
    cases ha : C.alive with
    | false => rw [hct.dead ha] at hl; simp at hl
    | true =>
      obtain ⟨hinc, O, hlive, _⟩ := hct.live ha
      have hlo := hlive.lanes m l hl
      intro v hv
      obtain ⟨q, hq⟩ := List.getElem?_of_mem hv
      obtain ⟨k, hk⟩ : ∃ k, l.ps[q]? = some k := ⟨l.ps[q]'(by have := hlo.len; have := (List.getElem?_eq_some_iff.1 hq).1; omega), by simp⟩
      exact hlive.ok v (List.mem_of_getElem? (hlo.at_ q v k hq hk).2.1)
  · have := h.fresh i C (by omega) hC
    rw [this] at hl
    have h2 := freshLs_quiet (n := n) (c := (i : Int)) (inc := 1) l (List.mem_of_getElem? hl)
    intro v hv
    rw [h2] at hv; cases hv
theorem pStep_kept {n : Nat} {P : PF} {ts : List PT} {vt : Vt} (h : Inv n P ts vt) (c : Ch) : Kept P.ns (pStep P c).ns := by
  unfold pStep
  split
  · unfold pStepOrphan
    split
    · rename_i p hp
      split
      · rename_i N hN
        have hk := pStepPair_node (N := N) (fun v hv => vok_kind ((h.os p (List.mem_of_getElem? hp)).vs v hv).1)
        split <;> exact Kept.set hN hk
      · exact Kept.refl _
    · exact Kept.refl _
  · unfold pStepLive
    split
    · rename_i C N hC hN
      split
      · rename_i l hl
        have hk := pStepPair_node (N := N) (fun v hv => vok_kind (h.lane_vs hC hl v hv))
        split
        · rename_i p' N' e
          rw [e] at hk
          exact Kept.set hN hk
        · rename_i p' N' d e
          rw [e] at hk
          exact Kept.set hN hk
      · exact Kept.refl _
    · exact Kept.refl _
theorem pTurn_ns (P : PF) (t : PT) : (pTurn P t).1.ns = P.ns := by
  have h1 : ∀ C, (pTaken P t.client.toNat C).ns = P.ns := fun C => by
    unfold pTaken pTake
    split
    · rfl
    · split <;> rfl
  have h2 : ∀ (P' : PF) c vs, (pPost P' c vs).ns = P'.ns := fun P' c vs => by
    unfold pPost; split <;> rfl
  unfold pTurn
  split
  · rfl
  · split
    · rfl
    · split
      · exact h1 _
      · split
        · exact h1 _
        · simp only; rw [h2, h1]
theorem pTurns_ns (ts : List PT) : ∀ P, (pTurns P ts).1.ns = P.ns := by
  induction ts with
  | nil => intro P; rfl
  | cons t tl ih => intro P; simp only [pTurns]; rw [ih, pTurn_ns]
theorem Boots.kept {b : Int} {P P' : PF} (h : Boots b 0 P) (hk : Kept P.ns P'.ns) : Boots b 0 P' := fun i N' hN' => by
  obtain ⟨N, g1, g2, g3⟩ := hk.2 i N' hN'
  obtain ⟨h1, h2, h3⟩ := h i N g1
  exact ⟨by rw [g2]; exact h1, by rw [g2]; exact h2, fun e => absurd e (Nat.not_lt_zero _)⟩
theorem pBack_boots1 {b : Int} {P : PF} (hd : ∀ N ∈ P.ns, door6 N) (h : Boots b 0 P) (k : Nat) : Boots (b + 1) 0 (pBack P k) := by
  intro i N hN
  unfold pBack at hN
  cases hk : P.ns[k]? with
  | none =>
    rw [hk] at hN
    simp only at hN
    obtain ⟨h1, h2, h3⟩ := h i N hN
    rw [if_neg (Nat.not_lt_zero _)] at h2 ⊢
    exact ⟨h1, by omega, fun e => absurd e (Nat.not_lt_zero _)⟩
  | some M =>
    rw [hk] at hN
    simp only [pSetN] at hN
    have hkl := (List.getElem?_eq_some_iff.1 hk).1
    rw [if_neg (Nat.not_lt_zero _)]
    by_cases e : k = i
    · subst e
      rw [List.getElem?_set_self hkl] at hN
      cases hN
      obtain ⟨h1, h2, h3⟩ := h k M hk
      rw [if_neg (Nat.not_lt_zero _)] at h2
      have hlen := (hd M (List.mem_of_getElem? hk)).1
      unfold ndBack
      split
      · have e1 : (M.words.set 1 (M.words.getD 1 0 + 1)).getD 1 0 = M.words.getD 1 0 + 1 := by
          rw [List.getD_eq_getElem?_getD (l := M.words.set _ _), List.getElem?_set_self (by omega)]; rfl
        simp only [e1]
        exact ⟨by omega, by omega, fun e => absurd e (Nat.not_lt_zero _)⟩
      · exact ⟨h1, by omega, fun e => absurd e (Nat.not_lt_zero _)⟩
    · rw [List.getElem?_set_ne e] at hN
      obtain ⟨h1, h2, h3⟩ := h i N hN
      rw [if_neg (Nat.not_lt_zero _)] at h2
      exact ⟨h1, by omega, fun e => absurd e (Nat.not_lt_zero _)⟩
theorem Boots.up {b b' : Int} {P : PF} (h : Boots b 0 P) (hb : b ≤ b') : Boots b' 0 P := fun i N hN => by
  obtain ⟨h1, h2, h3⟩ := h i N hN
  rw [if_neg (Nat.not_lt_zero _)] at h2 ⊢
  exact ⟨h1, by omega, h3⟩
theorem pDie_ns (P : PF) (c : Nat) : (pDie P c).ns = P.ns := by
  unfold pDie; split
  · split <;> rfl
  · rfl
theorem pHappen_boots {b : Int} {P : PF} (hd : ∀ N ∈ P.ns, door6 N) (h : Boots b 0 P) (cl : List Int) (e : Ev) : Boots (b + 1) 0 (pHappen P cl e) := by
  unfold pHappen
  split
  · split
    · exact h.up (by omega)
    · refine Boots.up (b := b) ?_ (by omega)
      intro i N hN
      rw [pDie_ns] at hN
      exact h i N hN
  · split
    · exact (pFail_boots h _).up (by omega)
    · split
      · exact pBack_boots1 hd h _
      · exact Boots.up (b := b) (fun i N hN => h i N hN) (by omega)
/-- How many events have happened before step k. -/
def fired (evs : List Ev) (k : Nat) : Nat := evs.countP (fun e => decide (pick e.at_ 60 < (k : Int)))
theorem fired_le (evs : List Ev) (k : Nat) : fired evs k ≤ evs.length := List.countP_le_length
theorem pEvents_boots {n : Nat} {ts : List PT} {vt : Vt} (k : Nat) (evs : List Ev) : ∀ (P : PF) (b : Int), Inv n P ts vt → Boots b 0 P → Boots (b + (evs.countP (fun e => decide (pick e.at_ 60 = (k : Int))) : Nat)) 0 (pEvents (cls ts.length) k P evs) := by
  induction evs with
  | nil => intro P b h hb; simpa [pEvents] using hb
  | cons e tl ih =>
    intro P b h hb
    rw [pEvents]
    by_cases q : pick e.at_ 60 = (k : Int)
    · rw [if_pos q, List.countP_cons_of_pos (by simpa using q)]
      have := ih _ (b + 1) (pHappen_inv h e) (pHappen_boots h.door hb _ e)
      exact this.up (by omega)
    · rw [if_neg q, List.countP_cons_of_neg (by simpa using q)]
      exact ih _ b h hb
theorem fired_next (evs : List Ev) (k : Nat) : fired evs k + evs.countP (fun e => decide (pick e.at_ 60 = (k : Int))) = fired evs (k + 1) := by
  unfold fired
  induction evs with
  | nil => rfl
  | cons e tl ih =>
    simp only [List.countP_cons, decide_eq_true_eq]
    have h1 : ((k + 1 : Nat) : Int) = (k : Int) + 1 := by omega
    rw [h1] at ih ⊢
    by_cases a : pick e.at_ 60 < (k : Int)
    · rw [if_pos a, if_neg (by omega), if_pos (by omega)]; omega
    · by_cases b : pick e.at_ 60 = (k : Int)
      · rw [if_neg a, if_pos b, if_pos (by omega)]; omega
      · rw [if_neg a, if_neg b, if_neg (by omega)]; omega
theorem pLoopE_boots {n : Nat} (n1 : 1 ≤ n) (n5 : n ≤ 5) (sched : List Int) (evs : List Ev) (c : Nat) (k : Nat) : ∀ (q : Nat) (P : PF) (ts : List PT) (vt : Vt), ts.length = c → Inv n P ts vt → Boots (1 + (fired evs q : Nat)) 0 P → Boots (1 + (evs.length : Nat)) 0 (pLoopE sched (cls c) evs k q P ts).1 := by
  induction k with
  | zero => intro q P ts vt hc h hb; exact hb.up (by have := fired_le evs q; omega)
  | succ k ih =>
    intro q P ts vt hc h hb
    have h1 := pEvents_inv q evs P h
    have b1 := pEvents_boots q evs P _ h hb
    rw [hc] at h1 b1
    have h2 := pTurns_inv n1 n5 ts [] _ h1
    rw [List.nil_append] at h2
    have b2 : Boots (1 + (fired evs (q + 1) : Nat)) 0 (pTurns (pEvents (cls c) q P evs) ts).1 := by
      have := fired_next evs q
      intro i N hN
      rw [pTurns_ns] at hN
      exact b1.up (by omega) i N hN
    obtain ⟨vt', h3⟩ := pRunStep_inv h2 sched q
    have b3 : Boots (1 + (fired evs (q + 1) : Nat)) 0 (pRunStep (pTurns (pEvents (cls c) q P evs) ts).1 sched q).1 := by
      unfold pRunStep
      split
      · exact b2
      · exact b2.kept (pStep_kept h2 _)
    have hl : (pTurns (pEvents (cls c) q P evs) ts).2.length = c := by rw [pTurns_len, hc]
    rw [pLoopE]
    split
    · exact ih (q + 1) _ _ vt' hl h3 b3
    · exact b3.up (by have := fired_le evs (q + 1); omega)

/-- The drive with events. -/
theorem pDriveE_inv {n : Nat} (n1 : 1 ≤ n) (n5 : n ≤ 5) (sched : List Int) (evs : List Ev) (most : Nat) {P : PF} {ts : List PT} {vt : Vt} (h : Inv n P ts vt) (hb : Boots 1 0 P) :
    ∃ vt', Inv n (pDriveE P ts sched evs most).1 (pDriveE P ts sched evs most).2 vt' ∧ Boots (1 + (evs.length : Nat)) 0 (pDriveE P ts sched evs most).1 := by
  have hc := h.clients
  obtain ⟨vt', h1, h2⟩ := pLoopE_inv n1 n5 sched evs ts.length most 0 P ts vt rfl h
  have h3 := pLoopE_boots n1 n5 sched evs ts.length most 0 P ts vt rfl h (hb.up (by omega))
  unfold pDriveE
  rw [show ts.map (·.client) = cls ts.length from hc]
  have h4 := pTurns_inv n1 n5 _ [] _ h1
  rw [List.nil_append] at h4
  refine ⟨vt', h4, fun i N hN => ?_⟩
  rw [pTurns_ns] at hN
  exact h3 i N hN
end Go.Proofs.YtaojipegpjolcaaGreat
set_option linter.unusedVariables false
set_option linter.unusedSimpArgs false
namespace Go.Proofs.YtaojipegpjolcaaGreat
open Go.RowKit

def agJ (n : Nat) (i : Nat) (r : Int) : PJ := ⟨n, 2, i, r, 100 + (i : Int)⟩
def agT (n : Nat) (i : Nat) (r : Int) : PT := ⟨2, i, agJ n i r, [], false, false, 0, 0⟩
def props (n : Nat) (raw : List Int) : List PT := (List.range (min raw.length 4)).map (fun (i : Nat) => agT n i (pick (raw.getD i 0) 4 + 1))
theorem props_get {n : Nat} {raw : List Int} {i : Nat} {t : PT} (h : (props n raw)[i]? = some t) : i < 4 ∧ t = agT n i (pick (raw.getD i 0) 4 + 1) := by
  unfold props at h
  rw [List.getElem?_map] at h
  have hi : i < min raw.length 4 := by
    by_cases e : i < min raw.length 4
    · exact e
    · rw [List.getElem?_eq_none (by rw [List.length_range]; omega)] at h; simp at h
  rw [List.getElem?_range hi] at h
  simp only [Option.map_some, Option.some.injEq] at h
  exact ⟨by omega, h.symm⟩
theorem props_pv (n : Nat) (raw : List Int) (b v : Int) : ¬ pvT (props n raw) b v := by
  rintro ⟨t, ht, _, r0, r1, e, _⟩
  obtain ⟨i, hi⟩ := List.getElem?_of_mem ht
  rw [(props_get hi).2] at e
  simp [agT] at e
theorem start_SP {n : Nat} (n1 : 1 ≤ n) (n5 : n ≤ 5) : SP n 0 false 0 (pFresh n 6 98) ∧ Boots 1 0 (pFresh n 6 98) := by
  obtain ⟨f1, f2, f3, f4⟩ := fresh_facts n1 n5
  refine ⟨⟨by simp [pFresh], fun N hN => ?_, by simp [pFresh], fun c hc => ?_, rfl, ?_⟩, fun i N hN => ?_⟩
  · simp only [pFresh] at hN
    rw [List.eq_of_mem_replicate hN]
    exact ⟨f1, fun c hc => Int.le_of_eq (f3 c hc)⟩
  · refine ⟨0, 0, ?_, by decide, by decide⟩
    simp only [pFresh, List.getElem?_map, List.getElem?_range hc, Option.map_some]
    rfl
  · have hw : ∀ x ∈ (pFresh n 6 98).ns.map w11, x = 0 := fun x hx => by
      obtain ⟨N, hN, rfl⟩ := List.mem_map.1 hx
      simp only [pFresh] at hN
      rw [List.eq_of_mem_replicate hN]
      exact f2 11 (by decide) (by decide)
    exact ⟨fun x hx => by rw [hw x hx]; decide, fun _ x hx => by rw [hw x hx]; decide, fun e => (by cases e), fun e => (by cases e), fun e => (by cases e)⟩
  · have hm := List.mem_of_getElem? hN
    simp only [pFresh] at hm
    rw [List.eq_of_mem_replicate hm]
    have e : (fmtNd n 98).words.getD 1 0 = 1 := f4
    rw [e, if_neg (Nat.not_lt_zero _)]
    exact ⟨by decide, by decide, fun q => by omega⟩
theorem start_inv {n : Nat} (n1 : 1 ≤ n) (n5 : n ≤ 5) (raw : List Int) : Inv n (pFresh n 6 98) (props n raw) (fun _ _ _ => False) := by
  obtain ⟨s1, s2⟩ := start_SP n1 n5
  obtain ⟨f1, f2, f3, f4⟩ := fresh_facts n1 n5
  have hw : ∀ m, m < n → wd (pFresh n 6 98).ns m = 0 := fun m hm => by
    have : (pFresh n 6 98).ns[m]? = some (fmtNd n 98) := by simp [pFresh, hm]
    rw [wd_get this]
    exact f2 10 (by decide) (by decide)
  refine ⟨⟨fun m b v e => e.elim, fun m hm e => ?_, fun m hm => ?_, fun b v v' e => absurd e (props_pv n raw b v), fun b v e => absurd e (props_pv n raw b v), fun b v e => absurd e (props_pv n raw b v)⟩, s1.len, s1.door, s1.cl, by simp [props]; omega, fun i t ht => ?_, fun i C hi hC => ?_, fun p hp => by cases hp⟩
  · rw [hw m hm] at e; exact absurd rfl e
  · rw [hw m hm]; exact ⟨by decide, by decide, by decide⟩
  · obtain ⟨i4, rfl⟩ := props_get ht
    have r1 := pick_lo (raw.getD i 0) 4
    have r2 := pick_hi (raw.getD i 0) 4 (by decide)
    refine ⟨⟨rfl, rfl, rfl, rfl, ⟨by simp only [agT, agJ]; omega, by simp only [agT, agJ]; omega⟩, rfl, rfl, fun k r e => by simp [agT] at e, fun e => by simp [agT] at e⟩, freshPC n i, ?_, ⟨fun _ => ⟨rfl, [], ⟨by simp [freshPC], fun m l hl => ?_, rfl, fun k v d e => (by simp at e), fun v hv => (by cases hv), ?_⟩, fun _ => .inl ⟨rfl, rfl⟩⟩, fun e => by simp [freshPC] at e⟩⟩
    · simp only [pFresh, List.getElem?_map, List.getElem?_range (show i < 6 by omega), Option.map_some]
    · have hm : m < n := by have := (List.getElem?_eq_some_iff.1 hl).1; simpa [freshPC] using this
      have := freshLs_get n (i : Int) 1 m hm
      have hl2 : (freshLs n (i : Int) 1)[m]? = some l := hl
      rw [this] at hl2
      cases hl2
      exact ⟨⟨rfl, rfl, rfl, rfl⟩, rfl, rfl, fun q v k e => by simp [freshPP] at e⟩
    · have : ((freshPC n i).ls.map (fun l => l.ps.length)).sum = 0 := by
        have h0 : (freshPC n i).ls.map (fun l => l.ps.length) = (List.range n).map (fun _ => 0) := by
          simp only [freshPC, List.map_map]; rfl
        rw [h0, sum_zeros]
      rw [this]; rfl
  · have hil := (List.getElem?_eq_some_iff.1 hC).1
    simp only [pFresh, List.getElem?_map] at hC
    have h6 : i < 6 := by simpa [pFresh] using hil
    rw [List.getElem?_range h6] at hC
    simp only [Option.map_some, Option.some.injEq] at hC
    exact hC.symm

/-- What has been decided. -/
def decd (t : PT) : Prop := t.over = true ∧ t.code = 0
structure Ag (ts : List PT) : Prop where
  bad : ∀ t ∈ ts, t.bad = false
  eq : ∀ t ∈ ts, ∀ t' ∈ ts, decd t → decd t' → t.value = t'.value
  rng : ∀ t ∈ ts, decd t → 100 ≤ t.value ∧ t.value < 104
theorem Inv.ag {n : Nat} {P : PF} {ts : List PT} {vt : Vt} (h : Inv n P ts vt) : Ag ts := by
  have hk : ∀ t ∈ ts, ∃ i, TI n (wd P.ns) vt (pvT ts) i t := fun t ht => by
    obtain ⟨i, hi⟩ := List.getElem?_of_mem ht
    exact ⟨i, (h.tk i t hi).1⟩
  refine ⟨fun t ht => ?_, fun t ht t' ht' hd hd' => ?_, fun t ht hd => ?_⟩
  · obtain ⟨i, hi⟩ := hk t ht; exact hi.bad
  · obtain ⟨i, hi⟩ := hk t ht
    obtain ⟨i', hi'⟩ := hk t' ht'
    obtain ⟨p, c⟩ := hi.dec hd.1 hd.2
    obtain ⟨p', c'⟩ := hi'.dec hd'.1 hd'.2
    exact agree h.i0 c p c' p'
  · obtain ⟨i, hi⟩ := hk t ht
    exact h.i0.vals _ _ (hi.dec hd.1 hd.2).1

/-- What is still to be executed. -/
def pend1 (C : PC) : Nat := (C.ls.map (fun l => l.p.vs.length)).sum
def pendP (P : PF) : Nat := (P.cs.map pend1).sum + (P.os.map (fun p => p.vs.length + 1)).sum
theorem sumErase {α : Type} (f : α → Nat) (xs : List α) : ∀ (m : Nat) (a : α), xs[m]? = some a → ((xs.eraseIdx m).map f).sum + f a = (xs.map f).sum := by
  induction xs with
  | nil => intro m a h; simp at h
  | cons x tl ih =>
    intro m a h
    cases m with
    | zero =>
      simp only [List.getElem?_cons_zero, Option.some.injEq] at h
      subst h
      simp only [List.eraseIdx_cons_zero, List.map_cons, List.sum_cons]; omega
    | succ m =>
      rw [List.getElem?_cons_succ] at h
      have := ih m a h
      simp only [List.eraseIdx_cons_succ, List.map_cons, List.sum_cons]; omega
theorem pStep_pend {n : Nat} {P : PF} {ts : List PT} {vt : Vt} (h : Inv n P ts vt) {c : Ch} (hc : c ∈ pChoices P) : pendP (pStep P c) < pendP P := by
  unfold pChoices at hc
  rcases List.mem_append.1 hc with hc | hc
  · obtain ⟨i, C, m, l, hC, hl, hvs, rfl⟩ := chCs_mem hc
    obtain ⟨v, tl, hv⟩ : ∃ v tl, l.p.vs = v :: tl := by
      cases e : l.p.vs with
      | nil => rw [e] at hvs; simp at hvs
      | cons v tl => exact ⟨v, tl, rfl⟩
    have hst : pStep P (-1, ((0 + i : Nat) : Int), (m : Int)) = pStepLive P i m := by
      unfold pStep; rw [if_neg (by simp), Nat.zero_add]; rfl
    rw [hst]
    have hit : i < ts.length := by
      by_cases e : i < ts.length
      · exact e
      · exfalso
        have := h.fresh i C (by omega) hC
        rw [this] at hl
        have h2 := freshLs_quiet (n := n) (c := (i : Int)) (inc := 1) l (List.mem_of_getElem? hl)
        rw [hv] at h2
        cases h2
    obtain ⟨t, ht⟩ : ∃ t, ts[i]? = some t := ⟨ts[i], by simp [hit]⟩
    obtain ⟨hti, C', hC', hct⟩ := h.tk i t ht
    rw [hC] at hC'
    cases hC'
    have ha : C.alive = true := by
      cases e : C.alive with
      | true => rfl
      | false => rw [hct.dead e] at hl; simp at hl
    obtain ⟨hinc, O, hlive, hover⟩ := hct.live ha
    have hlo := hlive.lanes m l hl
    have hmn : m < n := by have := (List.getElem?_eq_some_iff.1 hl).1; rw [hlive.ls] at this; exact this
    obtain ⟨N, hN⟩ : ∃ N, P.ns[m]? = some N := ⟨P.ns[m]'(by rw [h.len]; exact hmn), by simp⟩
    have hvok := h.lane_vs hC hl v (by rw [hv]; exact List.mem_cons_self)
    have hsp := step_simple hv hlo.pr.ex hlo.pr.ws hvok.sv (door_nd (show i < 6 by have := h.tl; omega) hlo.pr (h.door N (List.mem_of_getElem? hN)))
    unfold pStepLive
    rw [hC, hN]
    simp only
    rw [hl]
    simp only
    rw [hsp]
    simp only
    have e1 := sumSet (fun l : PL => l.p.vs.length) C.ls m l ⟨pDone l.p, l.ps.tail⟩ hl
    have e2 := sumSet pend1 P.cs i C { C with ls := C.ls.set m ⟨pDone l.p, l.ps.tail⟩, ds := C.ds.set (l.ps.headD 0).toNat (nodeDo N v).2, waiting := C.waiting - 1 } hC
    simp only [pDone, hv, List.tail_cons, List.length_cons] at e1
    unfold pendP
    simp only [pend1] at e2 ⊢
    simp only [pDone, hv, List.tail_cons] at e2 ⊢
    omega
  · obtain ⟨i, p, hp, rfl⟩ := chO_mem hc
    have hst : pStep P (((0 + i : Nat) : Int), p.cl, p.nd) = pStepOrphan P i := by
      unfold pStep; rw [if_pos (by simp), Nat.zero_add]; rfl
    rw [hst]
    have hpo := h.os p (List.mem_of_getElem? hp)
    obtain ⟨c, hc, hpr⟩ := hpo.pr
    have e3 := sumErase (fun p : PP => p.vs.length + 1) P.os i p hp
    unfold pStepOrphan
    rw [hp]
    simp only
    cases hN : P.ns[p.nd.toNat]? with
    | none =>
      exfalso
      cases hvs : p.vs with
      | nil => exact hpo.ne hvs
      | cons v tl =>
        obtain ⟨hvok, hvn⟩ := hpo.vs v (by rw [hvs]; exact List.mem_cons_self)
        have h1 := hvok.sv.nd1
        rw [hvn, ← h.len] at h1
        rw [List.getElem?_eq_getElem h1] at hN
        cases hN
    | some N =>
      simp only
      cases hvs : p.vs with
      | nil =>
        have e : pStepPair p N = (p, N, none) := by unfold pStepPair; rw [hvs]
        rw [e, hvs]
        simp only [List.isEmpty_nil, if_true]
        unfold pendP
        simp only at e3 ⊢
        omega
      | cons v tl =>
        obtain ⟨hvok, hvn⟩ := hpo.vs v (by rw [hvs]; exact List.mem_cons_self)
        have hsp := step_simple hvs hpr.ex hpr.ws hvok.sv (door_nd hc hpr (h.door N (List.mem_of_getElem? hN)))
        rw [hsp]
        simp only
        split
        · unfold pendP
          simp only at e3 ⊢
          omega
        · have e4 := sumSet (fun p : PP => p.vs.length + 1) P.os i p (pDone p) hp
          unfold pendP
          simp only [pDone, hvs, List.tail_cons, List.length_cons] at e4 ⊢
          omega
/-- Nothing pending: the fabric is still. -/
theorem still_of {n : Nat} {P : PF} {ts : List PT} {vt : Vt} (h : Inv n P ts vt) (hc : pChoices P = []) (c : Nat) (h6 : c < 6) : Still P c := by
  unfold pChoices at hc
  rw [List.append_eq_nil_iff] at hc
  obtain ⟨h1, h2⟩ := hc
  have hos : P.os = [] := by
    cases e : P.os with
    | nil => rfl
    | cons p tl => rw [e] at h2; simp [chO] at h2
  have hq : ∀ (cs : List PC) (i : Nat), chCs i cs = [] → ∀ C ∈ cs, QuietC C := by
    intro cs
    induction cs with
    | nil => intro i _ C hC; cases hC
    | cons D tl ih =>
      intro i hn C hC
      rw [chCs, List.append_eq_nil_iff] at hn
      rcases List.mem_cons.1 hC with rfl | hC
      · have hl : ∀ (ls : List PL) (j : Nat), chL i j ls = [] → ∀ l ∈ ls, l.p.vs = [] := by
          intro ls
          induction ls with
          | nil => intro j _ l hl; cases hl
          | cons x tl ih2 =>
            intro j hn l hl
            rw [chL, List.append_eq_nil_iff] at hn
            rcases List.mem_cons.1 hl with rfl | hl
            · cases e : l.p.vs with
              | nil => rfl
              | cons a b => rw [e] at hn; simp at hn
            · exact ih2 _ hn.2 l hl
        exact hl _ 0 hn.1
      · exact ih _ hn.2 C hC
  exact ⟨by rw [h.cl]; exact h6, hos, fun i C _ hC => hq P.cs 0 h1 C (List.mem_of_getElem? hC)⟩

def finJ (n : Nat) : PJ := ⟨n, 2, 5, 9, 999⟩
def finT (n : Nat) : PT := ⟨2, 5, finJ n, [], false, false, 0, 0⟩
theorem finJ_valid {n : Nat} (n1 : 1 ≤ n) (n5 : n ≤ 5) : pValid (finJ n) = 0 := by
  unfold pValid finJ
  simp only
  rw [if_neg (by omega), if_neg (by omega)]
  rw [if_neg (by decide), if_neg (by decide)]
theorem fin_pure {n : Nat} (n1 : 1 ≤ n) (n5 : n ≤ 5) {P : PF} {ts : List PT} {vt : Vt} (h : Inv n P ts vt) (hup : ∀ N ∈ P.ns, N.down = false) (hc : pChoices P = []) :
    ∃ P' t', pDrive P [finT n] [] 20000 = (P', [t']) ∧ t'.over = true ∧ t'.bad = false ∧ t'.code = 0 ∧ ∀ t ∈ ts, decd t → t'.value = t.value := by
  have hstill := still_of h hc 5 (by decide)
  have hlen := h.len
  obtain ⟨C5, hC5⟩ : ∃ C, P.cs[5]? = some C := ⟨P.cs[5]'(by rw [h.cl]; decide), by simp⟩
  have hC := h.fresh 5 C5 (by have := h.tl; omega) hC5
  rw [hC] at hC5
  have hv := finJ_valid n1 n5
  have hsole : Sole (finJ n) P.ns := ⟨hv, by rw [hlen]; rfl, fun N hN => by have := (h.door N hN).1; omega⟩
  have hmaj : pMaj (finJ n).nodes = (n : Int) / 2 + 1 := by unfold pMaj finJ; simp only; rw [if_neg (by omega)]
  have hw : ∀ N, cWord (finJ n) N = N.words.getD 10 0 := fun N => rfl
  have hcnt : ∀ N ∈ P.ns, isUp N = true ∧ isCand (finJ n) N = true := fun N hN => by
    obtain ⟨m, hm⟩ := List.getElem?_of_mem hN
    have hwf := h.i0.wf m (by have := (List.getElem?_eq_some_iff.1 hm).1; omega)
    rw [wd_get hm] at hwf
    have h40 := hwf.c
    unfold prOf at h40
    refine ⟨by simp [isUp, hup N hN], ?_⟩
    simp only [isCand, hup N hN, Bool.not_false, Bool.true_and, decide_eq_true_eq, hw]
    have : bal (finJ n) = 78 := by rfl
    omega
  have hu : (upA (finJ n) 0 P.ns).length = n := by
    rw [(upA_count (finJ n) P.ns 0).1, List.countP_eq_length.2 (fun N hN => (hcnt N hN).1), hlen]
  have hcl : (soleC (finJ n) P.ns).length = n := by
    rw [show (soleC (finJ n) P.ns).length = P.ns.countP (isCand (finJ n)) from (upA_count (finJ n) P.ns 0).2, List.countP_eq_length.2 (fun N hN => (hcnt N hN).2), hlen]
  obtain ⟨q1, q2, hr, hn⟩ := sole_decides hsole (by rw [hu, hmaj]; omega) (by rw [hcl, hmaj]; omega)
  have drive := alone_drive (inc := 1) hstill (finJ n) (by simp [finJ]) (by simp [finJ]) (by rw [hlen]; rfl) (by omega) 3 (by decide) 0 0 (by rw [hC5, hlen]; rfl) (finT n) (fun N hN => by
    obtain ⟨d1, d2⟩ := h.door N hN
    exact ⟨by omega, d2 5 (by decide)⟩) rfl rfl rfl rfl (by decide) (by decide) (by rw [hr, hn])
  rw [hr] at drive
  obtain ⟨⟨po, h3⟩, _⟩ := drive
  refine ⟨_, _, h3, rfl, rfl, by simp only [hn], fun t ht hd => ?_⟩
  simp only [hn]
  obtain ⟨i, hi⟩ := List.getElem?_of_mem ht
  obtain ⟨hp, hch⟩ := (h.tk i t hi).1.dec hd.1 hd.2
  -- who has voted
  have hS : ∀ a ∈ soleS (finJ n) P.ns, ∃ m, m < n ∧ accOf a.2 = accOf (wd P.ns m) ∧ valOf a.2 = valOf (wd P.ns m) := fun a ha => by
    obtain ⟨a0, ha0, rfl⟩ := List.mem_map.1 ha
    obtain ⟨k, M, e1, e2, e3⟩ := upA_mem (finJ n) P.ns 0 a0 (List.mem_filter.1 ha0).1
    have hk : k < n := by have := (List.getElem?_eq_some_iff.1 e1).1; omega
    have hwf := h.i0.wf k hk
    have e4 : a0.2 = wd P.ns k := by rw [e3, wd_get e1]; exact hw M
    obtain ⟨p1, p2⟩ := accOf_promise (b := bal (finJ n)) (x := a0.2) (by rw [e4]; exact hwf.a)
    exact ⟨k, hk, by simp only; rw [p1, e4], by simp only; rw [p2, e4]⟩
  have hall : ∀ m, m < n → ∃ a ∈ soleS (finJ n) P.ns, accOf a.2 = accOf (wd P.ns m) := fun m hm => by
    obtain ⟨N, hN⟩ : ∃ N, P.ns[m]? = some N := ⟨P.ns[m]'(by rw [hlen]; exact hm), by simp⟩
    obtain ⟨a, ha, hak⟩ := (soleC_iff (j := finJ n) hN).2 (hcnt N (List.mem_of_getElem? hN)).2
    refine ⟨_, List.mem_map.2 ⟨a, ha, rfl⟩, ?_⟩
    obtain ⟨k, M, e1, e2, e3⟩ := upA_mem (finJ n) P.ns 0 a (List.mem_filter.1 ha).1
    have hkm : k = m := by rw [e3] at hak; simp only at hak; omega
    subst hkm
    have hwf := h.i0.wf k hm
    have e4 : a.2 = wd P.ns k := by rw [e3, wd_get e1]; exact hw M
    rw [(accOf_promise (b := bal (finJ n)) (x := a.2) (by rw [e4]; exact hwf.a)).1, e4]
  obtain ⟨qq, c1, c2⟩ := hch
  obtain ⟨m, hm, hmq⟩ : ∃ m ∈ List.range n, qq m = true := by
    by_cases e : ∃ m ∈ List.range n, qq m = true
    · exact e
    · exfalso
      have : (List.range n).countP qq = 0 := List.countP_eq_zero.2 (fun m hm hq => e ⟨m, hm, hq⟩)
      omega
  obtain ⟨v1, v2, v3, v4⟩ := h.i0.n1 m _ _ (c2 m hmq)
  obtain ⟨am, ham, ham2⟩ := hall m v1
  have hval : soleV (finJ n) P.ns = t.value := by
    unfold soleV
    rcases pVal_max (finJ n).value (soleS (finJ n) P.ns) with ⟨h0, _⟩ | ⟨a, ha, x1, x2, x3⟩
    · exfalso
      have := h0 am ham
      omega
    · rw [x3]
      obtain ⟨k, hk, y1, y2⟩ := hS a ha
      have hge := x2 am ham
      have hvk := h.i0.n2 k hk (by rw [← y1]; exact x1)
      have hpk := (h.i0.n1 _ _ _ hvk).2.2.2
      rw [y2]
      rcases Int.lt_or_eq_of_le (show bal t.job ≤ accOf (wd P.ns k) by omega) with e | e
      · exact (chosen_safe (h.i0.safe _ _ hpk) ⟨qq, c1, c2⟩ e).symm
      · rw [← e] at hpk
        exact h.i0.fn _ _ _ hpk hp
  exact hval
end Go.Proofs.YtaojipegpjolcaaGreat
