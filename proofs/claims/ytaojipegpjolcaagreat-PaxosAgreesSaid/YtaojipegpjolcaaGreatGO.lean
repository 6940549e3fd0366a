/- PaxosStays without memory: what the nodes hold between two proposers. A slice of numbers among the arguments of a law. -/
import Derived.Test.YtaojipegpjolcaaGreatGN
import Derived.ProofKit
import Derived.OpenShut
import Derived.ChangeSlices
import Derived.Lib.SmallJoins
import Derived.WalkKit
import Derived.ChangeOld
import Derived.Below
set_option linter.unusedVariables false
set_option linter.unusedSimpArgs false
namespace Go.Proofs.YtaojipegpjolcaaGreat
open Go.RowKit

/-- The ballot that a word has accepted, and its value. -/
def accOf (w : Int) : Int := w / 1099511627776 % 4096
def valOf (w : Int) : Int := w % 1099511627776
theorem accOf_accept {b v : Int} (hb0 : 0 ≤ b) (hb : b < 4096) (hv0 : 0 ≤ v) (hv : v < 1099511627776) (x : Int) : accOf (pAccept b v x) = b ∧ valOf (pAccept b v x) = v := by
  unfold accOf valOf pAccept
  constructor <;> omega
theorem accOf_promise {b x : Int} (hx : 0 ≤ x) : accOf (pPromise b x) = accOf x ∧ valOf (pPromise b x) = valOf x := by
  unfold accOf valOf pPromise
  constructor <;> omega
/-- The value that a proposer takes over. -/
theorem pVal_none (own : Int) (l : List Ac) (h : ∀ a ∈ l, accOf a.2 = 0) : pVal own l = (own, 0) := by
  unfold pVal
  induction l with
  | nil => rfl
  | cons a tl ih =>
    rw [List.foldl_cons]
    have e : pVal1 (own, 0) a = (own, 0) := by
      have := h a List.mem_cons_self
      unfold accOf at this
      unfold pVal1
      rw [if_neg (by simp only; omega)]
    rw [e]
    exact ih (fun x hx => h x (List.mem_cons_of_mem _ hx))
theorem pVal_all (own value : Int) (l : List Ac) (h : ∀ a ∈ l, accOf a.2 ≠ 0 → valOf a.2 = value) (hx : ∃ a ∈ l, accOf a.2 ≠ 0) : (pVal own l).1 = value := by
  have key : ∀ (l : List Ac) (s : Int × Int), (∀ a ∈ l, accOf a.2 ≠ 0 → valOf a.2 = value) → (s.2 = 0 ∧ (∃ a ∈ l, accOf a.2 ≠ 0) ∨ 0 < s.2 ∧ s.1 = value) → (l.foldl pVal1 s).1 = value := by
    intro l
    induction l with
    | nil => intro s _ h; rcases h with ⟨_, a, ha, _⟩ | h
             · cases ha
             · exact h.2
    | cons a tl ih =>
      intro s h1 h2
      rw [List.foldl_cons]
      refine ih _ (fun x hx => h1 x (List.mem_cons_of_mem _ hx)) ?_
      have ha := h1 a List.mem_cons_self
      have h0 : 0 ≤ accOf a.2 := Int.emod_nonneg _ (by decide)
      unfold pVal1
      change _ ∨ _
      by_cases hlt : s.2 < a.2 / 1099511627776 % 4096
      · rw [if_pos hlt]
        right
        have : 0 < accOf a.2 := by
          have e : accOf a.2 = a.2 / 1099511627776 % 4096 := rfl
          rcases h2 with ⟨h2, _⟩ | ⟨h2, _⟩ <;> omega
        exact ⟨this, ha (by omega)⟩
      · rw [if_neg hlt]
        rcases h2 with ⟨h2, b, hb, hb2⟩ | h2
        · left
          refine ⟨h2, b, ?_, hb2⟩
          rcases List.mem_cons.1 hb with rfl | hb
          · have e : accOf b.2 = b.2 / 1099511627776 % 4096 := rfl
            omega
          · exact hb
        · exact .inr h2
  exact key l (own, 0) h (.inl ⟨rfl, hx⟩)

/-- Two majorities meet. -/
theorem meet {α : Type} (xs : List α) (p q : α → Bool) (h : xs.length < xs.countP p + xs.countP q) : ∃ x ∈ xs, p x = true ∧ q x = true := by
  induction xs with
  | nil => simp at h
  | cons x tl ih =>
    by_cases hp : p x = true
    · by_cases hq : q x = true
      · exact ⟨x, List.mem_cons_self, hp, hq⟩
      · rw [List.countP_cons_of_pos hp, List.countP_cons_of_neg hq, List.length_cons] at h
        obtain ⟨y, h1, h2⟩ := ih (by omega)
        exact ⟨y, List.mem_cons_of_mem _ h1, h2⟩
    · rw [List.countP_cons_of_neg hp, List.length_cons] at h
      have : (x :: tl).countP q ≤ tl.countP q + 1 := by rw [List.countP_cons]; split <;> omega
      obtain ⟨y, h1, h2⟩ := ih (by omega)
      exact ⟨y, List.mem_cons_of_mem _ h1, h2⟩

/-- Who is a candidate of j. -/
def isUp (N : Nd) : Bool := !N.down
def isCand (j : PJ) (N : Nd) : Bool := !N.down && decide (cWord j N / 4503599627370496 < bal j)
theorem upA_count (j : PJ) (ns : List Nd) : ∀ i : Nat, (upA j i ns).length = ns.countP isUp ∧ (pCands (bal j) (upA j i ns)).length = ns.countP (isCand j) := by
  induction ns with
  | nil => intro i; exact ⟨rfl, rfl⟩
  | cons N tl ih =>
    intro i
    obtain ⟨h1, h2⟩ := ih (i + 1)
    rw [upA]
    unfold pCands at h2 ⊢
    by_cases hd : N.down = true
    · rw [if_pos hd, List.nil_append, List.countP_cons_of_neg (by simp [isUp, hd]), List.countP_cons_of_neg (by simp [isCand, hd])]
      exact ⟨h1, h2⟩
    · have hd2 : N.down = false := by simpa using hd
      rw [if_neg hd, List.countP_cons_of_pos (by simp [isUp, hd2])]
      refine ⟨by simp [h1], ?_⟩
      rw [List.singleton_append, List.filter_cons]
      by_cases hp : cWord j N / 4503599627370496 < bal j
      · rw [if_pos (by simpa using hp), List.countP_cons_of_pos (by simp [isCand, hd2, hp]), List.length_cons, h2]
      · rw [if_neg (by simpa using hp), List.countP_cons_of_neg (by simp [isCand, hd2, hp]), h2]
theorem upA_in (j : PJ) (ns : List Nd) : ∀ (i k : Nat) (N : Nd), ns[k]? = some N → N.down = false → (((i + k : Nat) : Int), cWord j N) ∈ upA j i ns := by
  induction ns with
  | nil => intro i k N h; simp at h
  | cons M tl ih =>
    intro i k N h hd
    rw [upA]
    cases k with
    | zero =>
      simp only [List.getElem?_cons_zero, Option.some.injEq] at h
      subst h
      rw [if_neg (by rw [hd]; simp)]
      exact List.mem_append_left _ (by simp)
    | succ k =>
      rw [List.getElem?_cons_succ] at h
      have := ih (i + 1) k N h hd
      rw [show i + 1 + k = i + (k + 1) by omega] at this
      exact List.mem_append_right _ this
theorem soleC_iff {j : PJ} {ns : List Nd} {k : Nat} {N : Nd} (h : ns[k]? = some N) : ((∃ a ∈ soleC j ns, a.1.toNat = k) ↔ isCand j N = true) := by
  constructor
  · rintro ⟨a, ha, hk⟩
    obtain ⟨h1, h2⟩ := List.mem_filter.1 ha
    obtain ⟨k', M, e1, e2, e3⟩ := upA_mem j ns 0 a h1
    have : k' = k := by rw [e3] at hk; simp only at hk; omega
    subst this
    rw [h] at e1
    cases e1
    rw [e3] at h2
    simp only [decide_eq_true_eq] at h2
    simp [isCand, e2, h2]
  · intro hc
    simp only [isCand, Bool.and_eq_true, Bool.not_eq_true', decide_eq_true_eq] at hc
    have := upA_in j ns 0 k N h hc.1
    refine ⟨_, List.mem_filter.2 ⟨this, by simpa using hc.2⟩, by simp⟩
/-- What the decision leaves on the nodes. -/
theorem soleN2_eq {j : PJ} {ns : List Nd} (h : Sole j ns) : soleN2 j ns = ns.map (fun N => if isCand j N = true then cPut j N (pAccept (bal j) (soleV j ns) 0) else N) := by
  obtain ⟨hc1, hc2⟩ := soleC_holds h
  obtain ⟨hs1, hs2⟩ := soleS_holds h
  obtain ⟨g1, g2, g3⟩ := putA_get j (pPromise (bal j)) (soleC j ns) ns hc1 hc2
  obtain ⟨f1, f2, f3⟩ := putA_get j (pAccept (bal j) (soleV j ns)) (soleS j ns) (soleN1 j ns) hs1 hs2
  apply List.ext_getElem?
  intro i
  rw [List.getElem?_map]
  cases hN : ns[i]? with
  | none =>
    have := List.getElem?_eq_none_iff.1 hN
    rw [List.getElem?_eq_none (by unfold soleN2; rw [f1]; unfold soleN1; rw [g1]; exact this)]; rfl
  | some N =>
    have hiff := soleC_iff (j := j) hN
    by_cases hx : isCand j N = true
    · obtain ⟨a, ha, rfl⟩ := hiff.2 hx
      obtain ⟨M, q1, q2⟩ := g2 a ha
      rw [hN] at q1
      cases q1
      obtain ⟨M2, q3, q4⟩ := f2 (a.1, pPromise (bal j) a.2) (List.mem_map.2 ⟨a, ha, rfl⟩)
      have q5 : (soleN1 j ns)[a.1.toNat]? = some (cPut j N (pPromise (bal j) a.2)) := q2
      simp only at q3 q4
      rw [q5] at q3
      cases q3
      rw [show soleN2 j ns = putA j (pAccept (bal j) (soleV j ns)) (soleN1 j ns) (soleS j ns) from rfl, q4]
      simp only [Option.map_some, hx, if_true, cPut, List.set_set]
      rfl
    · have hno : ∀ a ∈ soleC j ns, a.1.toNat ≠ i := fun a ha e => hx (hiff.1 ⟨a, ha, e⟩)
      rw [show soleN2 j ns = putA j (pAccept (bal j) (soleV j ns)) (soleN1 j ns) (soleS j ns) from rfl, f3 i (fun a ha e => by
        obtain ⟨b, hb, rfl⟩ := List.mem_map.1 ha
        exact hno b hb e)]
      rw [show soleN1 j ns = putA j (pPromise (bal j)) ns (soleC j ns) from rfl, g3 i hno, hN]
      simp [hx]

/-- The consensus words between two proposers. -/
structure Cons (any : Bool) (value : Int) (ws : List Int) : Prop where
  rng : ∀ w ∈ ws, 0 ≤ w
  no : any = false → ∀ w ∈ ws, accOf w = 0
  val : any = true → ∀ w ∈ ws, accOf w ≠ 0 → valOf w = value
  maj : any = true → ws.length / 2 + 1 ≤ ws.countP (fun w => decide (accOf w ≠ 0))
  vr : any = true → 0 ≤ value ∧ value < 1099511627776
def w11 (N : Nd) : Int := N.words.getD 11 0
def door6 (N : Nd) : Prop := N.words.length = 784 ∧ ∀ c : Nat, c < 6 → N.words.getD (24 + c) 0 ≤ 1
/-- The fabric between two proposers. -/
structure SP (n : Nat) (tb : Int) (any : Bool) (value : Int) (P : PF) : Prop where
  len : P.ns.length = n
  door : ∀ N ∈ P.ns, door6 N
  cl : P.cs.length = 6
  cs : ∀ c : Nat, c < 6 → ∃ tr po, P.cs[c]? = some ⟨true, 1, freshLs n c 1, [], 0, tr, po⟩ ∧ 0 ≤ tr ∧ tr ≤ tb
  os : P.os = []
  cons : Cons any value (P.ns.map w11)
theorem SP.setN {n : Nat} {tb : Int} {any : Bool} {value : Int} {P : PF} (h : SP n tb any value P) {k : Nat} {N M : Nd} (hk : P.ns[k]? = some N) (hd : door6 M) (hw : w11 M = w11 N) : SP n tb any value (pSetN P k M) := by
  refine ⟨by simp [pSetN, h.len], fun X hX => ?_, h.cl, h.cs, h.os, ?_⟩
  · simp only [pSetN] at hX
    rcases mem_set hX with hX | rfl
    · exact h.door X hX
    · exact hd
  · have e : (pSetN P k M).ns.map w11 = P.ns.map w11 := by
      simp only [pSetN, List.map_set, hw]
      exact set_same (by simp [hk])
    rw [e]; exact h.cons
theorem pFail_SP {n : Nat} {tb : Int} {any : Bool} {value : Int} {P : PF} (h : SP n tb any value P) (k : Nat) : SP n tb any value (pFail P k) := by
  unfold pFail; split
  · rename_i N hN
    exact h.setN hN (h.door N (List.mem_of_getElem? hN)) rfl
  · exact h
theorem ndBack_w {N : Nd} {b : Int} (i : Nat) (hi : i ≠ 1) : (ndBack N b).words.getD i 0 = N.words.getD i 0 := by
  unfold ndBack; split
  · simp only
    rw [List.getD_eq_getElem?_getD, List.getD_eq_getElem?_getD, List.getElem?_set_ne (Ne.symm hi)]
  · rfl
theorem pBack_SP {n : Nat} {tb : Int} {any : Bool} {value : Int} {P : PF} (h : SP n tb any value P) (k : Nat) : SP n tb any value (pBack P k) := by
  unfold pBack; split
  · rename_i N hN
    obtain ⟨d1, d2⟩ := h.door N (List.mem_of_getElem? hN)
    refine h.setN hN ⟨by rw [ndBack_len]; exact d1, fun c hc => ?_⟩ ?_
    · rw [ndBack_w _ (by omega)]; exact d2 c hc
    · exact ndBack_w 11 (by decide)
  · exact h
/-- Boot numbers. -/
def Boots (b : Int) (k : Nat) (P : PF) : Prop := ∀ (i : Nat) (N : Nd), P.ns[i]? = some N → 0 ≤ N.words.getD 1 0 ∧ N.words.getD 1 0 ≤ (if i < k then b + 1 else b) ∧ (i < k → N.down = false)
theorem Boots.weak {b : Int} {k : Nat} {P : PF} (h : Boots b k P) : Boots (b + 1) 0 P := fun i N hN => by
  obtain ⟨h1, h2, h3⟩ := h i N hN
  refine ⟨h1, ?_, fun e => by omega⟩
  rw [if_neg (by omega)]
  split at h2 <;> omega
theorem pBack_boots {n : Nat} {tb : Int} {any : Bool} {value : Int} {P : PF} (hs : SP n tb any value P) {b : Int} (hb : b ≤ 30) {k : Nat} (h : Boots b k P) : Boots b (k + 1) (pBack P k) := by
  intro i N hN
  unfold pBack at hN
  cases hk : P.ns[k]? with
  | none =>
    rw [hk] at hN
    simp only at hN
    have hl := List.getElem?_eq_none_iff.1 hk
    have hi := (List.getElem?_eq_some_iff.1 hN).1
    obtain ⟨h1, h2, h3⟩ := h i N hN
    rw [if_pos (by omega)] at h2 ⊢
    exact ⟨h1, h2, fun _ => h3 (by omega)⟩
  | some M =>
    rw [hk] at hN
    simp only [pSetN] at hN
    have hkl := (List.getElem?_eq_some_iff.1 hk).1
    by_cases e : k = i
    · subst e
      rw [List.getElem?_set_self hkl] at hN
      cases hN
      obtain ⟨h1, h2, h3⟩ := h k M hk
      rw [if_neg (Nat.lt_irrefl _)] at h2
      rw [if_pos (Nat.lt_succ_self _)]
      have hlen := (hs.door M (List.mem_of_getElem? hk)).1
      unfold ndBack
      by_cases hd : M.down = true
      · rw [if_pos ⟨hd, by omega⟩]
        have e1 : (M.words.set 1 (M.words.getD 1 0 + 1)).getD 1 0 = M.words.getD 1 0 + 1 := by
          rw [List.getD_eq_getElem?_getD (l := M.words.set _ _), List.getElem?_set_self (by omega)]; rfl
        simp only [e1]
        exact ⟨by omega, by omega, fun _ => trivial⟩
      · rw [if_neg (fun q => hd q.1)]
        exact ⟨h1, by omega, fun _ => by simpa using hd⟩
    · rw [List.getElem?_set_ne e] at hN
      obtain ⟨h1, h2, h3⟩ := h i N hN
      by_cases hi : i < k
      · rw [if_pos hi] at h2
        rw [if_pos (by omega)]
        exact ⟨h1, h2, fun _ => h3 hi⟩
      · rw [if_neg hi] at h2
        rw [if_neg (by omega)]
        exact ⟨h1, h2, fun q => by omega⟩
theorem pFail_boots {b : Int} {P : PF} (h : Boots b 0 P) (k : Nat) : Boots b 0 (pFail P k) := by
  intro i N hN
  unfold pFail at hN
  cases hk : P.ns[k]? with
  | none => rw [hk] at hN; exact h i N hN
  | some M =>
    rw [hk] at hN
    simp only [pSetN] at hN
    by_cases e : k = i
    · subst e
      rw [List.getElem?_set_self (List.getElem?_eq_some_iff.1 hk).1] at hN
      cases hN
      obtain ⟨h1, h2, h3⟩ := h k M hk
      exact ⟨h1, h2, fun q => by omega⟩
    · rw [List.getElem?_set_ne e] at hN
      exact h i N hN
/-- How many nodes are down. -/
def downs (P : PF) : Nat := P.ns.countP (fun N => N.down)
theorem downs_zero {b : Int} {P : PF} {n : Nat} (hn : P.ns.length = n) (h : Boots b n P) : downs P = 0 := by
  unfold downs
  rw [List.countP_eq_zero]
  intro N hN
  obtain ⟨i, hi⟩ := List.getElem?_of_mem hN
  have := (h i N hi).2.2 (by have := (List.getElem?_eq_some_iff.1 hi).1; omega)
  rw [this]; simp
theorem countP_set_le {α : Type} (p : α → Bool) (xs : List α) : ∀ (k : Nat) (a : α), (xs.set k a).countP p ≤ xs.countP p + 1 := by
  induction xs with
  | nil => intro k a; simp
  | cons x tl ih =>
    intro k a
    cases k with
    | zero =>
      rw [List.set_cons_zero, List.countP_cons, List.countP_cons]
      split <;> split <;> omega
    | succ k =>
      rw [List.set_cons_succ, List.countP_cons, List.countP_cons]
      have := ih k a
      omega
theorem pFail_downs (P : PF) (k : Nat) : downs (pFail P k) ≤ downs P + 1 := by
  unfold pFail; split
  · exact countP_set_le _ _ _ _
  · omega
theorem up_down (ns : List Nd) : ns.countP isUp + ns.countP (fun N => N.down) = ns.length := by
  induction ns with
  | nil => rfl
  | cons N tl ih =>
    rw [List.countP_cons, List.countP_cons, List.length_cons]
    have : isUp N = !N.down := rfl
    rw [this]
    cases N.down <;> simp <;> omega

/-- A proposer of PaxosStays. -/
def stJ (n : Nat) (c : Int) (r : Int) (v : Int) : PJ := ⟨n, 3, c, r, v⟩
def stT (n : Nat) (c : Nat) (r : Int) (v : Int) : PT := ⟨2, c, stJ n c r v, [], false, false, 0, 0⟩
theorem stJ_valid {n : Nat} {c : Nat} {r v : Int} (h0 : 1 ≤ n) (h1 : n ≤ 5) (hc : c < 6) (r0 : 1 ≤ r) (r1 : r ≤ 20) (v0 : 1 ≤ v) (v1 : v ≤ 20) : pValid (stJ n c r v) = 0 := by
  unfold pValid stJ
  simp only
  rw [if_neg (by omega), if_neg (by omega)]
  have hb : pBal r c = 0 := by unfold pBal; rw [if_neg (by omega), if_neg (by omega)]
  rw [if_neg (by rw [hb]; simp), if_neg (by omega)]
/-- What the law asks of its outcome. -/
def StEnd (any : Bool) (value v : Int) (t : PT) : Prop := t.over = true ∧ t.bad = false ∧ (t.code = 0 ∧ t.value = (if any = true then value else v) ∨ t.code = 8)
theorem stays_pure {n : Nat} (h0 : 1 ≤ n) (h1 : n ≤ 5) (hodd : n % 2 = 1) {tb : Int} (htb : tb ≤ 1000) {any : Bool} {value : Int} {P : PF} (hP : SP n tb any value P) (hdn : downs P ≤ n / 2) {b : Int} (hbo : Boots b 0 P) {c : Nat} (hc : c < 6) {r v : Int} (r0 : 1 ≤ r) (r1 : r ≤ 20) (v0 : 1 ≤ v) (v1 : v ≤ 20) :
    ∃ P' t', pDrive P [stT n c r v] [] 20000 = (P', [t']) ∧ StEnd any value v t' ∧ Boots b 0 P' ∧
      (t'.code = 0 → SP n (tb + 3) true t'.value P') ∧ (t'.code = 8 → SP n (tb + 3) any value P') := by
  obtain ⟨tr, po, hC, tr0, tr1⟩ := hP.cs c hc
  have hlen := hP.len
  have hstill : Still P c := ⟨by rw [hP.cl]; exact hc, hP.os, fun i C hi hCi => by
    have hil := (List.getElem?_eq_some_iff.1 hCi).1
    rw [hP.cl] at hil
    obtain ⟨tr', po', h2, _⟩ := hP.cs i hil
    rw [h2] at hCi
    cases hCi
    exact fun l hl => freshLs_quiet l hl⟩
  have hndok : ∀ N ∈ P.ns, NdOk (c : Nat) 1 N := fun N hN => by
    obtain ⟨d1, d2⟩ := hP.door N hN
    exact ⟨by omega, d2 c hc⟩
  obtain ⟨j, hj⟩ : ∃ j, j = stJ n c r v := ⟨_, rfl⟩
  have hv : pValid j = 0 := by rw [hj]; exact stJ_valid h0 h1 hc r0 r1 v0 v1
  have hjn : j.nodes = (P.ns.length : Nat) := by rw [hlen, hj]; rfl
  have hsole : Sole j P.ns := ⟨hv, hjn, fun N hN => by have := (hP.door N hN).1; omega⟩
  have hw : ∀ N, cWord j N = w11 N := fun N => by rw [hj]; rfl
  have hbal : bal j = r * 8 + c + 1 := by rw [hj]; rfl
  have hmaj : pMaj j.nodes = (n : Int) / 2 + 1 := by unfold pMaj; rw [hjn, hlen, if_neg (by omega)]
  have hup : (upA j 0 P.ns).length = P.ns.countP isUp := (upA_count j P.ns 0).1
  have hcd : (soleC j P.ns).length = P.ns.countP (isCand j) := (upA_count j P.ns 0).2
  have hud := up_down P.ns
  have hupm : pMaj j.nodes ≤ (upA j 0 P.ns).length := by
    rw [hmaj, hup]
    unfold downs at hdn
    omega
  have drive := fun hov => alone_drive (inc := 1) hstill j (by rw [hj]; simp [stJ]) (by rw [hj]; simp [stJ]) hjn (by omega) 3 (by decide) tr po (by rw [hC, hlen]) (stT n c r v) hndok rfl (by rw [hj]; rfl) rfl rfl tr0 (by omega) hov
  have mk : ∀ (ns' : List Nd) (tr' po' : Int) (any' : Bool) (value' : Int), ns'.length = n → (∀ N ∈ ns', door6 N) → Cons any' value' (ns'.map w11) → 0 ≤ tr' → tr' ≤ tb + 3 → SP n (tb + 3) any' value' (midP P c 1 ns' [] [] tr' po') := by
    intro ns' tr' po' any' value' q1 q2 q3 q4 q5
    refine ⟨q1, q2, by simp [midP, hP.cl], fun i hi => ?_, hP.os, q3⟩
    by_cases e : c = i
    · subst e
      refine ⟨tr', po', ?_, q4, q5⟩
      simp only [midP]
      rw [List.getElem?_set_self (by rw [hP.cl]; exact hc), hlen]
      rfl
    · obtain ⟨a, b2, h2, h3, h4⟩ := hP.cs i hi
      refine ⟨a, b2, ?_, h3, by omega⟩
      simp only [midP]
      rw [List.getElem?_set_ne e]
      exact h2
  by_cases hm : (soleC j P.ns).length < pMaj j.nodes
  · obtain ⟨o, ho, hn⟩ := (sole_second hsole).2.1 hupm hm
    have hr := sole_stops hsole (by rw [hn])
    rw [hr] at drive
    obtain ⟨⟨po', h2⟩, _⟩ := drive (by rw [hn])
    refine ⟨_, _, h2, ⟨rfl, rfl, .inr ?_⟩, ?_, fun e => ?_, fun _ => mk P.ns _ _ any value hlen hP.door hP.cons (by simp only [List.length_singleton]; omega) (by simp only [List.length_singleton]; omega)⟩
    · simp only [hn, ho]
    · exact hbo
    · simp only [hn, ho] at e
      exact absurd e (by decide)
  · have hcm : pMaj j.nodes ≤ (soleC j P.ns).length := by omega
    obtain ⟨q1, q2, hr, hn⟩ := sole_decides hsole hupm hcm
    rw [hr] at drive
    obtain ⟨⟨po', h3⟩, _⟩ := drive (by rw [hn])
    obtain ⟨V, hV⟩ : ∃ V, V = soleV j P.ns := ⟨_, rfl⟩
    rw [← hV] at hn
    -- the value
    have hww : ∀ a ∈ soleC j P.ns, ∃ N ∈ P.ns, a.2 = w11 N := fun a ha => by
      obtain ⟨k', M, e1, e2, e3⟩ := upA_mem j P.ns 0 a (List.mem_filter.1 ha).1
      exact ⟨M, List.mem_of_getElem? e1, by rw [e3]; exact hw M⟩
    have hacc : ∀ a ∈ soleS j P.ns, ∃ N ∈ P.ns, accOf a.2 = accOf (w11 N) ∧ valOf a.2 = valOf (w11 N) := fun a ha => by
      obtain ⟨a0, ha0, rfl⟩ := List.mem_map.1 ha
      obtain ⟨N, hN, e⟩ := hww a0 ha0
      refine ⟨N, hN, ?_⟩
      have := hP.cons.rng (w11 N) (List.mem_map_of_mem hN)
      obtain ⟨p1, p2⟩ := accOf_promise (b := bal j) (x := a0.2) (by rw [e]; exact this)
      rw [← e]
      exact ⟨p1, p2⟩
    have hval : V = if any = true then value else v := by
      rw [hV]
      unfold soleV
      cases hany : any with
      | false =>
        rw [pVal_none _ _ (fun a ha => by
          obtain ⟨N, hN, e, _⟩ := hacc a ha
          rw [e]
          exact hP.cons.no hany _ (List.mem_map_of_mem hN))]
        rw [hj]; rfl
      | true =>
        have h5 := hP.cons.maj hany
        rw [List.length_map, hlen, List.countP_map] at h5
        obtain ⟨N, hN, m1, m2⟩ := meet P.ns (isCand j) ((fun w => decide (accOf w ≠ 0)) ∘ w11) (by rw [hlen]; omega)
        obtain ⟨k, hk⟩ := List.getElem?_of_mem hN
        obtain ⟨a, ha, hak⟩ := (soleC_iff hk).2 m1
        simp only [Function.comp_apply, decide_eq_true_eq] at m2
        refine pVal_all _ _ _ (fun a ha hne => ?_) ⟨(a.1, pPromise (bal j) a.2), List.mem_map.2 ⟨a, ha, rfl⟩, ?_⟩
        · obtain ⟨N, hN, e1, e2⟩ := hacc a ha
          rw [e2]
          exact hP.cons.val hany _ (List.mem_map_of_mem hN) (by rw [← e1]; exact hne)
        · obtain ⟨k', M, e1, e2, e3⟩ := upA_mem j P.ns 0 a (List.mem_filter.1 ha).1
          have hkk : k' = k := by rw [e3] at hak; simp only at hak; omega
          subst hkk
          rw [hk] at e1
          cases e1
          have ea : a.2 = w11 N := by rw [e3]; exact hw N
          have := hP.cons.rng (w11 N) (List.mem_map_of_mem hN)
          rw [(accOf_promise (b := bal j) (x := a.2) (by rw [ea]; exact this)).1, ea]
          exact m2
    have hVr : 0 ≤ V ∧ V < 1099511627776 := by
      rw [hval]
      cases hany : any with
      | false => rw [if_neg (by simp)]; omega
      | true => rw [if_pos rfl]; exact hP.cons.vr hany
    have hb0 : 0 < bal j := by rw [hbal]; omega
    have hb1 : bal j < 4096 := by rw [hbal]; omega
    obtain ⟨A, hA⟩ : ∃ A, A = pAccept (bal j) V 0 := ⟨_, rfl⟩
    obtain ⟨a1, a2⟩ := accOf_accept (b := bal j) (v := V) (by omega) hb1 hVr.1 hVr.2 0
    rw [← hA] at a1 a2
    have hA0 : 0 ≤ A := by rw [hA]; unfold pAccept; omega
    have hns2 := soleN2_eq hsole
    rw [← hV, ← hA] at hns2
    have hput : ∀ N, door6 N → door6 (cPut j N A) ∧ w11 (cPut j N A) = A ∧ (cPut j N A).words.getD 1 0 = N.words.getD 1 0 := by
      intro N hN
      have hca : cAt j = 11 := by rw [hj]; rfl
      refine ⟨⟨by simp only [cPut, List.length_set]; exact hN.1, fun c hc => ?_⟩, ?_, ?_⟩
      · have := hN.2 c hc
        rw [List.getD_eq_getElem?_getD] at this ⊢
        simp only [cPut]
        rw [hca, List.getElem?_set_ne (by omega)]
        exact this
      · rw [← hw]
        exact cWord_put (by rw [hca, hN.1]; decide)
      · simp only [cPut]
        rw [hca, List.getD_eq_getElem?_getD, List.getElem?_set_ne (by decide), ← List.getD_eq_getElem?_getD]
    have hwm : (soleN2 j P.ns).map w11 = P.ns.map (fun N => if isCand j N = true then A else w11 N) := by
      rw [hns2, List.map_map]
      apply List.map_congr_left
      intro N hN
      simp only [Function.comp_apply]
      split
      · exact (hput N (hP.door N hN)).2.1
      · rfl
    refine ⟨_, _, h3, ⟨rfl, rfl, .inl ⟨?_, ?_⟩⟩, ?_, fun _ => mk _ _ _ true _ ?_ ?_ ?_ (by simp only [List.length_cons, List.length_nil]; omega) (by simp only [List.length_cons, List.length_nil]; omega), fun e => ?_⟩
    · simp only [hn]
    · simp only [hn]; exact hval
    · intro i N hN
      simp only [midP] at hN
      rw [hns2, List.getElem?_map] at hN
      cases hx : P.ns[i]? with
      | none => rw [hx] at hN; simp at hN
      | some M =>
        rw [hx] at hN
        simp only [Option.map_some, Option.some.injEq] at hN
        obtain ⟨b1, b2, b3⟩ := hbo i M hx
        have hM := hput M (hP.door M (List.mem_of_getElem? hx))
        rw [← hN]
        split
        · rw [hM.2.2]; exact ⟨b1, b2, fun q => by omega⟩
        · exact ⟨b1, b2, fun q => by omega⟩
    · simp only [hns2, List.length_map, hlen]
    · simp only
      rw [hns2]
      intro N hN
      obtain ⟨M, hM, rfl⟩ := List.mem_map.1 hN
      split
      · exact (hput M (hP.door M hM)).1
      · exact hP.door M hM
    · simp only [hn]
      rw [hwm]
      refine ⟨fun w hw2 => ?_, fun e => (by cases e), fun _ w hw2 hne => ?_, fun _ => ?_, fun _ => hVr⟩
      · obtain ⟨N, hN, rfl⟩ := List.mem_map.1 hw2
        split
        · exact hA0
        · exact hP.cons.rng _ (List.mem_map_of_mem hN)
      · obtain ⟨N, hN, rfl⟩ := List.mem_map.1 hw2
        split at hne
        · rename_i hcn; rw [if_pos hcn]; exact a2
        · rename_i hcn
          rw [if_neg hcn]
          cases hany : any with
          | false => exact absurd (hP.cons.no hany _ (List.mem_map_of_mem hN)) hne
          | true => rw [hval, if_pos hany]; exact hP.cons.val hany _ (List.mem_map_of_mem hN) hne
      · rw [List.length_map, hlen, List.countP_map]
        have : P.ns.countP (isCand j) ≤ P.ns.countP ((fun w => decide (accOf w ≠ 0)) ∘ fun N => if isCand j N = true then A else w11 N) := by
          apply List.countP_mono_left
          intro N hN hcn
          simp only [Function.comp_apply, decide_eq_true_eq]
          rw [if_pos hcn, a1]
          omega
        omega
    · simp only [hn] at e
      exact absurd e (by decide)
end Go.Proofs.YtaojipegpjolcaaGreat
set_option maxRecDepth 100000
set_option linter.unusedVariables false
set_option linter.unusedSimpArgs false
namespace Go.Proofs.YtaojipegpjolcaaGreat
open Go.ChangeShapes Go.WideShapes Go.ChangeAt Go.RowKit Go.Joins Go.Deep

theorem cellsInt : Tryz.prog.cellsOf 3 = 1 := by kernel_rfl
theorem add_block (a : Addr) (k : Nat) : (a.add k).block = a.block := by unfold Addr.add; split <;> rfl
theorem ints_arg {H : Type} {enc : TypeId × Value → H} {w : World} {r : Reach} {b0 : Nat} {v : Value} {d : DataW H} {p : List MemPlace}
    (hv : Value.okWide Tryz.prog w r b0 34 v) (h : DataW.Trod enc Tryz.prog w 0 (fun _ => true) true 34 v d p) :
    ∃ (A : Option Addr) (xs : List Int) (cap : Nat), v = .slice A xs.length cap ∧ ArgI w.heap.size w A xs ∧ (∀ x ∈ xs, I64 x) ∧ xs.length ≤ maxLen := by
  obtain ⟨a0, len, cap, rfl⟩ := okWide_slice Tryz.underlying34 hv
  obtain ⟨fuel, hf⟩ := h
  rcases open_ints Tryz.underlying34 Tryz.underlying3 cellsInt hf with ⟨hcs, hx⟩ | ⟨a, len', cap', zs, hcs, _, hl, hm, hz, hx, hcell, hwz⟩
  · simp [Value.cells] at hcs
    obtain ⟨rfl, rfl, rfl⟩ := hcs
    exact ⟨none, [], 0, rfl, fun k x hk => by simp at hk, fun x hx => (by cases hx), by simp⟩
  · simp [Value.cells] at hcs
    obtain ⟨rfl, rfl, rfl⟩ := hcs
    rw [if_pos rfl] at hz
    have hlen : (zs.take len).length = len := by rw [List.length_take]; omega
    refine ⟨some a, zs.take len, cap, by rw [hlen], fun k x hk => ?_, fun x hx => int_bounds (hwz x (List.mem_of_mem_take hx)), by rw [hlen]; omega⟩
    have hkl : k < len := by have := (List.getElem?_eq_some_iff.1 hk).1; omega
    rw [List.getElem?_take_of_lt hkl] at hk
    have hc := hcell k (by omega)
    have hx : zs.getD k 0 = x := by rw [List.getD_eq_getElem?_getD, hk]; rfl
    rw [hx] at hc
    refine ⟨a, rfl, ?_, hc⟩
    have := World.block_lt_of_cell? w (a.add k) hc
    rwa [add_block] at this
end Go.Proofs.YtaojipegpjolcaaGreat
