/- A batch of one client on a quiet fabric, executed verb by verb (without memory). A proposer alone on a quiet fabric (without memory). What a proposer alone on a quiet fabric decides. PaxosMinority without memory. A node of a fabric fails, or comes back. -/
import Derived.Test.YtaojipegpjolcaaGreatGM
set_option linter.unusedVariables false
set_option linter.unusedSimpArgs false
namespace Go.Proofs.YtaojipegpjolcaaGreat

/-- What a node does with a verb on one word. -/
def nodeDo (N : Nd) (v : Vb) : Nd × Dn :=
  if N.down = true then (N, ⟨4, []⟩)
  else if v.kind = 1 then (N, ⟨0, [N.words.getD v.at_.toNat 0]⟩)
  else (if N.words.getD v.at_.toNat 0 = v.old then { N with words := N.words.set v.at_.toNat v.new } else N, ⟨0, [N.words.getD v.at_.toNat 0]⟩)
/-- A verb on one word of a control line. -/
structure Sv (n : Nat) (v : Vb) : Prop where
  kind : v.kind = 1 ∧ v.n = 1 ∨ v.kind = 3
  words : v.words = []
  at0 : 8 ≤ v.at_
  at1 : v.at_ ≤ 23
  nd0 : 0 ≤ v.node
  nd1 : v.node.toNat < n
theorem VCons.sv {n : Nat} {j : PJ} {v : Vb} (h : VCons n j v) (h0 : 0 ≤ j.number) (h1 : j.number ≤ 15) : Sv n v := by
  obtain ⟨hk, hw, hb, hat, hnd0, hnd1⟩ := h
  exact ⟨hk, hw, by omega, by omega, hnd0, by omega⟩
/-- A node whose door lets client c in. -/
structure NdOk (c inc : Int) (N : Nd) : Prop where
  len : 24 ≤ N.words.length
  door : N.words.getD (24 + c).toNat 0 ≤ inc
theorem nodeDo_ok {c inc : Int} {N : Nd} {n : Nat} {v : Vb} (h : NdOk c inc N) (hc : 0 ≤ c) (hv : Sv n v) : NdOk c inc (nodeDo N v).1 := by
  have h0 := hv.at0
  have h1 := hv.at1
  unfold nodeDo
  split
  · exact h
  · split
    · exact h
    · simp only
      split
      · refine ⟨by simp only [List.length_set]; exact h.len, ?_⟩
        have := h.door
        rw [List.getD_eq_getElem?_getD] at this ⊢
        simp only
        rw [List.getElem?_set_ne (by omega)]
        exact this
      · exact h
theorem pieces_one {n : Nat} {v : Vb} (hv : Sv n v) : vPieces v = [(v.at_, 1)] := by
  have hc : vCount v = 1 := by unfold vCount; rcases hv.kind with ⟨hk, hn⟩ | hk <;> simp [hk, *]
  unfold vPieces
  rw [hc, pcs_step 2000 _ _ (by decide) (by decide)]
  have hm : min (1 : Int) (8 - v.at_ % 8) = 1 := by have := Int.emod_lt_of_pos v.at_ (show (0 : Int) < 8 by decide); omega
  rw [hm, pcs_end _ _ _ (by decide)]
theorem step_simple {n : Nat} {p : PP} {v : Vb} {tl : List Vb} {N : Nd} (hp : p.vs = v :: tl) (he : p.ex = 0) (hw : p.ws = []) (hv : Sv n v) (hN : NdOk p.cl p.inc N) : pStepPair p N = (pDone p, (nodeDo N v).1, some (nodeDo N v).2) := by
  have hat0 := hv.at0
  have hat1 := hv.at1
  have hlen := hN.len
  have hctl : vCtl v = true := by
    have : 2 ≤ vLast v := by unfold vLast; split <;> decide
    unfold vCtl
    rw [decide_eq_true_eq]
    omega
  have href : ndRefuses N v p.cl p.inc = if N.down = true then 4 else 0 := by
    have := hN.door
    unfold ndRefuses
    split
    · rfl
    · unfold vCheck
      by_cases hk : v.kind = 1
      · rw [if_pos ⟨hctl, hk⟩]
      · rw [if_neg (fun e => hk e.2), if_neg (by omega), if_pos hctl]
  have hpc := pieces_one hv
  unfold pStepPair
  rw [hp]
  simp only
  rw [href]
  by_cases hd : N.down = true
  · rw [if_pos hd, if_pos (by decide)]
    unfold nodeDo
    rw [if_pos hd]
  · rw [if_neg hd, if_neg (fun e => e rfl), he, hpc, hw]
    simp only [Int.toNat_zero, List.getElem?_cons_zero, List.length_singleton, Nat.zero_add, Nat.lt_irrefl, if_false, List.nil_append]
    unfold nodeDo ndExec
    rw [if_neg hd]
    rcases hv.kind with ⟨hk, _⟩ | hk
    · rw [if_pos hk, if_pos hk]
      have hlt : v.at_.toNat < N.words.length := by omega
      have : (N.words.drop v.at_.toNat).take (1 : Int).toNat = [N.words.getD v.at_.toNat 0] := by
        rw [List.drop_eq_getElem_cons hlt, List.getD_eq_getElem?_getD, List.getElem?_eq_getElem hlt]; rfl
      simp only [this]
    · have hk1 : ¬ v.kind = 1 := by omega
      have hk2 : ¬ v.kind = 2 := by omega
      rw [if_neg hk1, if_neg hk1, if_neg hk2]

/-- Lanes that a batch has not touched. -/
theorem postLane_ne {ls : List PL} {k i : Nat} {v : Vb} (h : v.node.toNat ≠ i) : (postLane ls k v)[i]? = ls[i]? := by
  unfold postLane
  split
  · rw [List.getElem?_set_ne h]
  · rfl
theorem pp_get (vs : List Vb) : ∀ (ls : List PL) (k i : Nat), (∀ v ∈ vs, v.node.toNat ≠ i) → (pPosted ls k vs)[i]? = ls[i]? := by
  induction vs with
  | nil => intro ls k i _; rfl
  | cons v tl ih =>
    intro ls k i h
    rw [pPosted, ih _ _ _ (fun x hx => h x (List.mem_cons_of_mem _ hx)), postLane_ne (h v List.mem_cons_self)]
theorem postLane_set {ls : List PL} {k i : Nat} {v : Vb} {x : PL} (h : v.node.toNat ≠ i) : postLane (ls.set i x) k v = (postLane ls k v).set i x := by
  unfold postLane
  rw [List.getElem?_set_ne (Ne.symm h)]
  split
  · rw [List.set_comm _ _ (Ne.symm h)]
  · rfl
theorem pp_set (vs : List Vb) : ∀ (ls : List PL) (k i : Nat) (x : PL), (∀ v ∈ vs, v.node.toNat ≠ i) → pPosted (ls.set i x) k vs = (pPosted ls k vs).set i x := by
  induction vs with
  | nil => intro ls k i x _; rfl
  | cons v tl ih =>
    intro ls k i x h
    rw [pPosted, pPosted, postLane_set (h v List.mem_cons_self), ih _ _ _ _ (fun y hy => h y (List.mem_cons_of_mem _ hy))]
theorem postLane_len (ls : List PL) (k : Nat) (v : Vb) : (postLane ls k v).length = ls.length := by
  unfold postLane; split <;> simp
theorem pp_len (vs : List Vb) : ∀ (ls : List PL) (k : Nat), (pPosted ls k vs).length = ls.length := by
  induction vs with
  | nil => intro ls k; rfl
  | cons v tl ih => intro ls k; rw [pPosted, ih, postLane_len]

/-- The first choice. -/
theorem chL_nil (c : Nat) (ls : List PL) : ∀ j, (∀ l ∈ ls, l.p.vs = []) → chL c j ls = [] := by
  induction ls with
  | nil => intro j _; rfl
  | cons l tl ih => intro j h; rw [chL, h l List.mem_cons_self, ih _ (fun x hx => h x (List.mem_cons_of_mem _ hx))]; rfl
theorem chL_first (c : Nat) (ls : List PL) : ∀ (j i : Nat) (l : PL), (∀ (m : Nat) (x : PL), m < i → ls[m]? = some x → x.p.vs = []) → ls[i]? = some l → l.p.vs ≠ [] → ∃ rest, chL c j ls = (-1, (c : Int), ((j + i : Nat) : Int)) :: rest := by
  induction ls with
  | nil => intro j i l _ h; simp at h
  | cons x tl ih =>
    intro j i l h1 h2 h3
    cases i with
    | zero =>
      simp only [List.getElem?_cons_zero, Option.some.injEq] at h2
      subst h2
      refine ⟨chL c (j + 1) tl, ?_⟩
      rw [chL]
      cases hv : x.p.vs with
      | nil => exact absurd hv h3
      | cons a b => rfl
    | succ i =>
      rw [List.getElem?_cons_succ] at h2
      obtain ⟨rest, hr⟩ := ih (j + 1) i l (fun m y hm hy => h1 (m + 1) y (by omega) (by simpa using hy)) h2 h3
      refine ⟨rest, ?_⟩
      rw [chL, h1 0 x (by omega) rfl, hr]
      simp only [List.isEmpty_nil, if_true, List.nil_append, List.cons.injEq, Prod.mk.injEq, true_and, and_true]
      omega
def QuietC (C : PC) : Prop := ∀ l ∈ C.ls, l.p.vs = []
theorem chCs_nil (cs : List PC) : ∀ i, (∀ C ∈ cs, QuietC C) → chCs i cs = [] := by
  induction cs with
  | nil => intro i _; rfl
  | cons C tl ih => intro i h; rw [chCs, chL_nil _ _ _ (h C List.mem_cons_self), ih _ (fun x hx => h x (List.mem_cons_of_mem _ hx))]; rfl
theorem chCs_first (cs : List PC) : ∀ (i c : Nat) (C : PC), (∀ (m : Nat) (x : PC), m < c → cs[m]? = some x → QuietC x) → cs[c]? = some C → ∃ rest, chCs i cs = chL (i + c) 0 C.ls ++ rest := by
  induction cs with
  | nil => intro i c C _ h; simp at h
  | cons x tl ih =>
    intro i c C h1 h2
    cases c with
    | zero =>
      simp only [List.getElem?_cons_zero, Option.some.injEq] at h2
      subst h2
      exact ⟨chCs (i + 1) tl, rfl⟩
    | succ c =>
      rw [List.getElem?_cons_succ] at h2
      obtain ⟨rest, hr⟩ := ih (i + 1) c C (fun m y hm hy => h1 (m + 1) y (by omega) (by simpa using hy)) h2
      refine ⟨rest, ?_⟩
      rw [chCs, chL_nil _ _ _ (h1 0 x (by omega) rfl), List.nil_append, hr]
      rw [show i + 1 + c = i + (c + 1) by omega]

def freshLs (n : Nat) (c inc : Int) : List PL := (List.range n).map (fun (i : Nat) => ⟨freshPP c inc i, []⟩)
theorem freshLs_get (n : Nat) (c inc : Int) (i : Nat) (h : i < n) : (freshLs n c inc)[i]? = some ⟨freshPP c inc i, []⟩ := by simp [freshLs, h]
theorem freshLs_quiet {n : Nat} {c inc : Int} : ∀ l ∈ freshLs n c inc, l.p.vs = [] := by
  intro l hl
  simp only [freshLs, List.mem_map] at hl
  obtain ⟨i, _, rfl⟩ := hl
  rfl

/-- The nodes and the replies behind a batch. -/
def doAll : List Nd → List Vb → List Nd × List Dn
  | ns, [] => (ns, [])
  | ns, v :: tl => ((doAll (ns.set v.node.toNat (nodeDo (ns.getD v.node.toNat ⟨[], true⟩) v).1) tl).1, (nodeDo (ns.getD v.node.toNat ⟨[], true⟩) v).2 :: (doAll (ns.set v.node.toNat (nodeDo (ns.getD v.node.toNat ⟨[], true⟩) v).1) tl).2)
theorem doAll_len (vs : List Vb) : ∀ ns, (doAll ns vs).1.length = ns.length ∧ (doAll ns vs).2.length = vs.length := by
  induction vs with
  | nil => intro ns; exact ⟨rfl, rfl⟩
  | cons v tl ih => intro ns; obtain ⟨h1, h2⟩ := ih (ns.set v.node.toNat (nodeDo (ns.getD v.node.toNat ⟨[], true⟩) v).1); simp only [doAll, h1, h2, List.length_cons, List.length_set]; exact ⟨trivial, trivial⟩
/-- Rising nodes. -/
def Rise : List Vb → Prop
  | [] => True
  | v :: tl => (∀ x ∈ tl, v.node.toNat < x.node.toNat) ∧ Rise tl
/-- Client c in the middle of a batch: the replies ds are there, the verbs vs are not yet executed. -/
def midC (n : Nat) (c inc : Int) (vs : List Vb) (ds : List Dn) (tr po : Int) : PC := ⟨true, inc, pPosted (freshLs n c inc) ds.length vs, ds ++ List.replicate vs.length ⟨0, []⟩, vs.length, tr, po⟩
def midP (P : PF) (c : Nat) (inc : Int) (ns : List Nd) (vs : List Vb) (ds : List Dn) (tr po : Int) : PF := { P with ns := ns, cs := P.cs.set c (midC P.ns.length c inc vs ds tr po) }
/-- Nothing is pending anywhere but at client c. -/
structure Still (P : PF) (c : Nat) : Prop where
  lt : c < P.cs.length
  os : P.os = []
  cs : ∀ (i : Nat) (C : PC), i ≠ c → P.cs[i]? = some C → QuietC C

theorem mid_step {P : PF} {c : Nat} {inc : Int} {ns : List Nd} {v : Vb} {vs : List Vb} {ds : List Dn} {tr po : Int} (hP : Still P c) (hl : ns.length = P.ns.length) (hs : ∀ x ∈ v :: vs, Sv P.ns.length x) (hr : Rise (v :: vs)) (hn : ∀ N ∈ ns, NdOk c inc N) (m : Nat) :
    pRunStep (midP P c inc ns (v :: vs) ds tr po) [] m = (midP P c inc (ns.set v.node.toNat (nodeDo (ns.getD v.node.toNat ⟨[], true⟩) v).1) vs (ds ++ [(nodeDo (ns.getD v.node.toNat ⟨[], true⟩) v).2]) tr po, true) := by
  have hv := hs v List.mem_cons_self
  obtain ⟨i, hi⟩ : ∃ i, i = v.node.toNat := ⟨_, rfl⟩
  have hin : i < P.ns.length := by rw [hi]; exact hv.nd1
  have hne : ∀ x ∈ vs, x.node.toNat ≠ i := fun x hx => by have := hr.1 x hx; omega
  obtain ⟨N, hN⟩ : ∃ N, ns[i]? = some N := ⟨ns[i]'(by omega), by simp [hl, hin]⟩
  have hNd : ns.getD i ⟨[], true⟩ = N := by rw [List.getD_eq_getElem?_getD, hN]; rfl
  rw [← hi, hNd]
  have hNok := hn N (List.mem_of_getElem? hN)
  obtain ⟨fl, hfl⟩ : ∃ x, x = freshLs P.ns.length c inc := ⟨_, rfl⟩
  obtain ⟨l', hl'⟩ : ∃ l' : PL, l' = ⟨{ freshPP c inc i with vs := [v] }, [(ds.length : Int)]⟩ := ⟨_, rfl⟩
  have hfi : fl[i]? = some ⟨freshPP c inc i, []⟩ := by rw [hfl]; exact freshLs_get _ _ _ i hin
  have hpost : pPosted fl ds.length (v :: vs) = (pPosted fl (ds.length + 1) vs).set i l' := by
    rw [pPosted]
    have : postLane fl ds.length v = fl.set i l' := by
      unfold postLane
      rw [← hi, hfi, hl']
      rfl
    rw [this, pp_set _ _ _ _ _ hne]
  have hgi : (pPosted fl (ds.length + 1) vs)[i]? = some ⟨freshPP c inc i, []⟩ := by rw [pp_get _ _ _ _ hne, hfi]
  have hil : i < (pPosted fl (ds.length + 1) vs).length := (List.getElem?_eq_some_iff.1 hgi).1
  have hgl : (pPosted fl ds.length (v :: vs))[i]? = some l' := by rw [hpost, List.getElem?_set_self hil]
  have hcs : (midP P c inc ns (v :: vs) ds tr po).cs[c]? = some (midC P.ns.length c inc (v :: vs) ds tr po) := by
    simp only [midP]; rw [List.getElem?_set_self hP.lt]
  have hls : (midC P.ns.length c inc (v :: vs) ds tr po).ls = pPosted fl ds.length (v :: vs) := by rw [hfl]; rfl
  obtain ⟨r1, hr1⟩ := chL_first (c := c) (pPosted fl ds.length (v :: vs)) 0 i l' (fun m x hm hx => by
    have : (pPosted fl ds.length (v :: vs))[m]? = fl[m]? := pp_get _ _ _ _ (fun y hy => by
      rcases List.mem_cons.1 hy with rfl | hy
      · omega
      · have := hr.1 y hy; omega)
    rw [this] at hx
    have hm2 := List.mem_of_getElem? hx
    rw [hfl] at hm2
    exact freshLs_quiet x hm2) hgl (by rw [hl']; simp)
  obtain ⟨r2, hr2⟩ := chCs_first (midP P c inc ns (v :: vs) ds tr po).cs 0 c _ (fun m x hm hx => by
    simp only [midP] at hx
    rw [List.getElem?_set_ne (by omega)] at hx
    exact hP.cs m x (by omega) hx) hcs
  have hch : ∃ rest, pChoices (midP P c inc ns (v :: vs) ds tr po) = (-1, (c : Int), (i : Int)) :: rest := by
    refine ⟨r1 ++ r2 ++ chO 0 P.os, ?_⟩
    unfold pChoices
    rw [hr2, hls, Nat.zero_add, hr1, Nat.zero_add]
    simp [midP]
  obtain ⟨rest, hch⟩ := hch
  unfold pRunStep
  rw [hch, if_neg (by simp)]
  simp only [List.getElem?_nil, List.getD_cons_zero]
  have hst : pStep (midP P c inc ns (v :: vs) ds tr po) (-1, (c : Int), (i : Int)) = pStepLive (midP P c inc ns (v :: vs) ds tr po) c i := by
    unfold pStep; rw [if_neg (by simp)]; rfl
  rw [hst]
  have hsp : pStepPair l'.p N = (pDone l'.p, (nodeDo N v).1, some (nodeDo N v).2) := by
    rw [hl']
    exact step_simple (v := v) (tl := []) rfl rfl rfl hv hNok
  have hns : (midP P c inc ns (v :: vs) ds tr po).ns[i]? = some N := hN
  have hdone : pDone l'.p = freshPP c inc i := by rw [hl']; rfl
  unfold pStepLive
  rw [hcs, hns]
  simp only
  rw [hls, hgl]
  simp only
  rw [hsp]
  simp only
  rw [hpost, List.set_set, hdone]
  have hback : (pPosted fl (ds.length + 1) vs).set i ⟨freshPP c inc i, l'.ps.tail⟩ = pPosted fl (ds.length + 1) vs := by
    rw [hl']
    apply List.ext_getElem?
    intro q
    by_cases hq : i = q
    · subst hq; rw [List.getElem?_set_self hil, hgi]; rfl
    · rw [List.getElem?_set_ne hq]
  rw [hback]
  simp only [midP, midC, List.set_set, hfl, List.length_append, List.length_singleton, List.length_cons, hl', List.headD_cons, Int.toNat_natCast]
  have hds : (ds ++ List.replicate (vs.length + 1) (⟨0, []⟩ : Dn)).set ds.length (nodeDo N v).2 = ds ++ [(nodeDo N v).2] ++ List.replicate vs.length ⟨0, []⟩ := by
    rw [List.replicate_succ, List.set_append_right _ _ (Nat.le_refl _), Nat.sub_self, List.set_cons_zero, List.append_assoc]; rfl
  rw [hds]
  have hw : ((vs.length + 1 : Nat) : Int) - 1 = (vs.length : Nat) := by omega
  rw [hw]
  simp only [List.length_nil, Nat.zero_add]
theorem mid_run {P : PF} {c : Nat} {inc : Int} {tr po : Int} (t : PT) (ht : t.client = c) (hP : Still P c) (vs : List Vb) : ∀ (ns : List Nd) (ds : List Dn) (k m : Nat), ns.length = P.ns.length → (∀ x ∈ vs, Sv P.ns.length x) → Rise vs → (∀ N ∈ ns, NdOk c inc N) → 0 ≤ (c : Int) →
    pLoop [] (vs.length + k) m (midP P c inc ns vs ds tr po) [t] = pLoop [] k (m + vs.length) (midP P c inc (doAll ns vs).1 [] (ds ++ (doAll ns vs).2) tr po) [t] ∧ ∀ N ∈ (doAll ns vs).1, NdOk c inc N := by
  induction vs with
  | nil => intro ns ds k m hl hs hr hn hc; simp [doAll]; exact hn
  | cons v tl ih =>
    intro ns ds k m hl hs hr hn hc
    have hv := hs v List.mem_cons_self
    have hidle : pTurns (midP P c inc ns (v :: tl) ds tr po) [t] = (midP P c inc ns (v :: tl) ds tr po, [t]) := by
      have : pTurn (midP P c inc ns (v :: tl) ds tr po) t = (midP P c inc ns (v :: tl) ds tr po, t) := by
        unfold pTurn
        rw [ht, Int.toNat_natCast]
        have hcs : (midP P c inc ns (v :: tl) ds tr po).cs[c]? = some (midC P.ns.length c inc (v :: tl) ds tr po) := by
          simp only [midP]; rw [List.getElem?_set_self hP.lt]
        rw [hcs]
        simp only
        rw [if_pos (.inr (.inr (by simp only [midC, List.length_cons]; omega)))]
      simp only [pTurns, this]
    have hst := mid_step (tr := tr) (po := po) (ds := ds) hP hl hs hr hn m
    have hn2 : ∀ N ∈ ns.set v.node.toNat (nodeDo (ns.getD v.node.toNat ⟨[], true⟩) v).1, NdOk c inc N := by
      intro N hN
      rcases mem_set hN with hN | rfl
      · exact hn N hN
      · have hlt : v.node.toNat < ns.length := by rw [hl]; exact hv.nd1
        rw [List.getD_eq_getElem?_getD, List.getElem?_eq_getElem hlt]
        exact nodeDo_ok (hn _ (List.getElem_mem hlt)) hc hv
    obtain ⟨h1, h2⟩ := ih (ns.set v.node.toNat (nodeDo (ns.getD v.node.toNat ⟨[], true⟩) v).1) (ds ++ [(nodeDo (ns.getD v.node.toNat ⟨[], true⟩) v).2]) k (m + 1) (by rw [List.length_set]; exact hl) (fun x hx => hs x (List.mem_cons_of_mem _ hx)) hr.2 hn2 hc
    refine ⟨?_, by rw [doAll]; exact h2⟩
    rw [show (v :: tl).length + k = (tl.length + k) + 1 by simp only [List.length_cons]; omega, pLoop, hidle]
    simp only
    rw [hst]
    simp only [if_true]
    rw [h1]
    simp only [doAll, List.append_assoc, List.singleton_append, List.length_cons]
    rw [show m + 1 + tl.length = m + (tl.length + 1) by omega]
end Go.Proofs.YtaojipegpjolcaaGreat
set_option linter.unusedVariables false
set_option linter.unusedSimpArgs false
namespace Go.Proofs.YtaojipegpjolcaaGreat
open Go.RowKit

/-- Rising nodes of acceptors. -/
def RiseA : List Ac → Prop
  | [] => True
  | a :: tl => (∀ x ∈ tl, a.1 < x.1) ∧ RiseA tl
theorem RiseA.snoc {l : List Ac} {a : Ac} (h : RiseA l) (h2 : ∀ x ∈ l, x.1 < a.1) : RiseA (l ++ [a]) := by
  induction l with
  | nil => exact ⟨fun x hx => (by cases hx), trivial⟩
  | cons b tl ih =>
    refine ⟨fun x hx => ?_, ih h.2 (fun x hx => h2 x (List.mem_cons_of_mem _ hx))⟩
    rcases List.mem_append.1 hx with hx | hx
    · exact h.1 x hx
    · rw [List.mem_singleton] at hx; rw [hx]; exact h2 b List.mem_cons_self
theorem RiseA.filter {l : List Ac} (h : RiseA l) (p : Ac → Bool) : RiseA (l.filter p) := by
  induction l with
  | nil => trivial
  | cons a tl ih =>
    rw [List.filter_cons]
    split
    · exact ⟨fun x hx => h.1 x (List.mem_filter.1 hx).1, ih h.2⟩
    · exact ih h.2
theorem RiseA.get {l : List Ac} (h : RiseA l) : ∀ {i k : Nat} {a b : Ac}, i < k → l[i]? = some a → l[k]? = some b → a.1 < b.1 := by
  induction l with
  | nil => intro i k a b _ h1; simp at h1
  | cons x tl ih =>
    intro i k a b hik h1 h2
    cases k with
    | zero => omega
    | succ k =>
      rw [List.getElem?_cons_succ] at h2
      cases i with
      | zero =>
        simp only [List.getElem?_cons_zero, Option.some.injEq] at h1
        subst h1
        exact h.1 b (List.mem_of_getElem? h2)
      | succ i =>
        rw [List.getElem?_cons_succ] at h1
        exact ih h.2 (by omega) h1 h2
theorem rdFold_rise (ds : List Dn) : ∀ s : List Ac × Int × Nat, RiseA s.1 → (∀ a ∈ s.1, a.1 < (s.2.2 : Int)) → RiseA (ds.foldl rdStep s).1 := by
  induction ds with
  | nil => intro s h _; exact h
  | cons d tl ih =>
    intro s h1 h2
    rw [List.foldl_cons]
    refine ih _ ?_ ?_
    · unfold rdStep; split
      · exact h1.snoc h2
      · exact h1
    · unfold rdStep; split
      · intro a ha
        simp only at ha ⊢
        rcases List.mem_append.1 ha with ha | ha
        · have := h2 a ha; omega
        · rw [List.mem_singleton] at ha; rw [ha]; simp only; omega
      · intro a ha; simp only at ha ⊢; have := h2 a ha; omega
theorem swFold_rise (nx : Int → Int) (l : List Ac) (hl : RiseA l) (ds : List Dn) : ∀ s : Sw, RiseA s.sw → (∀ a ∈ s.sw, ∀ (k : Nat) (b : Ac), s.i ≤ k → l[k]? = some b → a.1 < b.1) → s.i + ds.length ≤ l.length → RiseA (ds.foldl (swStep nx l) s).sw := by
  induction ds with
  | nil => intro s h _ _; exact h
  | cons d tl ih =>
    intro s h1 h2 hn
    rw [List.foldl_cons]
    simp only [List.length_cons] at hn
    have hi : s.i < l.length := by omega
    have e : l.getD s.i (0, 0) = l[s.i] := by rw [List.getD_eq_getElem?_getD, List.getElem?_eq_getElem hi]; rfl
    have e2 : l[s.i]? = some l[s.i] := List.getElem?_eq_getElem hi
    refine ih _ ?_ ?_ ?_
    · unfold swStep; split
      · exact h1
      · split
        · exact h1
        · simp only [e]
          exact h1.snoc (fun x hx => by have q := h2 x hx s.i l[s.i] (Nat.le_refl _) e2; exact q)
    · unfold swStep; split
      · intro a ha k b hk hb; exact h2 a ha k b (by simp only at hk; omega) hb
      · split
        · intro a ha k b hk hb; exact h2 a ha k b (by simp only at hk; omega) hb
        · intro a ha k b hk hb
          simp only at hk
          rcases List.mem_append.1 ha with ha | ha
          · exact h2 a ha k b (by omega) hb
          · rw [List.mem_singleton] at ha
            rw [ha, e]
            have q := hl.get (a := l[s.i]) (show s.i < k by omega) e2 hb
            exact q
    · unfold swStep; split
      · simp only; omega
      · split <;> simp only <;> omega
theorem sw_rise {j : PJ} {nx : Int → Int} {l : List Ac} (h : RiseA l) (h0 : ∀ a ∈ l, 0 ≤ a.1) : Rise (swAsk j nx l) := by
  induction l with
  | nil => trivial
  | cons a tl ih =>
    refine ⟨fun x hx => ?_, ih h.2 (fun x hx => h0 x (List.mem_cons_of_mem _ hx))⟩
    obtain ⟨b, hb, rfl⟩ := List.mem_map.1 hx
    have := h.1 b hb
    have := h0 a List.mem_cons_self
    simp only [swVerb]
    omega
theorem rdAsk_rise (j : PJ) : Rise (rdAsk j) := by
  unfold rdAsk
  obtain ⟨n, hn⟩ : ∃ n, n = j.nodes.toNat := ⟨_, rfl⟩
  rw [← hn, List.range_eq_range']
  have : ∀ (n s : Nat), Rise ((List.range' s n).map (rdVerb j)) := by
    intro n
    induction n with
    | zero => intro s; trivial
    | succ n ih =>
      intro s
      rw [List.range'_succ, List.map_cons]
      refine ⟨fun x hx => ?_, ih (s + 1)⟩
      obtain ⟨i, hi, rfl⟩ := List.mem_map.1 hx
      have := (List.mem_range'.1 hi)
      simp only [rdVerb]
      omega
  exact this n 0
theorem pNext_rise (j : PJ) (gs : List (List Dn)) (hn : 0 ≤ j.nodes) : Rise (pNext j gs).1 := by
  have key : ∀ q, (pRun j (pBalV j.round j.client) gs).2 = .ask q → Rise q := by
    intro q hq
    unfold pRun at hq
    obtain ⟨r1, hr1⟩ : ∃ r, r = tBatch gs 0 (rdAsk j) := ⟨_, rfl⟩
    rw [← hr1] at hq
    rcases r1 with ⟨k1 | q1 | _, d1⟩
    · simp only at hq
      obtain ⟨hl1, -⟩ := tBatch_len hr1.symm
      rw [rdAsk_len] at hl1
      have hnod : ∀ a ∈ (rdFold 0 d1).1, 0 ≤ a.1 ∧ a.1 < j.nodes := rdFold_nodes j.nodes d1 ([], 0, 0) (fun a ha => by cases ha) (by simp only; omega)
      have hri : RiseA (rdFold 0 d1).1 := rdFold_rise d1 ([], 0, 0) trivial (fun a ha => by cases ha)
      split at hq
      · simp at hq
      · unfold pRun2 at hq
        have hcand : ∀ a ∈ pCands (pBalV j.round j.client) (rdFold 0 d1).1, 0 ≤ a.1 ∧ a.1 < j.nodes := fun a ha => hnod a (List.mem_filter.1 ha).1
        have hcr : RiseA (pCands (pBalV j.round j.client) (rdFold 0 d1).1) := hri.filter _
        obtain ⟨cs, hcs⟩ : ∃ x, x = pCands (pBalV j.round j.client) (rdFold 0 d1).1 := ⟨_, rfl⟩
        rw [← hcs] at hq hcand hcr
        obtain ⟨r2, hr2⟩ : ∃ r, r = tBatch gs k1 (swAsk j (pPromise (pBalV j.round j.client)) cs) := ⟨_, rfl⟩
        rw [← hr2] at hq
        rcases r2 with ⟨k2 | q2 | _, d2⟩
        · simp only at hq
          obtain ⟨hl2, -⟩ := tBatch_len hr2.symm
          simp only [swAsk, List.length_map] at hl2
          have hsw : ∀ a ∈ (swFold (pPromise (pBalV j.round j.client)) cs (rdFold 0 d1).2.1 d2).sw, 0 ≤ a.1 ∧ a.1 < j.nodes := swFold_nodes j.nodes _ cs hcand d2 ⟨0, [], _, 0⟩ (fun a ha => by cases ha) (by simp only; omega)
          have hswr : RiseA (swFold (pPromise (pBalV j.round j.client)) cs (rdFold 0 d1).2.1 d2).sw := swFold_rise _ cs hcr d2 ⟨0, [], _, 0⟩ trivial (fun a ha => by cases ha) (by simp only; omega)
          split at hq
          · simp at hq
          · unfold pRun3 at hq
            obtain ⟨s2, hs2⟩ : ∃ x, x = swFold (pPromise (pBalV j.round j.client)) cs (rdFold 0 d1).2.1 d2 := ⟨_, rfl⟩
            rw [← hs2] at hq hsw hswr
            obtain ⟨r3, hr3⟩ : ∃ r, r = tBatch gs k2 (swAsk j (pAccept (pBalV j.round j.client) (pVal j.value s2.sw).1) s2.sw) := ⟨_, rfl⟩
            rw [← hr3] at hq
            rcases r3 with ⟨k3 | q3 | _, d3⟩
            · simp only at hq
              split at hq <;> simp at hq
            · simp only [Res.ask.injEq] at hq
              rw [← hq, tBatch_ask hr3.symm]
              exact sw_rise hswr (fun a ha => (hsw a ha).1)
            · simp at hq
        · simp only [Res.ask.injEq] at hq
          rw [← hq, tBatch_ask hr2.symm]
          exact sw_rise hcr (fun a ha => (hcand a ha).1)
        · simp at hq
    · simp only [Res.ask.injEq] at hq
      rw [← hq, tBatch_ask hr1.symm]
      exact rdAsk_rise j
    · simp at hq
  unfold pNext
  obtain ⟨r, hr⟩ : ∃ r, r = pRun j (pBalV j.round j.client) gs := ⟨_, rfl⟩
  rw [← hr] at key ⊢
  rcases r with ⟨o, k | q | _⟩
  · simp only
    split <;> trivial
  · exact key q rfl
  · trivial
theorem rise_len (vs : List Vb) : ∀ n, Rise vs → (∀ v ∈ vs, v.node.toNat < n) → vs.length ≤ n := by
  have key : ∀ (vs : List Vb) (a n : Nat), Rise vs → (∀ v ∈ vs, a ≤ v.node.toNat ∧ v.node.toNat < n) → a ≤ n → a + vs.length ≤ n := by
    intro vs
    induction vs with
    | nil => intro a n _ _ h; simpa using h
    | cons v tl ih =>
      intro a n hr hb _
      have hv := hb v List.mem_cons_self
      have := ih (v.node.toNat + 1) n hr.2 (fun x hx => ⟨hr.1 x hx, (hb x (List.mem_cons_of_mem _ hx)).2⟩) (by omega)
      simp only [List.length_cons]
      omega
  intro n h1 h2
  have := key vs 0 n h1 (fun v hv => ⟨Nat.zero_le _, h2 v hv⟩) (Nat.zero_le _)
  omega

/-- A proposer alone: its batches one after another. -/
def aRun (j : PJ) : Nat → List Nd → List (List Dn) → List Nd × List (List Dn)
  | 0, ns, gs => (ns, gs)
  | k + 1, ns, gs => if (pNext j gs).2.2 = true then (ns, gs) else aRun j k (doAll ns (pNext j gs).1).1 (gs ++ [(doAll ns (pNext j gs).1).2])
theorem aRun_len (j : PJ) (k : Nat) : ∀ ns gs, (aRun j k ns gs).1.length = ns.length ∧ gs.length ≤ (aRun j k ns gs).2.length ∧ (aRun j k ns gs).2.length ≤ gs.length + k := by
  induction k with
  | zero => intro ns gs; exact ⟨rfl, Nat.le_refl _, Nat.le_refl _⟩
  | succ k ih =>
    intro ns gs
    unfold aRun
    split
    · exact ⟨rfl, Nat.le_refl _, by simp only; omega⟩
    · obtain ⟨h1, h2, h3⟩ := ih (doAll ns (pNext j gs).1).1 (gs ++ [(doAll ns (pNext j gs).1).2])
      simp only [List.length_append, List.length_singleton] at h2 h3
      refine ⟨?_, by omega, by omega⟩
      rw [h1, (doAll_len _ _).1]
theorem pNext_ask_ne {j : PJ} {gs : List (List Dn)} (h : (pNext j gs).2.2 = false) : (pNext j gs).1 ≠ [] := by
  have tb : ∀ (k : Nat) (l q : List Vb) (d : List Dn), tBatch gs k l = (.ask q, d) → q ≠ [] := by
    intro k l q d hh
    unfold tBatch at hh
    split at hh
    · simp at hh
    · rename_i hl
      split at hh
      · simp only [Prod.mk.injEq, Res.ask.injEq] at hh
        rw [← hh.1]; intro e; rw [e] at hl; simp at hl
      · split at hh <;> simp at hh
  have key : ∀ q, (pRun j (pBalV j.round j.client) gs).2 = .ask q → q ≠ [] := by
    intro q hq
    unfold pRun at hq
    obtain ⟨r1, hr1⟩ : ∃ r, r = tBatch gs 0 (rdAsk j) := ⟨_, rfl⟩
    rw [← hr1] at hq
    rcases r1 with ⟨k1 | q1 | _, d1⟩
    · simp only at hq
      split at hq
      · simp at hq
      · unfold pRun2 at hq
        obtain ⟨r2, hr2⟩ : ∃ r, r = tBatch gs k1 (swAsk j (pPromise (pBalV j.round j.client)) (pCands (pBalV j.round j.client) (rdFold 0 d1).1)) := ⟨_, rfl⟩
        rw [← hr2] at hq
        rcases r2 with ⟨k2 | q2 | _, d2⟩
        · simp only at hq
          split at hq
          · simp at hq
          · unfold pRun3 at hq
            obtain ⟨s2, hs2⟩ : ∃ x, x = swFold (pPromise (pBalV j.round j.client)) (pCands (pBalV j.round j.client) (rdFold 0 d1).1) (rdFold 0 d1).2.1 d2 := ⟨_, rfl⟩
            rw [← hs2] at hq
            obtain ⟨r3, hr3⟩ : ∃ r, r = tBatch gs k2 (swAsk j (pAccept (pBalV j.round j.client) (pVal j.value s2.sw).1) s2.sw) := ⟨_, rfl⟩
            rw [← hr3] at hq
            rcases r3 with ⟨k3 | q3 | _, d3⟩
            · simp only at hq
              split at hq <;> simp at hq
            · simp only [Res.ask.injEq] at hq
              rw [← hq]; exact tb _ _ _ _ hr3.symm
            · simp at hq
        · simp only [Res.ask.injEq] at hq
          rw [← hq]; exact tb _ _ _ _ hr2.symm
        · simp at hq
    · simp only [Res.ask.injEq] at hq
      rw [← hq]; exact tb _ _ _ _ hr1.symm
    · simp at hq
  unfold pNext at h ⊢
  obtain ⟨r, hr⟩ : ∃ r, r = pRun j (pBalV j.round j.client) gs := ⟨_, rfl⟩
  rw [← hr] at key h ⊢
  rcases r with ⟨o, k | q | _⟩
  · simp only at h
    split at h <;> simp at h
  · exact key q rfl
  · simp at h

theorem mid_idle {P : PF} {c : Nat} {inc : Int} {ns : List Nd} {vs : List Vb} {ds : List Dn} {tr po : Int} (hP : Still P c) (t : PT) (ht : t.client = c) (h : t.over = true ∨ vs ≠ []) : pTurn (midP P c inc ns vs ds tr po) t = (midP P c inc ns vs ds tr po, t) := by
  unfold pTurn
  rw [ht, Int.toNat_natCast]
  have hcs : (midP P c inc ns vs ds tr po).cs[c]? = some (midC P.ns.length c inc vs ds tr po) := by
    simp only [midP]; rw [List.getElem?_set_self hP.lt]
  rw [hcs]
  simp only
  rcases h with h | h
  · rw [if_pos (.inl h)]
  · have : 0 < vs.length := List.length_pos_iff.2 h
    rw [if_pos (.inr (.inr (by simp only [midC]; omega)))]
theorem mid_turn {P : PF} {c : Nat} {inc : Int} {ns : List Nd} {ds : List Dn} {tr po : Int} (hP : Still P c) (t : PT) (ht : t.client = c) (ho : t.over = false) (gs : List (List Dn)) (hgs : gs = if ds = [] then t.gots else t.gots ++ [ds]) (hgl : gs.length ≤ 200) :
    pTurn (midP P c inc ns [] ds tr po) t =
      if (pNext t.job gs).2.2 = true then (midP P c inc ns [] [] tr po, { t with gots := gs, over := true, code := (pNext t.job gs).2.1.code, value := (pNext t.job gs).2.1.value })
      else (midP P c inc ns (pNext t.job gs).1 [] (wrap64 (tr + 1)) (wrap64 (po + ((pNext t.job gs).1.length : Nat))), { t with gots := gs, over := false, code := (pNext t.job gs).2.1.code, value := (pNext t.job gs).2.1.value }) := by
  have hcs : (midP P c inc ns [] ds tr po).cs[c]? = some (midC P.ns.length c inc [] ds tr po) := by
    simp only [midP]; rw [List.getElem?_set_self hP.lt]
  have hds : (midC P.ns.length c inc [] ds tr po).ds = ds := by simp [midC]
  have hg : gotsTaken (midC P.ns.length c inc [] ds tr po) t = gs := by unfold gotsTaken; rw [hds, hgs]
  have htk : pTaken (midP P c inc ns [] ds tr po) c (midC P.ns.length c inc [] ds tr po) = midP P c inc ns [] [] tr po := by
    unfold pTaken
    rw [hds]
    split
    · rename_i e; rw [e]
    · unfold pTake
      rw [hcs]
      simp only [midP, List.set_set, midC, List.length_nil, pPosted, List.nil_append, List.replicate_zero, List.append_nil]
  unfold pTurn
  rw [ht, Int.toNat_natCast, hcs]
  simp only
  rw [if_neg (by rw [ho]; simp [midC]), hg, if_neg (by omega), htk]
  by_cases hov : (pNext t.job gs).2.2 = true
  · rw [if_pos hov, if_pos hov]
  · rw [if_neg hov, if_neg hov]
    have hcs0 : (midP P c inc ns [] [] tr po).cs[c]? = some (midC P.ns.length c inc [] [] tr po) := by
      simp only [midP]; rw [List.getElem?_set_self hP.lt]
    congr 1
    unfold pPost
    rw [hcs0]
    simp only [midP, List.set_set, midC, List.length_nil, pPosted, List.nil_append]
theorem mid_stop {P : PF} {c : Nat} {inc : Int} {ns : List Nd} {ds : List Dn} {tr po : Int} (hP : Still P c) (m : Nat) : pRunStep (midP P c inc ns [] ds tr po) [] m = (midP P c inc ns [] ds tr po, false) := by
  have : pChoices (midP P c inc ns [] ds tr po) = [] := by
    unfold pChoices
    have h1 : chCs 0 (midP P c inc ns [] ds tr po).cs = [] := by
      apply chCs_nil
      intro C hC
      obtain ⟨i, hi⟩ := List.getElem?_of_mem hC
      simp only [midP] at hi
      by_cases e : c = i
      · subst e
        rw [List.getElem?_set_self hP.lt] at hi
        cases hi
        exact fun l hl => freshLs_quiet l hl
      · rw [List.getElem?_set_ne e] at hi
        exact hP.cs i C (fun q => e q.symm) hi
    rw [h1]
    simp only [midP]
    rw [hP.os]; rfl
  unfold pRunStep
  rw [if_pos this]

theorem alone_loop {P : PF} {c : Nat} {inc : Int} (hP : Still P c) (j : PJ) (hj0 : 0 ≤ j.number) (hj1 : j.number ≤ 15) (hjn : j.nodes = (P.ns.length : Nat)) (k : Nat) :
    ∀ (ns : List Nd) (ds : List Dn) (tr po : Int) (t : PT) (gs : List (List Dn)) (m q : Nat), ns.length = P.ns.length → (∀ N ∈ ns, NdOk c inc N) → t.client = c → t.job = j → t.over = false → (gs = if ds = [] then t.gots else t.gots ++ [ds]) → gs.length + k ≤ 200 → 0 ≤ tr → tr + k ≤ 1000000 →
    (pNext j (aRun j k ns gs).2).2.2 = true → P.ns.length * k + 1 ≤ m →
    (∃ po', pLoop [] m q (midP P c inc ns [] ds tr po) [t] = (midP P c inc (aRun j k ns gs).1 [] [] (tr + (((aRun j k ns gs).2.length : Nat) - (gs.length : Nat))) po', [{ t with gots := (aRun j k ns gs).2, over := true, code := (pNext j (aRun j k ns gs).2).2.1.code, value := (pNext j (aRun j k ns gs).2).2.1.value }])) ∧ ∀ N ∈ (aRun j k ns gs).1, NdOk c inc N := by
  have stop : ∀ (ns : List Nd) (ds : List Dn) (tr po : Int) (t : PT) (gs : List (List Dn)) (m q : Nat), t.client = c → t.job = j → t.over = false → (gs = if ds = [] then t.gots else t.gots ++ [ds]) → gs.length ≤ 200 → (pNext j gs).2.2 = true → 1 ≤ m →
      pLoop [] m q (midP P c inc ns [] ds tr po) [t] = (midP P c inc ns [] [] tr po, [{ t with gots := gs, over := true, code := (pNext j gs).2.1.code, value := (pNext j gs).2.1.value }]) := by
    intro ns ds tr po t gs m q htc htj hto hgs hgl hov hm
    obtain ⟨m, rfl⟩ : ∃ m', m = m' + 1 := ⟨m - 1, by omega⟩
    have h1 := mid_turn (inc := inc) (ns := ns) (tr := tr) (po := po) hP t htc hto gs hgs hgl
    rw [htj, if_pos hov] at h1
    have hts : pTurns (midP P c inc ns [] ds tr po) [t] = (midP P c inc ns [] [] tr po, [{ t with gots := gs, over := true, code := (pNext j gs).2.1.code, value := (pNext j gs).2.1.value }]) := by
      simp only [pTurns]; rw [h1, htj]
    rw [pLoop, hts, mid_stop hP]
    simp only [Bool.false_eq_true, if_false]
  induction k with
  | zero =>
    intro ns ds tr po t gs m q hl hn htc htj hto hgs hgl htr0 htr hov hm
    simp only [aRun] at hov ⊢
    refine ⟨⟨po, ?_⟩, hn⟩
    rw [stop ns ds tr po t gs m q htc htj hto hgs (by omega) hov (by omega)]
    rw [show tr + ((gs.length : Int) - (gs.length : Int)) = tr by omega]
  | succ k ih =>
    intro ns ds tr po t gs m q hl hn htc htj hto hgs hgl htr0 htr hov hm
    rw [aRun] at hov ⊢
    by_cases hov1 : (pNext j gs).2.2 = true
    · rw [if_pos hov1] at hov ⊢
      refine ⟨⟨po, ?_⟩, hn⟩
      rw [stop ns ds tr po t gs m q htc htj hto hgs (by omega) hov (by omega)]
      rw [show tr + ((gs.length : Int) - (gs.length : Int)) = tr by omega]
    · rw [if_neg hov1] at hov ⊢
      obtain ⟨ask, hask⟩ : ∃ x, x = (pNext j gs).1 := ⟨_, rfl⟩
      have hne : ask ≠ [] := by rw [hask]; exact pNext_ask_ne (by simpa using hov1)
      have hsv : ∀ v ∈ ask, Sv P.ns.length v := by
        rw [hask]
        intro v hv
        have := pNext_cons j gs (by omega) v hv
        rw [hjn] at this
        exact this.sv hj0 hj1
      have hri : Rise ask := by rw [hask]; exact pNext_rise j gs (by omega)
      have hal := rise_len ask P.ns.length hri (fun v hv => (hsv v hv).nd1)
      have h1 := mid_turn (inc := inc) (ns := ns) (tr := tr) (po := po) hP t htc hto gs hgs (by omega)
      rw [htj, if_neg hov1, ← hask] at h1
      obtain ⟨t1, ht1⟩ : ∃ x : PT, x = { t with gots := gs, over := false, code := (pNext j gs).2.1.code, value := (pNext j gs).2.1.value } := ⟨_, rfl⟩
      rw [← hask] at hov ⊢
      rw [htj] at ht1
      rw [show ({ kind := t.kind, client := t.client, job := j, gots := gs, over := false, bad := t.bad, code := (pNext j gs).2.1.code, value := (pNext j gs).2.1.value } : PT) = t1 by rw [ht1]] at h1
      have hid := mid_idle (inc := inc) (ns := ns) (vs := ask) (ds := []) (tr := wrap64 (tr + 1)) (po := wrap64 (po + (ask.length : Nat))) hP t1 (by rw [ht1]; exact htc) (.inr hne)
      obtain ⟨m, rfl⟩ : ∃ m', m = m' + 1 := ⟨m - 1, by omega⟩
      have hshift : pLoop [] (m + 1) q (midP P c inc ns [] ds tr po) [t] = pLoop [] (m + 1) q (midP P c inc ns ask [] (wrap64 (tr + 1)) (wrap64 (po + (ask.length : Nat)))) [t1] := by
        have e1 : pTurns (midP P c inc ns [] ds tr po) [t] = (midP P c inc ns ask [] (wrap64 (tr + 1)) (wrap64 (po + (ask.length : Nat))), [t1]) := by simp only [pTurns]; rw [h1]
        have e2 : pTurns (midP P c inc ns ask [] (wrap64 (tr + 1)) (wrap64 (po + (ask.length : Nat)))) [t1] = (midP P c inc ns ask [] (wrap64 (tr + 1)) (wrap64 (po + (ask.length : Nat))), [t1]) := by simp only [pTurns]; rw [hid]
        rw [pLoop, pLoop, e1, e2]
      have hmul : P.ns.length * (k + 1) = P.ns.length * k + P.ns.length := by rw [Nat.mul_add, Nat.mul_one]
      obtain ⟨m2, hm2⟩ : ∃ m2, m + 1 = ask.length + m2 := ⟨m + 1 - ask.length, by omega⟩
      obtain ⟨h2, h3⟩ := mid_run (P := P) (c := c) (inc := inc) (tr := wrap64 (tr + 1)) (po := wrap64 (po + (ask.length : Nat))) t1 (by rw [ht1]; exact htc) hP ask ns [] m2 q hl hsv hri hn (by omega)
      have hwr : wrap64 (tr + 1) = tr + 1 := Go.IntWalk.wrap64_in _ ⟨by omega, by omega⟩
      rw [hshift, hm2, h2, List.nil_append, hwr]
      have hdl := doAll_len ask ns
      have hdne : (doAll ns ask).2 ≠ [] := fun e => by
        have := hdl.2; rw [e] at this; exact hne (List.length_eq_zero_iff.1 this.symm)
      obtain ⟨⟨po', h4⟩, h5⟩ := ih (doAll ns ask).1 (doAll ns ask).2 (tr + 1) (wrap64 (po + (ask.length : Nat))) t1 (gs ++ [(doAll ns ask).2]) m2 (q + ask.length) (by rw [hdl.1]; exact hl) h3 (by rw [ht1]; exact htc) (by rw [ht1]) (by rw [ht1]) (by rw [if_neg hdne, ht1]) (by simp only [List.length_append, List.length_singleton]; omega) (by omega) (by omega) hov (by omega)
      refine ⟨⟨po', ?_⟩, h5⟩
      rw [h4]
      congr 1
      · congr 1
        simp only [List.length_append, List.length_singleton]
        omega
      · rw [ht1]
        simp only [htj]
theorem alone_drive {P : PF} {c : Nat} {inc : Int} (hP : Still P c) (j : PJ) (hj0 : 0 ≤ j.number) (hj1 : j.number ≤ 15) (hjn : j.nodes = (P.ns.length : Nat)) (hn5 : P.ns.length ≤ 5) (k : Nat) (hk : k ≤ 100) (tr po : Int) (hC : P.cs[c]? = some ⟨true, inc, freshLs P.ns.length c inc, [], 0, tr, po⟩) (t : PT) (hn : ∀ N ∈ P.ns, NdOk c inc N)
    (htc : t.client = c) (htj : t.job = j) (hto : t.over = false) (hg : t.gots = []) (htr0 : 0 ≤ tr) (htr : tr + k ≤ 1000000) (hov : (pNext j (aRun j k P.ns []).2).2.2 = true) :
    (∃ po', pDrive P [t] [] 20000 = (midP P c inc (aRun j k P.ns []).1 [] [] (tr + ((aRun j k P.ns []).2.length : Nat)) po', [{ t with gots := (aRun j k P.ns []).2, over := true, code := (pNext j (aRun j k P.ns []).2).2.1.code, value := (pNext j (aRun j k P.ns []).2).2.1.value }])) ∧ ∀ N ∈ (aRun j k P.ns []).1, NdOk c inc N := by
  have hm : P = midP P c inc P.ns [] [] tr po := by
    have : P.cs.set c (midC P.ns.length c inc [] [] tr po) = P.cs := by
      apply List.ext_getElem?
      intro i
      by_cases e : c = i
      · subst e; rw [List.getElem?_set_self hP.lt, hC]; rfl
      · rw [List.getElem?_set_ne e]
    simp only [midP, this]
  have hmul : P.ns.length * k ≤ 5 * 100 := Nat.mul_le_mul hn5 hk
  obtain ⟨⟨po', h1⟩, h2⟩ := alone_loop (inc := inc) hP j hj0 hj1 hjn k P.ns [] tr po t [] 20000 0 rfl hn htc htj hto (by rw [if_pos rfl, hg]) (by simp only [List.length_nil]; omega) htr0 htr hov (by omega)
  rw [← hm] at h1
  refine ⟨⟨po', ?_⟩, h2⟩
  unfold pDrive
  rw [h1]
  simp only [pTurns]
  rw [mid_idle hP _ (by exact htc) (.inl rfl)]
  simp only [List.length_nil, Int.natCast_zero, Int.sub_zero]
end Go.Proofs.YtaojipegpjolcaaGreat
set_option linter.unusedVariables false
set_option linter.unusedSimpArgs false
namespace Go.Proofs.YtaojipegpjolcaaGreat
open Go.RowKit

/-- The address of the consensus word, a node's word, its reply to a read. -/
def cAt (j : PJ) : Nat := (8 + j.number).toNat
def cWord (j : PJ) (N : Nd) : Int := N.words.getD (cAt j) 0
def cRd (j : PJ) (N : Nd) : Dn := if N.down = true then ⟨4, []⟩ else ⟨0, [cWord j N]⟩
def cPut (j : PJ) (N : Nd) (x : Int) : Nd := { N with words := N.words.set (cAt j) x }
/-- The acceptors that answer. -/
def upA (j : PJ) : Nat → List Nd → List Ac
  | _, [] => []
  | i, N :: tl => (if N.down = true then [] else [((i : Int), cWord j N)]) ++ upA j (i + 1) tl

theorem fitB_nil : fitB [] [] = true := rfl
theorem fitB_cons {v : Vb} {d : Dn} {vs : List Vb} {ds : List Dn} (h1 : dFits v d = true) (h2 : fitB vs ds = true) : fitB (v :: vs) (d :: ds) = true := by
  unfold fitB at h2 ⊢
  rw [Bool.and_eq_true, decide_eq_true_eq] at h2 ⊢
  refine ⟨by simp [h2.1], ?_⟩
  rw [List.zipWith_cons_cons, List.all_cons, h2.2, id, h1]; rfl
theorem nodeDo_fits {n : Nat} {N : Nd} {v : Vb} (h : Sv n v) : dFits v (nodeDo N v).2 = true := by
  unfold nodeDo dFits
  split
  · simp
  · have hr : vRet v = 1 := by
      unfold vRet
      rcases h.kind with ⟨h1, h2⟩ | h1
      · rw [if_pos h1, h2]
      · rw [if_neg (by omega), if_pos (.inl h1)]
    split
    · simp [hr]
    · simp [hr]
theorem doAll_fits {n : Nat} (vs : List Vb) : ∀ ns, (∀ v ∈ vs, Sv n v) → fitB vs (doAll ns vs).2 = true := by
  induction vs with
  | nil => intro ns _; rfl
  | cons v tl ih =>
    intro ns h
    rw [doAll]
    exact fitB_cons (nodeDo_fits (h v List.mem_cons_self)) (ih _ (fun x hx => h x (List.mem_cons_of_mem _ hx)))

theorem set_same {α : Type} {xs : List α} {i : Nat} {a : α} (h : xs[i]? = some a) : xs.set i a = xs := by
  apply List.ext_getElem?
  intro q
  by_cases e : i = q
  · subst e; rw [List.getElem?_set_self (List.getElem?_eq_some_iff.1 h).1, h]
  · rw [List.getElem?_set_ne e]
theorem read_all (j : PJ) (ns : List Nd) : ∀ (k s : Nat), s + k ≤ ns.length → doAll ns ((List.range' s k).map (rdVerb j)) = (ns, ((ns.drop s).take k).map (cRd j)) := by
  intro k
  induction k with
  | zero => intro s _; simp [doAll]
  | succ k ih =>
    intro s h
    obtain ⟨N, hN⟩ : ∃ N, ns[s]? = some N := ⟨ns[s]'(by omega), by simp [show s < ns.length by omega]⟩
    have hd : ns.drop s = N :: ns.drop (s + 1) := by rw [List.drop_eq_getElem_cons (List.getElem?_eq_some_iff.1 hN).1, (List.getElem?_eq_some_iff.1 hN).2]
    rw [List.range'_succ, List.map_cons, doAll]
    have e1 : (rdVerb j s).node.toNat = s := by simp [rdVerb]
    have e2 : ns.getD s ⟨[], true⟩ = N := by rw [List.getD_eq_getElem?_getD, hN]; rfl
    have e3 : nodeDo N (rdVerb j s) = (N, cRd j N) := by
      unfold nodeDo cRd
      split
      · rfl
      · rw [if_pos (by rfl)]; rfl
    rw [e1, e2, e3]
    simp only
    rw [set_same hN, ih (s + 1) (by omega), hd, List.take_succ_cons, List.map_cons]
theorem rdFold_up (j : PJ) (ns : List Nd) : ∀ (acc : List Ac) (gr : Int) (i : Nat), ∃ gr', (ns.map (cRd j)).foldl rdStep (acc, gr, i) = (acc ++ upA j i ns, gr', i + ns.length) := by
  induction ns with
  | nil => intro acc gr i; exact ⟨gr, by simp [upA]⟩
  | cons N tl ih =>
    intro acc gr i
    rw [List.map_cons, List.foldl_cons]
    by_cases hd : N.down = true
    · have e : rdStep (acc, gr, i) (cRd j N) = (acc, gr, i + 1) := by unfold rdStep cRd; rw [if_pos hd]; rfl
      obtain ⟨g, hg⟩ := ih acc gr (i + 1)
      refine ⟨g, ?_⟩
      rw [e, hg, upA, if_pos hd]
      simp only [List.nil_append, List.length_cons, Prod.mk.injEq, true_and]
      omega
    · have e : rdStep (acc, gr, i) (cRd j N) = (acc ++ [((i : Int), cWord j N)], pMet gr (cWord j N), i + 1) := by unfold rdStep cRd; rw [if_neg hd]; rfl
      obtain ⟨g, hg⟩ := ih (acc ++ [((i : Int), cWord j N)]) (pMet gr (cWord j N)) (i + 1)
      refine ⟨g, ?_⟩
      rw [e, hg, upA, if_neg hd]
      simp only [List.append_assoc, List.length_cons, Prod.mk.injEq, true_and]
      omega
theorem upA_mem (j : PJ) (ns : List Nd) : ∀ (i : Nat) (a : Ac), a ∈ upA j i ns → ∃ (k : Nat) (N : Nd), ns[k]? = some N ∧ N.down = false ∧ a = (((i + k : Nat) : Int), cWord j N) := by
  induction ns with
  | nil => intro i a h; cases h
  | cons N tl ih =>
    intro i a h
    rw [upA] at h
    rcases List.mem_append.1 h with h | h
    · split at h
      · cases h
      · rename_i hd
        rw [List.mem_singleton] at h
        exact ⟨0, N, rfl, by simpa using hd, by rw [h]; simp⟩
    · obtain ⟨k, M, h1, h2, h3⟩ := ih (i + 1) a h
      exact ⟨k + 1, M, by simpa using h1, h2, by rw [h3]; congr 2; omega⟩
theorem upA_rise (j : PJ) (ns : List Nd) : ∀ i : Nat, RiseA (upA j i ns) := by
  induction ns with
  | nil => intro i; trivial
  | cons N tl ih =>
    intro i
    rw [upA]
    split
    · exact ih (i + 1)
    · refine ⟨fun x hx => ?_, ih (i + 1)⟩
      obtain ⟨k, M, _, _, h3⟩ := upA_mem j tl (i + 1) x hx
      rw [h3]; simp only; omega

/-- Acceptors that hold what is said of them. -/
def Holds1 (j : PJ) (ns : List Nd) (a : Ac) : Prop := 0 ≤ a.1 ∧ ∃ N, ns[a.1.toNat]? = some N ∧ N.down = false ∧ cWord j N = a.2 ∧ cAt j < N.words.length
theorem cWord_put {j : PJ} {N : Nd} {x : Int} (h : cAt j < N.words.length) : cWord j (cPut j N x) = x := by
  unfold cWord cPut
  rw [List.getD_eq_getElem?_getD, List.getElem?_set_self h]; rfl
/-- What becomes of the nodes. -/
def putA (j : PJ) (nx : Int → Int) : List Nd → List Ac → List Nd
  | ns, [] => ns
  | ns, a :: tl => putA j nx (ns.set a.1.toNat (cPut j (ns.getD a.1.toNat ⟨[], true⟩) (nx a.2))) tl
theorem holds_set {j : PJ} {ns : List Nd} {a : Ac} {i : Nat} {M : Nd} (h : Holds1 j ns a) (hne : i ≠ a.1.toNat) : Holds1 j (ns.set i M) a := by
  obtain ⟨h0, N, h1, h2⟩ := h
  exact ⟨h0, N, by rw [List.getElem?_set_ne hne]; exact h1, h2⟩
theorem swap_all (j : PJ) (nx : Int → Int) (l : List Ac) : ∀ ns, RiseA l → (∀ a ∈ l, Holds1 j ns a) → doAll ns (swAsk j nx l) = (putA j nx ns l, l.map (fun a => (⟨0, [a.2]⟩ : Dn))) := by
  induction l with
  | nil => intro ns _ _; rfl
  | cons a tl ih =>
    intro ns hr h
    obtain ⟨h0, N, h1, h2, h3, h4⟩ := h a List.mem_cons_self
    have e : swAsk j nx (a :: tl) = swVerb j nx a :: swAsk j nx tl := rfl
    have e1 : (swVerb j nx a).node.toNat = a.1.toNat := rfl
    have e2 : ns.getD a.1.toNat ⟨[], true⟩ = N := by rw [List.getD_eq_getElem?_getD, h1]; rfl
    have hw : N.words.getD (swVerb j nx a).at_.toNat 0 = a.2 := h3
    have e3 : nodeDo N (swVerb j nx a) = (cPut j N (nx a.2), ⟨0, [a.2]⟩) := by
      unfold nodeDo
      rw [if_neg (by rw [h2]; simp), if_neg (by simp [swVerb]), hw, if_pos (by rfl)]
      rfl
    rw [e, doAll, e1, e2, e3]
    simp only
    have hne : ∀ x ∈ tl, a.1.toNat ≠ x.1.toNat := fun x hx => by
      have := hr.1 x hx
      omega
    rw [ih _ hr.2 (fun x hx => holds_set (h x (List.mem_cons_of_mem _ hx)) (hne x hx)), putA, e2, List.map_cons]
theorem putA_get (j : PJ) (nx : Int → Int) (l : List Ac) : ∀ ns, RiseA l → (∀ a ∈ l, Holds1 j ns a) → (putA j nx ns l).length = ns.length ∧ (∀ a ∈ l, ∃ N, ns[a.1.toNat]? = some N ∧ (putA j nx ns l)[a.1.toNat]? = some (cPut j N (nx a.2))) ∧ ∀ i : Nat, (∀ a ∈ l, a.1.toNat ≠ i) → (putA j nx ns l)[i]? = ns[i]? := by
  induction l with
  | nil => intro ns _ _; exact ⟨rfl, fun a ha => (by cases ha), fun i _ => rfl⟩
  | cons a tl ih =>
    intro ns hr h
    obtain ⟨h0, N, h1, h2, h3, h4⟩ := h a List.mem_cons_self
    have e2 : ns.getD a.1.toNat ⟨[], true⟩ = N := by rw [List.getD_eq_getElem?_getD, h1]; rfl
    have hne : ∀ x ∈ tl, a.1.toNat ≠ x.1.toNat := fun x hx => by
      have := hr.1 x hx
      omega
    obtain ⟨g1, g2, g3⟩ := ih (ns.set a.1.toNat (cPut j N (nx a.2))) hr.2 (fun x hx => holds_set (h x (List.mem_cons_of_mem _ hx)) (hne x hx))
    rw [putA, e2]
    refine ⟨by rw [g1, List.length_set], fun x hx => ?_, fun i hi => ?_⟩
    · rcases List.mem_cons.1 hx with rfl | hx
      · refine ⟨N, h1, ?_⟩
        rw [g3 _ (fun y hy => Ne.symm (hne y hy)), List.getElem?_set_self (List.getElem?_eq_some_iff.1 h1).1]
      · obtain ⟨M, q1, q2⟩ := g2 x hx
        rw [List.getElem?_set_ne (hne x hx)] at q1
        exact ⟨M, q1, q2⟩
    · rw [g3 i (fun y hy => hi y (List.mem_cons_of_mem _ hy)), List.getElem?_set_ne (hi a List.mem_cons_self)]
theorem swFold_all (nx : Int → Int) (l : List Ac) (gr : Int) : swFold nx l gr (l.map (fun a => (⟨0, [a.2]⟩ : Dn))) = ⟨l.length, l.map (fun a => (a.1, nx a.2)), gr, l.length⟩ := by
  have key : ∀ (pre suf : List Ac), l = pre ++ suf → (suf.map (fun a => (⟨0, [a.2]⟩ : Dn))).foldl (swStep nx l) ⟨pre.length, pre.map (fun a => (a.1, nx a.2)), gr, pre.length⟩ = ⟨l.length, l.map (fun a => (a.1, nx a.2)), gr, l.length⟩ := by
    intro pre suf
    induction suf generalizing pre with
    | nil => intro e; rw [List.append_nil] at e; rw [← e]; rfl
    | cons a tl ih =>
      intro e
      have hg : l.getD pre.length (0, 0) = a := by rw [e, List.getD_eq_getElem?_getD, List.getElem?_append_right (Nat.le_refl _), Nat.sub_self]; rfl
      rw [List.map_cons, List.foldl_cons]
      have hs : swStep nx l ⟨pre.length, pre.map (fun a => (a.1, nx a.2)), gr, pre.length⟩ ⟨0, [a.2]⟩ = ⟨((pre ++ [a]).length : Nat), (pre ++ [a]).map (fun a => (a.1, nx a.2)), gr, (pre ++ [a]).length⟩ := by
        unfold swStep
        simp only
        rw [if_neg (by simp), hg, if_neg (by simp [dWord])]
        simp [dWord]
      rw [hs]
      exact ih (pre ++ [a]) (by rw [e]; simp)
  exact key [] l rfl

/-- Replies, batch by batch. -/
theorem tBatch_next {gs : List (List Dn)} {k : Nat} {l : List Vb} (hl : l ≠ []) (hk : gs.length = k) : tBatch gs k l = (.ask l, []) := by
  unfold tBatch
  have : l.isEmpty = false := by cases l <;> simp at hl ⊢
  rw [this, List.getElem?_eq_none (by omega)]
  rfl
theorem tBatch_got {gs : List (List Dn)} {k : Nat} {l : List Vb} {d : List Dn} (hl : l ≠ []) (hk : gs[k]? = some d) (hf : fitB l d = true) : tBatch gs k l = (.done (k + 1), d) := by
  unfold tBatch
  have : l.isEmpty = false := by cases l <;> simp at hl ⊢
  rw [this, hk]
  simp only [Bool.false_eq_true, if_false, hf, if_true]

/-- The run of a proposer alone. -/
structure Sole (j : PJ) (ns : List Nd) : Prop where
  valid : pValid j = 0
  nodes : j.nodes = (ns.length : Nat)
  len : ∀ N ∈ ns, 24 ≤ N.words.length
def soleR0 (j : PJ) (ns : List Nd) : List Dn := ns.map (cRd j)
def soleC (j : PJ) (ns : List Nd) : List Ac := pCands (bal j) (upA j 0 ns)
def soleS (j : PJ) (ns : List Nd) : List Ac := (soleC j ns).map (fun a => (a.1, pPromise (bal j) a.2))
def soleV (j : PJ) (ns : List Nd) : Int := (pVal j.value (soleS j ns)).1
def soleN1 (j : PJ) (ns : List Nd) : List Nd := putA j (pPromise (bal j)) ns (soleC j ns)
def soleN2 (j : PJ) (ns : List Nd) : List Nd := putA j (pAccept (bal j) (soleV j ns)) (soleN1 j ns) (soleS j ns)
theorem bal_eq {j : PJ} (h : pValid j = 0) : pBalV j.round j.client = bal j := by
  obtain ⟨_, _, _, _, _, _, _, _, h1, _⟩ := pValid_parts h
  rw [h1]; rfl
theorem sole_read {j : PJ} {ns : List Nd} (h : Sole j ns) : doAll ns (rdAsk j) = (ns, soleR0 j ns) ∧ fitB (rdAsk j) (soleR0 j ns) = true ∧ rdAsk j ≠ [] := by
  obtain ⟨v1, v2, v3, v4, _⟩ := pValid_parts h.valid
  have e := read_all j ns ns.length 0 (by omega)
  rw [List.drop_zero, List.take_of_length_le (Nat.le_refl _)] at e
  have hn : j.nodes.toNat = ns.length := by have := h.nodes; omega
  have e2 : rdAsk j = (List.range' 0 ns.length).map (rdVerb j) := by unfold rdAsk; rw [hn, List.range_eq_range']
  have hsv : ∀ v ∈ rdAsk j, Sv ns.length v := by
    intro v hv
    obtain ⟨i, hi, rfl⟩ := List.mem_map.1 hv
    rw [List.mem_range] at hi
    exact ⟨.inl ⟨rfl, rfl⟩, rfl, by simp only [rdVerb]; omega, by simp only [rdVerb]; omega, by simp only [rdVerb]; omega, by simp only [rdVerb]; omega⟩
  have h3 := doAll_fits (rdAsk j) ns hsv
  rw [e2, e] at h3
  refine ⟨by rw [e2, e]; rfl, by rw [e2]; exact h3, ?_⟩
  intro e3
  have := congrArg List.length e3
  rw [rdAsk_len] at this
  simp at this
  omega
theorem sole_fold (j : PJ) (ns : List Nd) : ∃ gr, rdFold 0 (soleR0 j ns) = (upA j 0 ns, gr, ns.length) := by
  obtain ⟨g, hg⟩ := rdFold_up j ns [] 0 0
  exact ⟨g, by unfold rdFold soleR0; rw [hg]; simp⟩
theorem sole_first {j : PJ} {ns : List Nd} (h : Sole j ns) : pNext j [] = (rdAsk j, ⟨0, 0, 0⟩, false) := by
  unfold pNext pRun
  rw [tBatch_next (k := 0) (sole_read h).2.2 rfl]
theorem maj_pos {j : PJ} {ns : List Nd} (h : Sole j ns) : 1 ≤ pMaj j.nodes := by
  obtain ⟨v1, v2, _⟩ := pValid_parts h.valid
  unfold pMaj
  rw [if_neg (by omega)]
  omega
theorem soleC_holds {j : PJ} {ns : List Nd} (h : Sole j ns) : RiseA (soleC j ns) ∧ ∀ a ∈ soleC j ns, Holds1 j ns a := by
  obtain ⟨v1, v2, v3, v4, _⟩ := pValid_parts h.valid
  refine ⟨(upA_rise j ns 0).filter _, fun a ha => ?_⟩
  obtain ⟨k, N, h1, h2, h3⟩ := upA_mem j ns 0 a (List.mem_filter.1 ha).1
  have := h.len N (List.mem_of_getElem? h1)
  rw [Nat.zero_add] at h3
  rw [h3]
  exact ⟨by simp, N, by simpa using h1, h2, rfl, by unfold cAt; omega⟩
theorem soleS_holds {j : PJ} {ns : List Nd} (h : Sole j ns) : RiseA (soleS j ns) ∧ ∀ a ∈ soleS j ns, Holds1 j (soleN1 j ns) a := by
  obtain ⟨hr, hh⟩ := soleC_holds h
  obtain ⟨g1, g2, g3⟩ := putA_get j (pPromise (bal j)) (soleC j ns) ns hr hh
  refine ⟨?_, fun a ha => ?_⟩
  · have : ∀ l : List Ac, RiseA l → RiseA (l.map (fun a => (a.1, pPromise (bal j) a.2))) := by
      intro l
      induction l with
      | nil => intro _; trivial
      | cons a tl ih =>
        intro hl
        refine ⟨fun x hx => ?_, ih hl.2⟩
        obtain ⟨b, hb, rfl⟩ := List.mem_map.1 hx
        exact hl.1 b hb
    exact this _ hr
  · obtain ⟨b, hb, rfl⟩ := List.mem_map.1 ha
    obtain ⟨b0, M, q1, q2, q3, q4⟩ := hh b hb
    obtain ⟨N, n1, n2⟩ := g2 b hb
    rw [q1] at n1
    cases n1
    exact ⟨b0, _, n2, q2, cWord_put q4, by simp only [cPut, List.length_set]; exact q4⟩
theorem judge_ok {j : PJ} {x : Int} {gr : Int} (h : pMaj j.nodes ≤ x) : (pJudge j.nodes x x gr).code = 0 := by
  unfold pJudge
  rw [if_neg (by omega), if_neg (by omega)]
theorem sole_second {j : PJ} {ns : List Nd} (h : Sole j ns) :
    ((upA j 0 ns).length < pMaj j.nodes → pNext j [soleR0 j ns] = ([], ⟨9, 0, 0⟩, true)) ∧
    (pMaj j.nodes ≤ (upA j 0 ns).length → (soleC j ns).length < pMaj j.nodes → ∃ o, o.code = 8 ∧ pNext j [soleR0 j ns] = ([], o, true)) ∧
    (pMaj j.nodes ≤ (upA j 0 ns).length → pMaj j.nodes ≤ (soleC j ns).length → pNext j [soleR0 j ns] = (swAsk j (pPromise (bal j)) (soleC j ns), ⟨0, 0, 0⟩, false)) := by
  obtain ⟨e1, e2, e3⟩ := sole_read h
  obtain ⟨gr, hf⟩ := sole_fold j ns
  have hb := bal_eq h.valid
  have hm := maj_pos h
  refine ⟨fun h1 => ?_, fun h1 h2 => ?_, fun h1 h2 => ?_⟩
  · unfold pNext pRun
    rw [tBatch_got (d := soleR0 j ns) e3 rfl e2, hb]
    simp only
    rw [hf]
    simp only
    have : pJudge j.nodes ((upA j 0 ns).length : Nat) ((pCands (bal j) (upA j 0 ns)).length : Nat) gr = ⟨9, 0, 0⟩ := by unfold pJudge; rw [if_pos h1]
    rw [this]
    simp
  · refine ⟨⟨8, 0, gr / 8⟩, rfl, ?_⟩
    unfold pNext pRun
    rw [tBatch_got (d := soleR0 j ns) e3 rfl e2, hb]
    simp only
    rw [hf]
    simp only
    have : pJudge j.nodes ((upA j 0 ns).length : Nat) ((pCands (bal j) (upA j 0 ns)).length : Nat) gr = ⟨8, 0, gr / 8⟩ := by unfold pJudge; rw [if_neg (by omega), if_pos (by unfold soleC at h2; exact h2)]; rfl
    rw [this]
    simp
  · have hne : swAsk j (pPromise (bal j)) (soleC j ns) ≠ [] := fun e => by
      have := congrArg List.length e
      simp only [swAsk, List.length_map, List.length_nil] at this
      omega
    unfold pNext pRun
    rw [tBatch_got (d := soleR0 j ns) e3 rfl e2, hb]
    simp only
    rw [hf]
    simp only
    have : pJudge j.nodes ((upA j 0 ns).length : Nat) ((pCands (bal j) (upA j 0 ns)).length : Nat) gr = ⟨0, 0, 0⟩ := by
      unfold pJudge; rw [if_neg (by omega), if_neg (by unfold soleC at h2; omega)]
    rw [this]
    simp only [ne_eq, not_true_eq_false, if_false]
    unfold pRun2
    unfold soleC at hne ⊢
    rw [tBatch_next (k := 0 + 1) hne rfl]
theorem sw_sv {j : PJ} {nx : Int → Int} {ns : List Nd} {l : List Ac} (h : Sole j ns) (hl : ∀ a ∈ l, Holds1 j ns a) : ∀ v ∈ swAsk j nx l, Sv ns.length v := by
  obtain ⟨v1, v2, v3, v4, _⟩ := pValid_parts h.valid
  intro v hv
  obtain ⟨a, ha, rfl⟩ := List.mem_map.1 hv
  obtain ⟨h0, N, h1, _⟩ := hl a ha
  have := (List.getElem?_eq_some_iff.1 h1).1
  exact ⟨.inr rfl, rfl, by simp only [swVerb]; omega, by simp only [swVerb]; omega, h0, this⟩
theorem sole_n1 {j : PJ} {ns : List Nd} (h : Sole j ns) : (soleN1 j ns).length = ns.length := (putA_get j _ _ ns (soleC_holds h).1 (soleC_holds h).2).1
/-- A majority with lower promises: three batches, a decision. -/
theorem sole_decides {j : PJ} {ns : List Nd} (h : Sole j ns) (h1 : pMaj j.nodes ≤ (upA j 0 ns).length) (h2 : pMaj j.nodes ≤ (soleC j ns).length) :
    ∃ r1 r2, aRun j 3 ns [] = (soleN2 j ns, [soleR0 j ns, r1, r2]) ∧ pNext j [soleR0 j ns, r1, r2] = ([], ⟨0, soleV j ns, 0⟩, true) := by
  obtain ⟨e1, e2, e3⟩ := sole_read h
  obtain ⟨gr, hf⟩ := sole_fold j ns
  have hb := bal_eq h.valid
  have hm := maj_pos h
  obtain ⟨hc1, hc2⟩ := soleC_holds h
  obtain ⟨hs1, hs2⟩ := soleS_holds h
  have hsl : (soleS j ns).length = (soleC j ns).length := by simp [soleS]
  have d1 := swap_all j (pPromise (bal j)) (soleC j ns) ns hc1 hc2
  have d2 := swap_all j (pAccept (bal j) (soleV j ns)) (soleS j ns) (soleN1 j ns) hs1 hs2
  have f1 := doAll_fits _ ns (sw_sv (nx := pPromise (bal j)) h hc2)
  have hS1 : Sole j (soleN1 j ns) := ⟨h.valid, by rw [sole_n1 h]; exact h.nodes, fun N hN => by
    obtain ⟨i, hi⟩ := List.getElem?_of_mem hN
    obtain ⟨g1, g2, g3⟩ := putA_get j (pPromise (bal j)) (soleC j ns) ns hc1 hc2
    by_cases hx : ∃ a ∈ soleC j ns, a.1.toNat = i
    · obtain ⟨a, ha, rfl⟩ := hx
      obtain ⟨M, q1, q2⟩ := g2 a ha
      unfold soleN1 at hi
      rw [q2] at hi
      cases hi
      simp only [cPut, List.length_set]
      exact h.len M (List.mem_of_getElem? q1)
    · unfold soleN1 at hi
      rw [g3 i (fun a ha e => hx ⟨a, ha, e⟩)] at hi
      exact h.len N (List.mem_of_getElem? hi)⟩
  have f2 := doAll_fits _ (soleN1 j ns) (sw_sv (nx := pAccept (bal j) (soleV j ns)) hS1 hs2)
  rw [d1] at f1
  rw [d2] at f2
  simp only at f1 f2
  obtain ⟨r1, hr1⟩ : ∃ r, r = (soleC j ns).map (fun a => (⟨0, [a.2]⟩ : Dn)) := ⟨_, rfl⟩
  obtain ⟨r2, hr2⟩ : ∃ r, r = (soleS j ns).map (fun a => (⟨0, [a.2]⟩ : Dn)) := ⟨_, rfl⟩
  have sw1 := swFold_all (pPromise (bal j)) (soleC j ns) gr
  have sw2 := swFold_all (pAccept (bal j) (soleV j ns)) (soleS j ns) gr
  rw [← hr1] at f1 d1 sw1
  rw [← hr2] at f2 d2 sw2
  have hne1 : swAsk j (pPromise (bal j)) (soleC j ns) ≠ [] := fun e => by
    have := congrArg List.length e
    simp only [swAsk, List.length_map, List.length_nil] at this
    omega
  have hne2 : swAsk j (pAccept (bal j) (soleV j ns)) (soleS j ns) ≠ [] := fun e => by
    have := congrArg List.length e
    simp only [swAsk, List.length_map, List.length_nil] at this
    omega
  have jd : ∀ gr, pJudge j.nodes ((upA j 0 ns).length : Nat) ((pCands (bal j) (upA j 0 ns)).length : Nat) gr = ⟨0, 0, 0⟩ := by
    intro gr
    unfold pJudge; rw [if_neg (by omega), if_neg (by unfold soleC at h2; omega)]
  have jd2 : ∀ (gr : Int), pJudge j.nodes ((soleC j ns).length : Nat) ((soleC j ns).length : Nat) gr = ⟨0, 0, 0⟩ := by
    intro gr
    unfold pJudge; rw [if_neg (by omega), if_neg (by omega)]
  have hcC : pCands (bal j) (upA j 0 ns) = soleC j ns := rfl
  -- the third call
  have n2 : pNext j [soleR0 j ns, r1] = (swAsk j (pAccept (bal j) (soleV j ns)) (soleS j ns), ⟨0, 0, 0⟩, false) := by
    unfold pNext pRun
    rw [tBatch_got (d := soleR0 j ns) e3 rfl e2, hb]
    simp only
    rw [hf]
    simp only
    rw [jd]
    simp only [ne_eq, not_true_eq_false, if_false]
    unfold pRun2
    rw [hcC, tBatch_got (d := r1) hne1 rfl f1]
    simp only
    rw [sw1]
    simp only [List.length_map]
    rw [jd2]
    simp only [ne_eq, not_true_eq_false, if_false]
    unfold pRun3
    rw [show (soleC j ns).map (fun a => (a.1, pPromise (bal j) a.2)) = soleS j ns from rfl]
    rw [show (pVal j.value (soleS j ns)).1 = soleV j ns from rfl]
    rw [tBatch_next (k := 0 + 1 + 1) hne2 rfl]
  have n3 : pNext j [soleR0 j ns, r1, r2] = ([], ⟨0, soleV j ns, 0⟩, true) := by
    unfold pNext pRun
    rw [tBatch_got (d := soleR0 j ns) e3 rfl e2, hb]
    simp only
    rw [hf]
    simp only
    rw [jd]
    simp only [ne_eq, not_true_eq_false, if_false]
    unfold pRun2
    rw [hcC, tBatch_got (d := r1) hne1 rfl f1]
    simp only
    rw [sw1]
    simp only [List.length_map]
    rw [jd2]
    simp only [ne_eq, not_true_eq_false, if_false]
    unfold pRun3
    rw [show (soleC j ns).map (fun a => (a.1, pPromise (bal j) a.2)) = soleS j ns from rfl]
    rw [show (pVal j.value (soleS j ns)).1 = soleV j ns from rfl]
    rw [tBatch_got (d := r2) hne2 rfl f2]
    simp only
    rw [sw2]
    simp only [List.length_map, hsl]
    rw [jd2]
    simp
  refine ⟨r1, r2, ?_, n3⟩
  rw [aRun, sole_first h]
  simp only [Bool.false_eq_true, if_false]
  rw [e1, List.nil_append, aRun, (sole_second h).2.2 h1 h2]
  simp only [Bool.false_eq_true, if_false]
  rw [d1, aRun]
  simp only [List.singleton_append]
  rw [n2]
  simp only [Bool.false_eq_true, if_false]
  rw [show putA j (pPromise (bal j)) ns (soleC j ns) = soleN1 j ns from rfl, d2, aRun]
  rfl
/-- Otherwise one batch. -/
theorem sole_stops {j : PJ} {ns : List Nd} (h : Sole j ns) (hov : (pNext j [soleR0 j ns]).2.2 = true) : aRun j 3 ns [] = (ns, [soleR0 j ns]) := by
  obtain ⟨e1, e2, e3⟩ := sole_read h
  rw [aRun, sole_first h]
  simp only [Bool.false_eq_true, if_false]
  rw [e1, List.nil_append, aRun, if_pos hov]
end Go.Proofs.YtaojipegpjolcaaGreat
set_option linter.unusedVariables false
set_option linter.unusedSimpArgs false
namespace Go.Proofs.YtaojipegpjolcaaGreat
open Go.RowKit

def freshOk (n : Nat) : Bool := decide ((fmtWords n 98).length = 784) && (List.range 14).all (fun i => decide ((fmtWords n 98).getD (10 + i) 0 = 0)) && (List.range 6).all (fun i => decide ((fmtWords n 98).getD (24 + i) 0 = 1)) && decide ((fmtWords n 98).getD 1 0 = 1)
set_option maxRecDepth 1000000 in
theorem freshOk_all : freshOk 1 = true ∧ freshOk 2 = true ∧ freshOk 3 = true ∧ freshOk 4 = true ∧ freshOk 5 = true := by
  refine ⟨?_, ?_, ?_, ?_, ?_⟩ <;> decide +kernel
theorem fresh_facts {n : Nat} (h0 : 1 ≤ n) (h1 : n ≤ 5) : (fmtWords n 98).length = 784 ∧ (∀ i : Nat, 10 ≤ i → i ≤ 23 → (fmtWords n 98).getD i 0 = 0) ∧ (∀ c : Nat, c < 6 → (fmtWords n 98).getD (24 + c) 0 = 1) ∧ (fmtWords n 98).getD 1 0 = 1 := by
  have h : freshOk n = true := by
    obtain ⟨a, b, c, d, e⟩ := freshOk_all
    obtain rfl | rfl | rfl | rfl | rfl : n = 1 ∨ n = 2 ∨ n = 3 ∨ n = 4 ∨ n = 5 := by omega
    · exact a
    · exact b
    · exact c
    · exact d
    · exact e
  unfold freshOk at h
  simp only [Bool.and_eq_true, decide_eq_true_eq, List.all_eq_true, List.mem_range] at h
  obtain ⟨⟨⟨a, b⟩, c⟩, d⟩ := h
  refine ⟨a, fun i h2 h3 => ?_, c, d⟩
  have := b (i - 10) (by omega)
  rwa [show 10 + (i - 10) = i by omega] at this

theorem mid_get {P : PF} {c : Nat} {inc : Int} {ns : List Nd} {vs : List Vb} {ds : List Dn} {tr po : Int} (hP : Still P c) : (midP P c inc ns vs ds tr po).cs[c]? = some (midC P.ns.length c inc vs ds tr po) := List.getElem?_set_self hP.lt
def minN (nodes down : Nat) : List Nd := List.replicate (nodes - down) (fmtNd nodes 98) ++ List.replicate down { fmtNd nodes 98 with down := true }
def minJ (nodes : Nat) (round : Int) : PJ := ⟨nodes, 4, 0, round, 77⟩
def minT (nodes : Nat) (round : Int) : PT := ⟨2, 0, minJ nodes round, [], false, false, 0, 0⟩
theorem minN_len {nodes down : Nat} (h : down ≤ nodes) : (minN nodes down).length = nodes := by simp [minN]; omega
theorem minN_mem {nodes down : Nat} {N : Nd} (h : N ∈ minN nodes down) : N.words = fmtWords nodes 98 := by
  rcases List.mem_append.1 h with h | h <;> rw [List.eq_of_mem_replicate h] <;> rfl
theorem upA_down (j : PJ) (N : Nd) (hd : N.down = true) (k : Nat) : ∀ i : Nat, upA j i (List.replicate k N) = [] := by
  induction k with
  | zero => intro i; rfl
  | succ k ih => intro i; rw [List.replicate_succ, upA, if_pos hd, ih]; rfl
theorem upA_up (j : PJ) (N : Nd) (hd : N.down = false) (tl : List Nd) (k : Nat) : ∀ i : Nat, upA j i (List.replicate k N ++ tl) = (List.range' i k).map (fun (i : Nat) => ((i : Int), cWord j N)) ++ upA j (i + k) tl := by
  induction k with
  | zero => intro i; simp
  | succ k ih =>
    intro i
    rw [List.replicate_succ, List.cons_append, upA, if_neg (by rw [hd]; simp), ih, List.range'_succ, List.map_cons]
    simp only [List.cons_append, List.nil_append]
    rw [show i + 1 + k = i + (k + 1) by omega]
theorem minJ_valid {nodes : Nat} {round : Int} (h0 : 1 ≤ nodes) (h1 : nodes ≤ 5) (r0 : 1 ≤ round) (r1 : round ≤ 500) : pValid (minJ nodes round) = 0 := by
  unfold pValid minJ
  simp only
  rw [if_neg (by omega), if_neg (by omega)]
  have hb : pBal round 0 = 0 := by unfold pBal; rw [if_neg (by omega), if_neg (by omega)]
  rw [if_neg (by rw [hb]; simp), if_neg (by omega)]
theorem minority_pure (nodes down : Nat) (round : Int) (h0 : 1 ≤ nodes) (h1 : nodes ≤ 5) (hd : down ≤ nodes) (r0 : 1 ≤ round) (r1 : round ≤ 500) (P : PF) (hP : P = { pFresh nodes 1 98 with ns := minN nodes down }) :
    ∃ P' t', pDrive P [minT nodes round] [] 20000 = (P', [t']) ∧ t'.over = true ∧ ∃ C', P'.cs[0]? = some C' ∧
      ((nodes : Int) - down < (nodes : Int) / 2 + 1 → t'.code = 9 ∧ C'.trips = 1) ∧ (¬ (nodes : Int) - down < (nodes : Int) / 2 + 1 → t'.code = 0 ∧ t'.value = 77 ∧ C'.trips = 3) := by
  obtain ⟨f1, f2, f3, f4⟩ := fresh_facts h0 h1
  have hlen : P.ns.length = nodes := by rw [hP]; exact minN_len hd
  have hcs : P.cs = [freshPC nodes 0] := by rw [hP]; rfl
  have hns : P.ns = minN nodes down := by rw [hP]
  have hstill : Still P 0 := ⟨by rw [hcs]; simp, by rw [hP]; rfl, fun i C hi hC => by
    rw [hcs] at hC
    cases i with
    | zero => exact absurd rfl hi
    | succ i => simp at hC⟩
  have hndok : ∀ N ∈ P.ns, NdOk (0 : Nat) 1 N := fun N hN => by
    rw [hns] at hN
    have := minN_mem hN
    exact ⟨by rw [this, f1]; decide, by rw [this]; have := f3 0 (by decide); exact Int.le_of_eq this⟩
  have hC : P.cs[0]? = some ⟨true, 1, freshLs P.ns.length (0 : Nat) 1, [], 0, 0, 0⟩ := by rw [hcs, hlen]; rfl
  have hv := minJ_valid h0 h1 r0 r1
  have hsole : Sole (minJ nodes round) P.ns := ⟨hv, by rw [hlen]; rfl, fun N hN => by rw [hns] at hN; rw [minN_mem hN, f1]; decide⟩
  have hcw : ∀ N : Nd, N.words = fmtWords nodes 98 → cWord (minJ nodes round) N = 0 := fun N hN => by
    unfold cWord; rw [hN]; exact f2 12 (by decide) (by decide)
  have hup : upA (minJ nodes round) 0 P.ns = (List.range' 0 (nodes - down)).map (fun (i : Nat) => ((i : Int), (0 : Int))) := by
    rw [hns, minN, upA_up _ _ rfl, upA_down _ _ rfl, List.append_nil, hcw _ rfl]
  have hul : (upA (minJ nodes round) 0 P.ns).length = nodes - down := by rw [hup]; simp
  have hbal : 0 < bal (minJ nodes round) := by simp only [bal, minJ]; omega
  have hcC : soleC (minJ nodes round) P.ns = upA (minJ nodes round) 0 P.ns := by
    unfold soleC pCands
    rw [List.filter_eq_self]
    intro a ha
    rw [hup] at ha
    obtain ⟨i, _, rfl⟩ := List.mem_map.1 ha
    rw [decide_eq_true_eq]
    simpa using hbal
  have hmaj : pMaj (minJ nodes round).nodes = (nodes : Int) / 2 + 1 := by
    unfold pMaj minJ; simp only; rw [if_neg (by omega)]
  have drive := fun hov => alone_drive (inc := 1) hstill (minJ nodes round) (by simp [minJ]) (by simp [minJ]) (by rw [hlen]; rfl) (by omega) 3 (by decide) 0 0 hC (minT nodes round) hndok rfl rfl rfl rfl (by decide) (by decide) hov
  by_cases hm : (nodes : Int) - down < (nodes : Int) / 2 + 1
  · have hn := (sole_second hsole).1 (by rw [hul, hmaj]; omega)
    have hr := sole_stops hsole (by rw [hn])
    rw [hr] at drive
    obtain ⟨⟨po, h2⟩, _⟩ := drive (by rw [hn])
    refine ⟨_, _, h2, rfl, _, mid_get hstill, fun _ => ⟨?_, ?_⟩, fun e => absurd hm e⟩
    · simp only [hn]
    · rfl
  · have h2 : pMaj (minJ nodes round).nodes ≤ (upA (minJ nodes round) 0 P.ns).length := by rw [hul, hmaj]; omega
    obtain ⟨q1, q2, hr, hn⟩ := sole_decides hsole h2 (by rw [hcC]; exact h2)
    rw [hr] at drive
    obtain ⟨⟨po, h3⟩, _⟩ := drive (by rw [hn])
    refine ⟨_, _, h3, rfl, _, mid_get hstill, fun e => absurd e hm, fun _ => ⟨?_, ?_, ?_⟩⟩
    · simp only [hn]
    · simp only [hn]
      unfold soleV soleS
      rw [hcC, hup, List.map_map]
      have : ∀ (l : List Nat), pVal 77 (l.map ((fun a : Ac => (a.1, pPromise (bal (minJ nodes round)) a.2)) ∘ fun (i : Nat) => ((i : Int), (0 : Int)))) = (77, 0) := by
        intro l
        unfold pVal
        induction l with
        | nil => rfl
        | cons x tl ih =>
          rw [List.map_cons, List.foldl_cons]
          have e : pVal1 (77, 0) (((fun a : Ac => (a.1, pPromise (bal (minJ nodes round)) a.2)) ∘ fun (i : Nat) => ((i : Int), (0 : Int))) x) = (77, 0) := by
            unfold pVal1 pPromise
            simp only [Function.comp_apply]
            rw [if_neg]
            simp
            omega
          rw [e]; exact ih
      exact congrArg Prod.fst (this _)
    · rfl
end Go.Proofs.YtaojipegpjolcaaGreat
set_option linter.unusedVariables false
set_option linter.unusedSimpArgs false
namespace Go.Proofs.YtaojipegpjolcaaGreat
open Go.RowKit Go.Sort Go.Proofs.BodegaHeap
variable {base : Nat} {w0 w : World} {L : List Blk}

/-- A number of a machine. -/
abbrev I64 (n : Int) : Prop := -9223372036854775808 ≤ n ∧ n ≤ 9223372036854775807
theorem int_bounds {n : Int} (h : (Lit.int .i64 n).wf = true) : I64 n := by
  simp only [Lit.wf, Bool.and_eq_true, decide_eq_true_eq] at h
  exact ⟨h.1, h.2⟩
def pSetN (P : PF) (k : Nat) (N : Nd) : PF := { P with ns := P.ns.set k N }
def pFail (P : PF) (k : Nat) : PF :=
  match P.ns[k]? with
  | some N => pSetN P k { N with down := true }
  | none => P
def pBack (P : PF) (k : Nat) : PF :=
  match P.ns[k]? with
  | some N => pSetN P k (ndBack N (N.words.getD 1 0))
  | none => P
def FB.setN (F : FB) (k : Nat) (x : ND) (N : Nd) : FB := { F with ns := F.ns.set k { x with N := N } }
theorem setN_pure {F : FB} {k : Nat} {x : ND} {N : Nd} : (F.setN k x N).pure = pSetN F.pure k N := by
  simp [FB.pure, FB.setN, pSetN, List.map_set]
theorem setN_ok {F : FB} (hF : FbOk F) {k : Nat} {x : ND} (hx : F.ns[k]? = some x) {N : Nd} (hl : N.words.length = x.N.words.length) : FbOk (F.setN k x N) := by
  have e : (F.ns.set k { x with N := N }).flatMap nodeC = F.ns.flatMap nodeC := flat_set_same nodeC F.ns k x _ hx rfl
  have hk := List.getElem?_eq_some_iff.1 hx
  refine ⟨hF.l0, hF.l1, by simp only [FB.setN, List.length_set]; exact hF.n0, by simp only [FB.setN, List.length_set]; exact hF.n1, hF.c0, hF.c1, ?_, ?_, hF.cr, ?_, hF.orr, ?_, hF.olen⟩
  · intro n hn
    simp only [FB.setN] at hn ⊢
    rcases mem_set hn with hn | rfl
    · exact hF.nodes n hn
    · have := hF.nodes x (List.mem_of_getElem? hx)
      simp only [hl]; exact this
  · simp only [FB.setN, e, List.length_set]; exact hF.nr
  · simp only [FB.setN, List.length_set]; exact hF.cs
  · simp only [FB.setN, List.length_set]; exact hF.os
theorem setN_open {F : FB} {k : Nat} {x : ND} (hx : F.ns[k]? = some x) (h : St base w0 w (fbH F ++ L)) :
    St base w0 w (ndH x.bn x.bw x.N ++ ((F.fb, .cells (fbCells F) 76 (0, 0)) :: (rowH F.nr 45 (F.ns.flatMap nodeC) ++ ((F.ns.eraseIdx k).flatMap nodeH ++ (rowH F.cr 84 (F.cs.flatMap cpC) ++ (F.cs.flatMap cpH ++ (rowH F.orr 85 (F.os.flatMap orC) ++ (F.os.flatMap gpH ++ L)))))))) :=
  h.ac (fun y => by
    have e := cnt_flat_get nodeH y F.ns k x hx
    have e2 : cnt y (ndH x.bn x.bw x.N) = cnt y (nodeH x) := rfl
    simp only [fbH, fbR, cnt_append, cnt_cons, cnt_nil] at *
    omega)
theorem setN_shut {F : FB} {k : Nat} {x : ND} {N : Nd} (hx : F.ns[k]? = some x)
    (h : St base w0 w (ndH x.bn x.bw N ++ ((F.fb, .cells (fbCells F) 76 (0, 0)) :: (rowH F.nr 45 (F.ns.flatMap nodeC) ++ ((F.ns.eraseIdx k).flatMap nodeH ++ (rowH F.cr 84 (F.cs.flatMap cpC) ++ (F.cs.flatMap cpH ++ (rowH F.orr 85 (F.os.flatMap orC) ++ (F.os.flatMap gpH ++ L))))))))) : St base w0 w (fbH (F.setN k x N) ++ L) :=
  h.ac (fun y => by
    have hk := (List.getElem?_eq_some_iff.1 hx).1
    have e := cnt_flat_set nodeH y F.ns k { x with N := N } hk
    have e2 : cnt y (ndH x.bn x.bw N) = cnt y (nodeH { x with N := N }) := rfl
    have e3 : (F.ns.set k { x with N := N }).flatMap nodeC = F.ns.flatMap nodeC := flat_set_same nodeC F.ns k x _ hx rfl
    have e4 : fbCells { F with ns := F.ns.set k { x with N := N } } = fbCells F := by simp [fbCells]
    simp only [FB.setN, fbH, fbR, cnt_append, cnt_cons, cnt_nil, e3, e4] at *
    omega)
theorem pSetN_rng {P : PF} (h : PRng P) {k : Nat} {N : Nd} (hN : Ws N.words) : PRng (pSetN P k N) := h.setN hN
theorem pFail_rng {P : PF} (h : PRng P) (k : Nat) : PRng (pFail P k) := by
  unfold pFail; split
  · rename_i N hN
    exact pSetN_rng h (N := { N with down := true }) (h.ns N (List.mem_of_getElem? hN))
  · exact h
theorem ndBack_rng {N : Nd} {b : Int} (h : Ws N.words) (hb : 0 ≤ b) : Ws (ndBack N b).words := by
  unfold ndBack; split
  · rename_i hh
    exact Ws.set h 1 ⟨by omega, by have := hh.2; omega⟩
  · exact h
theorem ndBack_len (N : Nd) (b : Int) : (ndBack N b).words.length = N.words.length := by
  unfold ndBack; split <;> simp
theorem pBack_rng {P : PF} (h : PRng P) (k : Nat) : PRng (pBack P k) := by
  unfold pBack; split
  · rename_i N hN
    have hw := h.ns N (List.mem_of_getElem? hN)
    exact pSetN_rng h (ndBack_rng hw (hw.getD 1).1)
  · exact h

/-- What an act on one node leaves. -/
structure NdOut (F F' : FB) (P : PF) : Prop where
  ok : FbOk F'
  fb : F'.fb = F.fb
  ns : F'.ns.length = F.ns.length
  cs : F'.cs = F.cs
  pure : F'.pure = P
theorem Fail_fb (F : FB) (hF : FbOk F) (k : Nat) (x : ND) (hx : F.ns[k]? = some x) (h : St base w0 w (fbH F ++ L)) (R : Ending → World → Prop)
    (hR : ∀ F' w', NdOut F F' (pFail F.pure k) → St base w0 w' (fbH F' ++ L) → R (.returned (.tuple #[])) w') :
    Calls Tryz.prog 24 #[nP x.bn] w R := by
  refine Fail_calls x.bn x.bw x.N (setN_open hx h) R (fun w' h' => hR (F.setN k x { x.N with down := true }) w' ⟨setN_ok hF hx rfl, rfl, by simp [FB.setN], rfl, ?_⟩ (setN_shut hx h'))
  rw [setN_pure]
  unfold pFail
  rw [show F.pure.ns[k]? = some x.N by simp [FB.pure, hx]]
theorem Back_fb (F : FB) (hF : FbOk F) (hP : PRng F.pure) (k : Nat) (x : ND) (hx : F.ns[k]? = some x) (h : St base w0 w (fbH F ++ L)) (R : Ending → World → Prop)
    (hR : ∀ r F' w', NdOut F F' (pBack F.pure k) → St base w0 w' (fbH F' ++ L) → R (.returned (.bool r)) w') :
    Calls Tryz.prog 20 #[nP x.bn] w R := by
  have hp : F.pure.ns[k]? = some x.N := by simp [FB.pure, hx]
  have hl := hF.nodes x (List.mem_of_getElem? hx)
  have hl0 := hF.l0
  have hw := hP.ns x.N (List.mem_of_getElem? hp)
  have hg := hw.getD 1
  refine Back_calls x.bn x.bw x.N (by omega) (x.N.words.getD 1 0) (get_getD _ _ (by omega)) hg.1 hg.2 (setN_open hx h) R (fun r w' h' => hR r (F.setN k x (ndBack x.N (x.N.words.getD 1 0))) w' ⟨setN_ok hF hx (ndBack_len _ _), rfl, by simp [FB.setN], rfl, ?_⟩ (setN_shut hx h'))
  rw [setN_pure]
  unfold pBack
  rw [hp]
end Go.Proofs.YtaojipegpjolcaaGreat
