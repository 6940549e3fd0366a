/- The heap's words: what a world holds, as a list of blocks; it grows, is written, is read. Rows: slices that lie at the head of a block of their own, with spare room; append. Contracts of the small functions on numbers: Pick, majorities, ballots, consensus words, addresses. Contracts of package verb's functions. Contracts of package verb's functions: a node's check, replies that fit. Contracts of slices.Clone at words, numbers and verbs. A region that draws its order, reads and calls what only allocates, and writes at its end: every read is taken first, the writes come last. -/
import Derived.WalkKit
import Derived.Below
import Derived.Deep.Draws
import Derived.Maps.AppendAt
import Derived.Laws.OwnMore
import Derived.Laws.CopyOwn
import Derived.StillTailTactics
import Derived.Test.YtaojipegpjolcaaGreatProg
import Derived.WalkLawsBesides
import Derived.WalkSpells
import Derived.Outline
import Derived.Lib.Hide
import Derived.KernelRfl
import Derived.Laws.Wrap64
import Derived.Laws.BitsAllLaws
import Derived.Lib.QuietBelow
import Derived.Deep.RegionHeld
namespace Go.Proofs.BodegaHeap
open Go.RowKit

abbrev Blk := Nat × Obj
/-- The keys of a list of blocks. -/
def keys (L : List Blk) : List Nat := L.map (·.1)
theorem keys_append (L M : List Blk) : keys (L ++ M) = keys L ++ keys M := by simp [keys]
theorem keys_cons (x : Blk) (L : List Blk) : keys (x :: L) = x.1 :: keys L := rfl

open Classical in
/-- How often a block is listed. -/
noncomputable def cnt (x : Blk) (L : List Blk) : Nat := L.countP (fun y => decide (y = x))
theorem cnt_nil (x : Blk) : cnt x [] = 0 := by simp [cnt]
noncomputable def cnt1 (x y : Blk) : Nat := cnt x [y]
theorem cnt_cons (x y : Blk) (L : List Blk) : cnt x (y :: L) = cnt1 x y + cnt x L := by
  simp only [cnt1, cnt, List.countP_cons, List.countP_nil]; omega
theorem cnt_append (x : Blk) (L M : List Blk) : cnt x (L ++ M) = cnt x L + cnt x M := by simp [cnt]
open Classical in
theorem perm_of_cnt {L M : List Blk} (h : ∀ x, cnt x L = cnt x M) : L.Perm M := by
  rw [List.perm_iff_count]
  intro a
  have := h a
  simp only [cnt, List.count] at *
  have e : (fun x : Blk => x == a) = (fun y : Blk => decide (y = a)) := by
    funext y; rw [Bool.eq_iff_iff]; simp
  rw [e]; exact this

/-- The world w, reached from w0 without a change below 'base', holds the blocks of L (each its own). -/
structure St (base : Nat) (w0 w : World) (L : List Blk) : Prop where
  below : Below base w0 w
  le : base ≤ w.heap.size
  nodup : (keys L).Nodup
  holds : ∀ p, p ∈ L → base ≤ p.1 ∧ w.heap[p.1]? = some p.2

theorem St.start (w : World) : St w.heap.size w w [] := ⟨Below.refl _ _, Nat.le_refl _, List.nodup_nil, fun _ h => by cases h⟩

variable {base : Nat} {w0 w : World} {L M : List Blk}

theorem St.perm (h : St base w0 w L) (hp : L.Perm M) : St base w0 w M :=
  ⟨h.below, h.le, (hp.map _).nodup_iff.1 h.nodup, fun p hm => h.holds p (hp.mem_iff.2 hm)⟩
theorem St.ac (h : St base w0 w L) (hc : ∀ x, cnt x L = cnt x M) : St base w0 w M := h.perm (perm_of_cnt hc)
theorem St.lt (h : St base w0 w L) {p : Blk} (hm : p ∈ L) : p.1 < w.heap.size := (Array.getElem?_eq_some_iff.1 (h.holds p hm).2).1
theorem St.drop (h : St base w0 w (L ++ M)) : St base w0 w M :=
  ⟨h.below, h.le, by have := h.nodup; rw [keys_append] at this; exact (List.nodup_append.1 this).2.1, fun p hm => h.holds p (List.mem_append_right _ hm)⟩
theorem St.tail {x : Blk} (h : St base w0 w (x :: L)) : St base w0 w L := St.drop (L := [x]) h
theorem St.keep (h : St base w0 w (L ++ M)) : St base w0 w L :=
  ⟨h.below, h.le, by have := h.nodup; rw [keys_append] at this; exact (List.nodup_append.1 this).1, fun p hm => h.holds p (List.mem_append_left _ hm)⟩

/-- A later world in which all these blocks are as they were. -/
theorem St.later (h : St base w0 w L) {w' : World} (hb : Below base w0 w') (hs : base ≤ w'.heap.size) (hk : ∀ k, k ∈ keys L → w'.heap[k]? = w.heap[k]?) : St base w0 w' L :=
  ⟨hb, hs, h.nodup, fun p hm => ⟨(h.holds p hm).1, by rw [hk p.1 (List.mem_map_of_mem hm)]; exact (h.holds p hm).2⟩⟩
theorem St.grow (h : St base w0 w L) {w' : World} (g : Below w.heap.size w w') : St base w0 w' L :=
  h.later (h.below.trans (g.mono h.le)) (Nat.le_trans h.le g.size) fun k hk => by
    obtain ⟨p, hp, rfl⟩ := List.mem_map.1 hk
    exact g.block _ (h.lt hp)
theorem St.drew (h : St base w0 w L) : St base w0 w.drew L := ⟨h.below.drew, h.le, h.nodup, h.holds⟩
theorem St.drewN (h : St base w0 w L) (n : Nat) : St base w0 (w.drewN n) L := ⟨⟨h.below.os, h.below.tape, h.below.output, h.below.size, h.below.block⟩, h.le, h.nodup, h.holds⟩

/-- A new block, kept. -/
theorem St.alloc (h : St base w0 w L) (o : Obj) : St base w0 (w.alloc o) ((w.heap.size, o) :: L) where
  below := h.below.alloc h.le o
  le := by have := h.le; simp; omega
  nodup := by
    rw [keys_cons, List.nodup_cons]
    refine ⟨fun hk => ?_, h.nodup⟩
    obtain ⟨p, hp, e⟩ := List.mem_map.1 hk
    have := h.lt hp
    simp only at e; omega
  holds := by
    intro p hm
    rcases List.mem_cons.1 hm with rfl | hm
    · refine ⟨h.le, ?_⟩
      show (w.heap.push o)[w.heap.size]? = some o
      simp
    · refine ⟨(h.holds p hm).1, ?_⟩
      rw [Below.heap_alloc _ _ _ (h.lt hm)]; exact (h.holds p hm).2
/-- The same, the block's number as the walk spells it. -/
theorem St.allocAt (h : St base w0 w L) (n : Nat) (hn : n = w.heap.size) (o : Obj) : St base w0 (w.alloc o) ((n, o) :: L) := by subst hn; exact h.alloc o
/-- A new block, forgotten. -/
theorem St.junk (h : St base w0 w L) (o : Obj) : St base w0 (w.alloc o) L := (h.alloc o).tail

theorem heap_setCell_same (w : World) (b off : Nat) (v : Value) {cs : Array Value} {t : TypeId} {fr : Nat × Nat} (h : w.heap[b]? = some (.cells cs t fr)) :
    (w.setCell ⟨b, off, none⟩ v).heap[b]? = some (.cells (cs.setIfInBounds off v) t fr) := by
  simp [World.setCell, Array.getElem?_modify, h]

/-- A store into the block that is listed first. -/
theorem St.set {b : Nat} {cs : Array Value} {t : TypeId} {fr : Nat × Nat} (h : St base w0 w ((b, .cells cs t fr) :: L)) (off : Nat) (v : Value) :
    St base w0 (w.setCell ⟨b, off, none⟩ v) ((b, .cells (cs.setIfInBounds off v) t fr) :: L) where
  below := h.below.setCell (h.holds _ List.mem_cons_self).1 v
  le := by simpa using h.le
  nodup := h.nodup
  holds := by
    intro p hm
    rcases List.mem_cons.1 hm with rfl | hm
    · exact ⟨(h.holds _ List.mem_cons_self).1, heap_setCell_same _ _ _ _ (h.holds _ List.mem_cons_self).2⟩
    · refine ⟨(h.holds p (List.mem_cons_of_mem _ hm)).1, ?_⟩
      have hn := h.nodup
      rw [keys_cons, List.nodup_cons] at hn
      have : p.1 ≠ b := fun e => hn.1 (by have := List.mem_map_of_mem (f := Prod.fst) hm; rw [e] at this; exact this)
      rw [Below.heap_setCell _ _ _ _ (by simpa using this)]
      exact (h.holds p (List.mem_cons_of_mem _ hm)).2

/-- A store elsewhere. -/
theorem St.setOut (h : St base w0 w L) {b : Nat} (hk : b ∉ keys L) (hb : base ≤ b) (off : Nat) (v : Value) : St base w0 (w.setCell ⟨b, off, none⟩ v) L :=
  h.later (h.below.setCell hb v) (by simpa using h.le) fun k hk' => Below.heap_setCell _ _ _ _ (fun e => hk (by simp only at e; rw [← e]; exact hk'))
theorem St.notin {b : Nat} {o : Obj} (h : St base w0 w ((b, o) :: L)) : b ∉ keys L ∧ base ≤ b := by
  have hn := h.nodup
  rw [keys_cons, List.nodup_cons] at hn
  exact ⟨hn.1, (h.holds _ List.mem_cons_self).1⟩
theorem St.second {x y : Blk} (h : St base w0 w (x :: y :: L)) : St base w0 w (y :: x :: L) := h.perm (List.Perm.swap ..)
/-- What a listed block's cells hold. -/
theorem St.cells {b : Nat} {cs : Array Value} {t : TypeId} {fr : Nat × Nat} (h : St base w0 w L) (hm : (b, Obj.cells cs t fr) ∈ L) (k : Nat) : w.cell? ⟨b, k, none⟩ = cs[k]? := by
  have := (h.holds _ hm).2
  simp [World.cell?, this]
theorem St.frozen {b : Nat} {cs : Array Value} {t : TypeId} (h : St base w0 w L) (hm : (b, Obj.cells cs t (0, 0)) ∈ L) (k : Nat) : w.frozen? ⟨b, k, none⟩ = false := by
  have := (h.holds _ hm).2
  simp [World.frozen?, this]
/-- What 'Below' says of a cell and of its mark. -/
theorem bcell {W w1 : World} (hb : Below W.heap.size W w1) : (∀ b o, b < W.heap.size → w1.cell? ⟨b, o, none⟩ = W.cell? ⟨b, o, none⟩) ∧ (∀ b o, b < W.heap.size → w1.frozen? ⟨b, o, none⟩ = W.frozen? ⟨b, o, none⟩) :=
  ⟨fun b o h => hb.cell (p := ⟨b, o, none⟩) h, fun b o h => hb.frozen (p := ⟨b, o, none⟩) h⟩

/-! ### Cells of rows of records -/
theorem flat_get {α : Type} (enc : α → List Value) (s : Nat) (hs : ∀ x, (enc x).length = s) (xs : List α) (k j : Nat) (hj : j < s) :
    (xs.flatMap enc)[s * k + j]? = xs[k]?.bind fun x => (enc x)[j]? := by
  induction xs generalizing k with
  | nil => simp
  | cons x xs ih =>
    rw [List.flatMap_cons]
    cases k with
    | zero => rw [Nat.mul_zero, Nat.zero_add, List.getElem?_append_left (by rw [hs]; exact hj)]; simp
    | succ k =>
      rw [List.getElem?_append_right (by rw [hs, Nat.mul_succ]; omega), hs, show s * (k + 1) + j - s = s * k + j from by rw [Nat.mul_succ]; omega, ih]
      simp
theorem flat_length {α : Type} (enc : α → List Value) (s : Nat) (hs : ∀ x, (enc x).length = s) (xs : List α) : (xs.flatMap enc).length = s * xs.length := by
  induction xs with
  | nil => simp
  | cons x xs ih => rw [List.flatMap_cons, List.length_append, hs, ih, List.length_cons, Nat.mul_succ]; omega
theorem flat_set {α : Type} (enc : α → List Value) (s : Nat) (hs : ∀ x, (enc x).length = s) (xs : List α) (k j : Nat) (hj : j < s) (v : Value) (x y : α) (hx : xs[k]? = some x) (hy : enc y = (enc x).set j v) :
    (xs.flatMap enc).set (s * k + j) v = (xs.set k y).flatMap enc := by
  induction xs generalizing k with
  | nil => simp at hx
  | cons x' xs ih =>
    cases k with
    | zero =>
      simp only [List.getElem?_cons_zero, Option.some.injEq] at hx
      subst hx
      rw [List.flatMap_cons, Nat.mul_zero, Nat.zero_add, List.set_append, if_pos (by rw [hs]; exact hj), List.set_cons_zero, List.flatMap_cons, hy]
    | succ k =>
      simp only [List.getElem?_cons_succ] at hx
      rw [List.flatMap_cons, List.set_append, if_neg (by rw [hs, Nat.mul_succ]; omega), hs, show s * (k + 1) + j - s = s * k + j from by rw [Nat.mul_succ]; omega, ih k hx,
        List.set_cons_succ, List.flatMap_cons]

/-! ### One of many parts -/
theorem cnt_flat_get {α : Type} (f : α → List Blk) (x : Blk) (xs : List α) (k : Nat) (a : α) (ha : xs[k]? = some a) : cnt x (xs.flatMap f) = cnt x (f a) + cnt x ((xs.eraseIdx k).flatMap f) := by
  induction xs generalizing k with
  | nil => simp at ha
  | cons y ys ih =>
    cases k with
    | zero => simp at ha; subst ha; simp [cnt_append]
    | succ k => simp at ha; simp only [List.flatMap_cons, List.eraseIdx_cons_succ, cnt_append, ih k ha]; omega
theorem cnt_flat_set {α : Type} (f : α → List Blk) (x : Blk) (xs : List α) (k : Nat) (a : α) (hk : k < xs.length) : cnt x ((xs.set k a).flatMap f) = cnt x (f a) + cnt x ((xs.eraseIdx k).flatMap f) := by
  rw [cnt_flat_get f x (xs.set k a) k a (by simp [hk])]
  congr 2
  rw [List.eraseIdx_set_eq]

end Go.Proofs.BodegaHeap
set_option linter.unusedVariables false
namespace Go.Proofs.BodegaHeap
open Go.RowKit

/-- Where a row lies: its block (none: nil), how many elements are to spare, the cells to spare. -/
structure Rw where
  blk : Option Nat
  k : Nat
  sp : List Value
abbrev rowA (r : Rw) : Option Addr := r.blk.map fun b => ⟨b, 0, none⟩
abbrev rowV (r : Rw) (n : Nat) : Value := .slice (rowA r) n (n + r.k)
def rowH (r : Rw) (t : TypeId) (cs : List Value) : List Blk := match r.blk with
  | none => []
  | some b => [(b, .cells (cs ++ r.sp).toArray t (0, 0))]
structure RowOk (r : Rw) (size n : Nat) (cs : List Value) : Prop where
  len : cs.length = n * size
  nil : r.blk = none → n = 0 ∧ r.k = 0 ∧ r.sp = []
  sp : r.sp.length = r.k * size
  le : n + r.k ≤ maxLen
def nilRw : Rw := ⟨none, 0, []⟩
theorem nilRw_ok (size : Nat) : RowOk nilRw size 0 [] := ⟨by simp, fun _ => ⟨rfl, rfl, rfl⟩, by simp [nilRw], by simp [nilRw, maxLen]⟩
theorem rowH_nil (t : TypeId) (cs : List Value) : rowH nilRw t cs = [] := rfl
theorem rowH_some (b k : Nat) (sp : List Value) (t : TypeId) (cs : List Value) : rowH ⟨some b, k, sp⟩ t cs = [(b, .cells (cs ++ sp).toArray t (0, 0))] := rfl
theorem RowOk.pos {r : Rw} {size n : Nat} {cs : List Value} (h : RowOk r size n cs) (hn : 0 < n) : ∃ b, r.blk = some b := by
  cases hb : r.blk with
  | none => have := h.nil hb; omega
  | some b => exact ⟨b, rfl⟩

variable {base : Nat} {w0 w : World} {L M : List Blk}

/-- What is read at a row's place. -/
theorem St.row_cell {r : Rw} {t : TypeId} {cs : List Value} (h : St base w0 w L) {b : Nat} (hb : r.blk = some b) (hm : ∀ p, p ∈ rowH r t cs → p ∈ L) (k : Nat) (hk : k < cs.length) : w.cell? ⟨b, k, none⟩ = cs[k]? := by
  have hm' : (b, Obj.cells (cs ++ r.sp).toArray t (0, 0)) ∈ L := hm _ (by simp [rowH, hb])
  rw [h.cells hm' k]
  simp [List.getElem?_append_left hk]
theorem St.row_frozen {r : Rw} {t : TypeId} {cs : List Value} (h : St base w0 w L) {b : Nat} (hb : r.blk = some b) (hm : ∀ p, p ∈ rowH r t cs → p ∈ L) (k : Nat) : w.frozen? ⟨b, k, none⟩ = false := by
  have hm' : (b, Obj.cells (cs ++ r.sp).toArray t (0, 0)) ∈ L := hm _ (by simp [rowH, hb])
  exact h.frozen hm' k

theorem St.owns {r : Rw} {size n : Nat} {t : TypeId} {cs : List Value} (hr : RowOk r size n cs) (h : St base w0 w (rowH r t cs ++ L)) : w.ownsRow base t size (rowV r n) n cs := by
  refine ⟨hr.len, ?_⟩
  cases hb : r.blk with
  | none =>
    obtain ⟨h1, h2, h3⟩ := hr.nil hb
    exact .inl ⟨by simp [rowV, rowA, hb, h1, h2], h1⟩
  | some b =>
    have hm : (b, Obj.cells (cs ++ r.sp).toArray t (0, 0)) ∈ rowH r t cs ++ L := by simp [rowH, hb]
    refine .inr ⟨b, n + r.k, (cs ++ r.sp).toArray, by simp [rowV, rowA, hb], (h.holds _ hm).1, (h.holds _ hm).2, Nat.le_add_right _ _, hr.le, ?_, ?_⟩
    · simp [hr.len, hr.sp, Nat.add_mul]
    · simp [← hr.len]

theorem St.of_grown {r : Rw} {t : TypeId} {cs : List Value} (h : St base w0 w (rowH r t cs ++ L)) {w' : World} (hg : w.grownBy w' r.blk) : St base w0 w' L := by
  refine h.drop.later (h.below.grown hg h.le fun k hk => ?_) (Nat.le_trans h.le hg.size) fun k hk => ?_
  · have hm : (k, Obj.cells (cs ++ r.sp).toArray t (0, 0)) ∈ rowH r t cs ++ L := by simp [rowH, hk]
    exact (h.holds _ hm).1
  · obtain ⟨p, hp, rfl⟩ := List.mem_map.1 hk
    refine hg.block _ (h.lt (List.mem_append_right _ hp)) fun e => ?_
    have hn := h.nodup
    rw [keys_append] at hn
    refine (List.nodup_append.1 hn).2.2 p.1 ?_ p.1 hk rfl
    simp [keys, rowH, ← e]

/-- A row behind an append. -/
theorem St.of_appended {r : Rw} {t : TypeId} {cs : List Value} {size n : Nat} {v' : Value} {xs : List Value} (hsz : 0 < size) (h : St base w0 w (rowH r t cs ++ L)) {w' : World} (hg : w.grownBy w' r.blk)
    (ho : w'.ownsRow base t size v' n xs) (hat : v'.ownBlock = r.blk ∨ v'.ownBlock = some w.heap.size) :
    ∃ r' : Rw, v' = rowV r' n ∧ RowOk r' size n xs ∧ St base w0 w' (rowH r' t xs ++ L) := by
  have hL := h.of_grown hg
  obtain ⟨hlen, ho⟩ := ho
  rcases ho with ⟨rfl, rfl⟩ | ⟨g, cap, cur, rfl, hb, hh, hc1, hc2, hc3, hc4⟩
  · obtain rfl : xs = [] := List.eq_nil_of_length_eq_zero (by simpa using hlen)
    exact ⟨nilRw, rfl, nilRw_ok _, by simpa [rowH, nilRw] using hL⟩
  · have hcl : cur.toList = xs ++ cur.toList.drop (n * size) := by rw [← hc4, List.take_append_drop]
    refine ⟨⟨some g, cap - n, cur.toList.drop (n * size)⟩, by simp [rowV, rowA]; omega, ⟨hlen, fun e => by simp at e, ?_, by simp; omega⟩, ?_⟩
    · simp [hc3, Nat.sub_mul]
    · rw [rowH_some]
      have hcur : cur = (xs ++ cur.toList.drop (n * size)).toArray := by rw [← hcl]
      have hne : g ∉ keys L := by
        intro hk
        obtain ⟨p, hp, e⟩ := List.mem_map.1 hk
        have hlt := h.lt (List.mem_append_right (rowH r t cs) hp)
        rcases hat with hat | hat
        · have hn := h.nodup
          rw [keys_append] at hn
          refine (List.nodup_append.1 hn).2.2 g ?_ g hk rfl
          have : r.blk = some g := by rw [← hat]; rfl
          simp [keys, rowH, this]
        · have : g = w.heap.size := by simpa [Value.ownBlock] using hat
          have e' : p.1 = g := e
          omega
      refine ⟨hL.below, hL.le, ?_, ?_⟩
      · rw [List.singleton_append, keys_cons, List.nodup_cons]
        exact ⟨hne, hL.nodup⟩
      · intro p hp
        rcases List.mem_append.1 hp with hp | hp
        · simp only [List.mem_singleton] at hp
          subst hp
          exact ⟨hb, by rw [hh]; rw [← hcur]⟩
        · exact hL.holds p hp

section
variable {P : Program} {ops : Array Oper} {rest : List Oper} {o : Oper} {a : Act} {Q : Exit → Act → World → Prop}

/-- The fact on an element's type. -/
structure ElemOk (P : Program) (t e : TypeId) (size bytes : Nat) : Prop where
  ut : P.underlying t = some (.slice e)
  info : ∃ i z, P.info? e = some i ∧ i.zero = some z ∧ i.size = size ∧ i.bytes = bytes ∧ z.cells.size = size
  pos : 0 < size
  small : bytes ≤ 1000

/-- append(row, news...): what is appended lies at 'ad'. -/
theorem wp_append {t e : TypeId} {size bytes : Nat} (he : ElemOk P t e size bytes) (hgd : o.guard = none) (s x : Operand)
    (ho : o.op = .call { callee := .builtin .append, args := #[s, x], argTypes := #[t, t] })
    (r : Rw) (n : Nat) (cs : List Value) (hs : a.eval s = rowV r n) (hr : RowOk r size n cs) (h : St base w0 w (rowH r e cs ++ L))
    (ad : Addr) (m c : Nat) (news : List Value) (hx : a.eval x = .slice (some ad) m c) (hl : news.length = m * size) (hnews : ∀ j u, news[j]? = some u → w.cell? (ad.add j) = some u) (h1 : ∀ u ∈ news, u.oneCell' = true)
    (hb : n + m ≤ 1000000000)
    (hk : ∀ r' w', RowOk r' size (n + m) (cs ++ news) → St base w0 w' (rowH r' e (cs ++ news) ++ L) → (r'.blk = none → r.blk = none ∧ m = 0) → wpList P ops Q rest (a.put o.dst (rowV r' (n + m))) w') :
    wpList P ops Q (o :: rest) a w := by
  obtain ⟨ut, ⟨i, z, hi, hz, hz1, hz2, hz3⟩, pos, small⟩ := he
  refine wpList_append_own_at w hgd s x t ho base e i z size bytes ut hi hz hz1 hz2 hz3 pos (rowV r n) n cs hs (St.owns hr h) ad m c news hx hl hnews h1 (by simp only [maxLen]; omega)
    (Nat.le_trans (Nat.mul_le_mul hb small) (by omega)) h.le ?_
  intro v' w' ho' hg hnil hat
  have eb : (rowV r n).ownBlock = r.blk := by
    cases hb : r.blk <;> simp [rowV, rowA, Value.ownBlock, hb]
  rw [eb] at hg hat
  obtain ⟨r', rfl, hr', hst'⟩ := St.of_appended pos h hg ho' hat
  refine hk r' w' hr' hst' fun hn => ?_
  obtain ⟨h1, h2, h3⟩ := hr'.nil hn
  have := hnil.1 (by simp [rowV, rowA, hn, h1, h2])
  refine ⟨?_, this.2⟩
  have := this.1
  cases hb : r.blk with
  | none => rfl
  | some b => simp [rowV, rowA, hb] at this

/-- append(row, x): one element of one cell, in the box that the walk has laid. -/
theorem wp_append1 {t e : TypeId} {bytes : Nat} (he : ElemOk P t e 1 bytes) (hgd : o.guard = none) (s x : Operand)
    (ho : o.op = .call { callee := .builtin .append, args := #[s, x], argTypes := #[t, t] })
    (r : Rw) (n : Nat) (cs : List Value) (hs : a.eval s = rowV r n) (hr : RowOk r 1 n cs) (h : St base w0 w (rowH r e cs ++ L))
    (y : Value) (hx : a.eval x = .slice (some ⟨w.heap.size, 0, none⟩) 1 1) (h1 : y.oneCell' = true)
    (hb : n + 1 ≤ 1000000000)
    (hk : ∀ r' w', RowOk r' 1 (n + 1) (cs ++ [y]) → St base w0 w' (rowH r' e (cs ++ [y]) ++ L) → (∃ b, r'.blk = some b) → wpList P ops Q rest (a.put o.dst (rowV r' (n + 1))) w') :
    wpList P ops Q (o :: rest) a (w.alloc (.cells #[y] e)) := by
  refine wp_append he hgd s x ho r n cs hs hr (h.junk _) ⟨w.heap.size, 0, none⟩ 1 1 [y] hx (by simp) (cell_one_new w y e) (by simpa using h1) hb ?_
  intro r' w' h2 h3 h4
  refine hk r' w' h2 h3 ?_
  cases hb : r'.blk with
  | none => have := h4 hb; omega
  | some b => exact ⟨b, rfl⟩

theorem cells_new (w : World) (ys : Array Value) (t : TypeId) : ∀ j u, ys.toList[j]? = some u → (w.alloc (.cells ys t)).cell? ((⟨w.heap.size, 0, none⟩ : Addr).add j) = some u := by
  intro j u hj
  have e : ((⟨w.heap.size, 0, none⟩ : Addr).add j) = ⟨w.heap.size, j, none⟩ := by unfold Addr.add; split <;> simp_all
  rw [e]
  simpa using hj

/-- append(row, x): one element of several cells, in the box that the walk has laid. -/
theorem wp_appendN {t e : TypeId} {size bytes : Nat} (he : ElemOk P t e size bytes) (hgd : o.guard = none) (s x : Operand)
    (ho : o.op = .call { callee := .builtin .append, args := #[s, x], argTypes := #[t, t] })
    (r : Rw) (n : Nat) (cs : List Value) (hs : a.eval s = rowV r n) (hr : RowOk r size n cs) (h : St base w0 w (rowH r e cs ++ L))
    (ys : Array Value) (hy : ys.size = size) (hx : a.eval x = .slice (some ⟨w.heap.size, 0, none⟩) 1 1) (h1 : ∀ u ∈ ys.toList, u.oneCell' = true)
    (hb : n + 1 ≤ 1000000000)
    (hk : ∀ r' w', RowOk r' size (n + 1) (cs ++ ys.toList) → St base w0 w' (rowH r' e (cs ++ ys.toList) ++ L) → (∃ b, r'.blk = some b) → wpList P ops Q rest (a.put o.dst (rowV r' (n + 1))) w') :
    wpList P ops Q (o :: rest) a (w.alloc (.cells ys e)) := by
  refine wp_append he hgd s x ho r n cs hs hr (h.junk _) ⟨w.heap.size, 0, none⟩ 1 1 ys.toList hx (by simp [hy]) (cells_new w ys e) h1 hb ?_
  intro r' w' h2 h3 h4
  refine hk r' w' h2 h3 ?_
  cases hb : r'.blk with
  | none => have := h4 hb; omega
  | some b => exact ⟨b, rfl⟩

/-- A whole row written over. -/
theorem St.setRow {b : Nat} {cs : Array Value} {t : TypeId} {fr : Nat × Nat} (h : St base w0 w ((b, .cells cs t fr) :: L)) (cs' : Array Value) :
    St base w0 (w.setRow b cs') ((b, .cells cs' t fr) :: L) where
  below := h.below.trans ⟨rfl, rfl, rfl, by simp [World.setRow], fun k hk => setRow_other w b k cs' (by have := (h.holds _ List.mem_cons_self).1; simp only at this; omega)⟩
  le := by simpa [World.setRow] using h.le
  nodup := h.nodup
  holds := by
    intro p hm
    rcases List.mem_cons.1 hm with rfl | hm
    · exact ⟨(h.holds _ List.mem_cons_self).1, setRow_heap w b cs cs' t fr (h.holds _ List.mem_cons_self).2⟩
    · refine ⟨(h.holds p (List.mem_cons_of_mem _ hm)).1, ?_⟩
      have hn := h.nodup
      rw [keys_cons, List.nodup_cons] at hn
      have : p.1 ≠ b := fun e => hn.1 (by have := List.mem_map_of_mem (f := Prod.fst) hm; rw [e] at this; exact this)
      rw [setRow_other w b p.1 cs' this]
      exact (h.holds p (List.mem_cons_of_mem _ hm)).2

/-- copy(row[off:], src). -/
theorem wp_copy {dT sT elem : TypeId} (hgd : o.guard = none) (d s : Operand) (ho : o.op = .call { callee := .builtin .copy, args := #[d, s], argTypes := #[dT, sT] }) (hu : P.underlying dT = some (.slice elem)) (hsz : (P.info? elem).map (·.size) = some 1)
    (g off dLen dCap : Nat) (ad : Addr) (sLen sCap : Nat) (hd : a.eval d = .slice (some ⟨g, off, none⟩) dLen dCap) (hs : a.eval s = .slice (some ad) sLen sCap)
    (cur : Array Value) (t : TypeId) (h : St base w0 w ((g, .cells cur t (0, 0)) :: L)) (cs : List Value) (hn : cs.length = Nat.min sLen dLen)
    (hsrc : ∀ j v, cs[j]? = some v → w.cell? (ad.add j) = some v) (hfit : off + cs.length ≤ cur.size) (h1 : ∀ v ∈ cs, v.oneCell' = true)
    (hk : ∀ w', St base w0 w' ((g, .cells (cur.toList.take off ++ (cs ++ cur.toList.drop (off + cs.length))).toArray t (0, 0)) :: L) → wpList P ops Q rest (a.put o.dst (goInt cs.length)) w') :
    wpList P ops Q (o :: rest) a w :=
  wpList_copy_own hgd d s dT sT ho elem hu hsz g off dLen dCap ad sLen sCap hd hs cur t (h.holds _ List.mem_cons_self).2 cs hn hsrc hfit h1 (hk _ (h.setRow _))

/-- A region that draws its order: reads, then one that writes or calls: the world behind the draw, folded. -/
theorem wp_still_tail {id : Nat} {a : Act} {w : World} {l : List Oper} (n : Nat) (hm : P.follows .mixedOrders = true) (hB : Region.lexTailB .any l.toArray n = true)
    (h : wpStill P l.toArray w.drew (fun a' => wpList P l.toArray Q (l.drop n) a' w.drew) (l.take n) a) : (Code.region id l.toArray true).wp P Q a w :=
  wp_region_still_tail n hm hB h
end
end Go.Proofs.BodegaHeap
set_option linter.unusedVariables false
namespace Go.Proofs.YtaojipegpjolcaaGreat
open Go.RowKit

theorem ret_int {k : IntKind} {a b : Int} (h : a = b) : Ending.returned (.int k a) = .returned (.int k b) := by rw [h]
theorem ret_bool {a b : Bool} (h : a = b) : Ending.returned (.bool a) = .returned (.bool b) := by rw [h]

def pick (n k : Int) : Int := if k < 1 then 0 else n % k
theorem pick_lo (n k : Int) : 0 ≤ pick n k := by
  unfold pick; split
  · omega
  · exact Int.emod_nonneg _ (by omega)
theorem pick_hi (n k : Int) (h : 1 ≤ k) : pick n k < k := by unfold pick; rw [if_neg (by omega)]; exact Int.emod_lt_of_pos _ (by omega)
theorem pick_eq (n k : Int) (h : 1 ≤ k) (hk : k ≤ 4000000000) : (wrap64 (n.tmod k + k)).tmod k = n % k := by
  have h1 := Int.tmod_lt_of_pos n (show 0 < k by omega)
  have h2 : -k < n.tmod k := by
    rcases Int.lt_or_le n 0 with hn | hn
    · have e : n.tmod k = -((-n).tmod k) := by rw [Int.neg_tmod, Int.neg_neg]
      have := Int.tmod_lt_of_pos (-n) (show 0 < k by omega)
      omega
    · have := Int.tmod_nonneg k hn; omega
  have e : wrap64 (n.tmod k + k) = n.tmod k + k := by unfold wrap64; omega
  rw [e, Int.tmod_eq_emod_of_nonneg (by omega), Int.add_emod_right, Int.tmod_def]
  rw [Int.sub_eq_add_neg, ← Int.mul_neg, Int.add_mul_emod_self_left]

set_option maxHeartbeats 400000 in
theorem Pick_calls (w : World) (n k : Int) (hn : -9223372036854775808 ≤ n ∧ n ≤ 9223372036854775807) (hk : k ≤ 4000000000) :
    Calls Tryz.prog 14 #[.int .i64 n, .int .i64 k] w fun e w' => e = .returned (.int .i64 (pick n k)) ∧ w' = w := by
  by_cases h : k < 1
  · go_enter Tryz.func14, Tryz.ntmps14
    go_wp2
    go_ret
    exact ⟨ret_int (by simp [pick, h]), rfl⟩
  · go_enter Tryz.func14, Tryz.ntmps14
    go_wp2
    go_ret
    exact ⟨ret_int (by show (wrap64 (n.tmod k + k)).tmod k = _; rw [pick_eq n k (by omega) hk]; unfold pick; rw [if_neg (by omega)]), rfl⟩


theorem and_mask (x : Int) (i : Nat) (m : Int) (hm : m = ((2 ^ i - 1 : Nat) : Int)) (hi : 2 ^ i - 1 < 18446744073709551616) (h0 : 0 ≤ x) (h1 : x < 18446744073709551616) : bits .and .u64 x m = x % ((2 ^ i : Nat) : Int) := by
  obtain ⟨n, rfl⟩ := Int.eq_ofNat_of_zero_le h0
  subst hm
  rw [u64_and_nat n _ (by omega) hi, Nat.and_two_pow_sub_one_eq_mod]
  exact Int.natCast_emod _ _
theorem or_join (x y : Int) (i : Nat) (hx : x % ((2 ^ i : Nat) : Int) = 0) (h0 : 0 ≤ x) (h1 : x < 18446744073709551616) (h2 : 0 ≤ y) (h3 : y < ((2 ^ i : Nat) : Int)) (h4 : y < 18446744073709551616) : bits .or .u64 x y = x + y := by
  obtain ⟨n, rfl⟩ := Int.eq_ofNat_of_zero_le h0
  obtain ⟨m, rfl⟩ := Int.eq_ofNat_of_zero_le h2
  rw [u64_or_nat n m (by omega) (by omega), nat_join i n m (by exact_mod_cast hx) (by exact_mod_cast h3)]
  rfl

set_option maxHeartbeats 400000 in
theorem Split_calls (w : World) (x : Int) (h0 : 0 ≤ x) (h1 : x < 18446744073709551616) :
    Calls Tryz.prog 101 #[.int .u64 x] w fun e w' => e = .returned (.tuple #[.int .u64 (x / 4503599627370496), .int .u64 (x / 1099511627776 % 4096), .int .u64 (x % 1099511627776)]) ∧ w' = w := by
  have e1 : bits .and .u64 (x / 1099511627776) 4095 = x / 1099511627776 % 4096 := and_mask _ 12 _ rfl (by omega) (by omega) (by omega)
  have e2 : bits .and .u64 x 1099511627775 = x % 1099511627776 := and_mask _ 40 _ rfl (by omega) (by omega) (by omega)
  go_enter Tryz.func101, Tryz.ntmps101
  go_wp2
  go_ret3
  exact ⟨rfl, rfl⟩
set_option maxHeartbeats 400000 in
theorem Consensus_calls (w : World) (p a v : Int) (h0 : 0 ≤ p) (h1 : p ≤ 4095) (h2 : 0 ≤ a) (h3 : a ≤ 4095) (h4 : 0 ≤ v) (h5 : v ≤ 1099511627775) :
    Calls Tryz.prog 70 #[.int .u64 p, .int .u64 a, .int .u64 v] w fun e w' => e = .returned (.tuple #[.int .u64 (p * 4503599627370496 + a * 1099511627776 + v), .int .i64 0]) ∧ w' = w := by
  have e1 : bits .or .u64 (p * 4503599627370496) (a * 1099511627776) = p * 4503599627370496 + a * 1099511627776 := or_join _ _ 52 (by omega) (by omega) (by omega) (by omega) (by omega) (by omega)
  have e2 : bits .or .u64 (p * 4503599627370496 + a * 1099511627776) v = p * 4503599627370496 + a * 1099511627776 + v := or_join _ _ 40 (by omega) (by omega) (by omega) (by omega) (by omega) (by omega)
  go_enter Tryz.func70, Tryz.ntmps70
  go_wp2
  go_ret2
  exact ⟨rfl, rfl⟩
set_option maxHeartbeats 400000 in
theorem Ballot_calls (w : World) (r c : Int) (h0 : 1 ≤ r) (h1 : r ≤ 500) (h2 : 0 ≤ c) (h3 : c ≤ 5) :
    Calls Tryz.prog 28 #[.int .i64 r, .int .i64 c] w fun e w' => e = .returned (.tuple #[.int .u64 (r * 8 + c + 1), .int .i64 0]) ∧ w' = w := by
  go_enter Tryz.func28, Tryz.ntmps28
  go_wp2
  go_ret2
  exact ⟨rfl, rfl⟩
set_option maxHeartbeats 400000 in
theorem Cons_calls (w : World) (v : Int) (h0 : 0 ≤ v) (h1 : v ≤ 15) :
    Calls Tryz.prog 71 #[.int .i64 v] w fun e w' => e = .returned (.int .i64 (8 + v)) ∧ Below w.heap.size w w' := by
  go_enter Tryz.func71, Tryz.ntmps71
  go_wp2
  go_ret
  exact ⟨rfl, ((Below.refl _ _).alloc (Nat.le_refl _) _).alloc (by simp) _⟩

end Go.Proofs.YtaojipegpjolcaaGreat
set_option linter.unusedVariables false
namespace Go.Proofs.YtaojipegpjolcaaGreat
open Go.RowKit Go.Sort Go.Proofs.BodegaHeap

/-- A verb. -/
structure Vb where
  kind : Int
  node : Int
  at_ : Int
  n : Int
  old : Int
  new : Int
  words : List Int
  key : Int
  boot : Int
/-- A completion. -/
structure Dn where
  code : Int
  words : List Int

abbrev vCells (v : Vb) (A : Option Addr) (c : Nat) : Array Value :=
  #[.int .i64 v.kind, .int .i64 v.node, .int .i64 v.at_, .int .i64 v.n, .int .u64 v.old, .int .u64 v.new, .slice A v.words.length c, .int .u64 v.key, .int .i64 v.boot]
abbrev vVal (v : Vb) (A : Option Addr) (c : Nat) : Value := .agg (vCells v A c)

def vCount (v : Vb) : Int := if v.kind = 1 then v.n else if v.kind = 2 then v.words.length else if v.kind = 3 then 1 else if v.kind = 4 then 1 else 0
def vLast (v : Vb) : Int := if v.kind = 1 then 3 else 2

set_option maxHeartbeats 400000 in
theorem Count_calls (w : World) (v : Vb) (A : Option Addr) (c : Nat) :
    Calls Tryz.prog 92 #[vVal v A c] w fun e w' => e = .returned (.int .i64 (vCount v)) ∧ Below w.heap.size w w' := by
  go_enter Tryz.func92, Tryz.ntmps92
  go_wp2
  all_goals
    go_ret
    refine ⟨ret_int ?_, (Below.refl _ _).alloc (Nat.le_refl _) _⟩
    simp only [beq_iff_eq, beq_eq_false_iff_ne] at *
    unfold vCount
    simp [*]

set_option maxHeartbeats 400000 in
theorem lastLine_calls (w : World) (v : Vb) (A : Option Addr) (c : Nat) :
    Calls Tryz.prog 95 #[vVal v A c] w fun e w' => e = .returned (.int .i64 (vLast v)) ∧ Below w.heap.size w w' := by
  go_enter Tryz.func95, Tryz.ntmps95
  go_wp2
  all_goals
    go_ret
    refine ⟨ret_int ?_, (Below.refl _ _).alloc (Nat.le_refl _) _⟩
    simp only [beq_iff_eq, beq_eq_false_iff_ne] at *
    unfold vLast
    simp [*]

/-- What a small verb touches. -/
structure VSmall (v : Vb) : Prop where
  at0 : 0 ≤ v.at_
  at1 : v.at_ ≤ 4096
  c0 : 1 ≤ vCount v
  c1 : vCount v ≤ 1024

theorem wrap_in {x : Int} (h : -9223372036854775808 ≤ x) (h' : x ≤ 9223372036854775807) : IntKind.i64.wrap x = x := by rw [IntKind.wrap_i64]; omega
/-- A region's world, whichever: old blocks are as they were. -/
theorem quiet_out {w w' : World} (h : ∃ p : Regrown, w' = grow (redrawn w p.d) p.os) : Below w.heap.size w w' := by
  obtain ⟨p, rfl⟩ := h
  exact below_regrown w p.d p.os

set_option maxHeartbeats 400000 in
theorem span_calls (w : World) (v : Vb) (A : Option Addr) (c : Nat) (hv : VSmall v) :
    Calls Tryz.prog 94 #[vVal v A c] w fun e w' => e = .returned (.tuple #[.int .i64 (v.at_ / 8), .int .i64 ((v.at_ + vCount v - 1) / 8)]) ∧ Below w.heap.size w w' := by
  obtain ⟨h0, h1, h2, h3⟩ := hv
  go_enter Tryz.func94, Tryz.ntmps94
  go_wp2
  have hQ : ∀ d os, Calls Tryz.prog 92 #[vVal v A c] (grow (redrawn (w.alloc (.cells (vCells v A c) 113)) d) os) fun e w'' => e = .returned (.int .i64 (vCount v)) ∧ ∃ p : Regrown, w'' = grow (redrawn (w.alloc (.cells (vCells v A c) 113)) p.d) p.os := fun d os => Calls.regrown_of (Count_calls _ v A c)
  have hc : ∀ d os k, (grow (redrawn (w.alloc (.cells (vCells v A c) 113)) d) os).cell? ⟨w.heap.size, k, none⟩ = (vCells v A c)[k]? := by
    intro d os k
    rw [(below_regrown _ d os).cell (p := ⟨w.heap.size, k, none⟩) (by simp)]
    simp
  have e1 : IntKind.i64.wrap (v.at_ + vCount v) = v.at_ + vCount v := wrap_in (by omega) (by omega)
  have e2 : IntKind.i64.wrap (v.at_ + vCount v - 1) = v.at_ + vCount v - 1 := wrap_in (by omega) (by omega)
  have t1 : v.at_.tdiv 8 = v.at_ / 8 := Int.tdiv_eq_ediv_of_nonneg h0
  have t2 : (v.at_ + vCount v - 1).tdiv 8 = (v.at_ + vCount v - 1) / 8 := Int.tdiv_eq_ediv_of_nonneg (by omega)
  have e3 : IntKind.i64.wrap (v.at_ / 8) = v.at_ / 8 := wrap_in (by omega) (by omega)
  have e4 : IntKind.i64.wrap ((v.at_ + vCount v - 1) / 8) = (v.at_ + vCount v - 1) / 8 := wrap_in (by omega) (by omega)
  refine wp_region_quiet_below (by kernel_rfl) (by kernel_rfl) ?_
  repeat (quiet_step (exact hQ _ _))
  refine wpQuiet_nil ?_
  intro w1 hw1
  have hb := quiet_out hw1
  clear hw1 hQ hc e1 e2 t1 t2 e3 e4
  go_wp2
  go_ret2
  exact ⟨rfl, ((Below.refl _ _).alloc (Nat.le_refl _) _).trans (hb.mono (by simp))⟩

/-- A verb that may be posted to so many nodes of so many lines. -/
structure VOk (v : Vb) (nodes lines : Int) : Prop where
  kind : v.kind = 1 ∨ v.kind = 2 ∨ v.kind = 3 ∨ v.kind = 4
  n1 : 1 ≤ nodes
  n5 : nodes ≤ 5
  l1 : 1 ≤ lines
  l2 : lines ≤ 256
  nd0 : 0 ≤ v.node
  nd1 : v.node < nodes
  at0 : 0 ≤ v.at_
  c0 : 1 ≤ vCount v
  c1 : vCount v ≤ 1016
  fits : v.at_ + vCount v ≤ 8 * lines
  clear_ : v.at_ / 8 ≤ vLast v → (v.at_ + vCount v - 1) / 8 ≤ vLast v

set_option maxHeartbeats 800000 in
theorem inside_calls (w : World) (v : Vb) (A : Option Addr) (c : Nat) (nodes lines : Int) (hv : VOk v nodes lines) :
    Calls Tryz.prog 93 #[vVal v A c, .int .i64 nodes, .int .i64 lines] w fun e w' => e = .returned (.bool true) ∧ Below w.heap.size w w' := by
  have hs : VSmall v := ⟨hv.at0, by have := hv.fits; have := hv.l2; have := hv.c0; omega, hv.c0, by have := hv.c1; omega⟩
  obtain ⟨h1, h2, h3, h4, h5, h6, h7, h8, h9, h10, h11, h12⟩ := hv
  clear h1 h12
  go_enter Tryz.func93, Tryz.ntmps93
  go_wp2_with fail
  refine (Count_calls _ v A c).mono ?_
  rintro e w1 ⟨rfl, hb⟩
  have hc : ∀ k, w1.cell? ⟨w.heap.size, k, none⟩ = (vCells v A c)[k]? := by
    intro k
    rw [hb.cell (p := ⟨w.heap.size, k, none⟩) (by simp)]
    simp
  go_wp2_with fail
  refine (span_calls _ v A c hs).mono ?_
  rintro e w2 ⟨rfl, hb2⟩
  go_wp2
  go_ret
  exact ⟨ret_bool (by rw [decide_eq_true_eq]; omega), (((Below.refl _ _).alloc (Nat.le_refl _) _).trans (hb.mono (by simp))).trans (hb2.mono (by have := hb.size; simp at this; omega))⟩

set_option maxHeartbeats 800000 in
theorem Valid_calls (w : World) (v : Vb) (A : Option Addr) (c : Nat) (nodes lines : Int) (hv : VOk v nodes lines) :
    Calls Tryz.prog 78 #[vVal v A c, .int .i64 nodes, .int .i64 lines] w fun e w' => e = .returned (.int .i64 0) ∧ Below w.heap.size w w' := by
  have hs : VSmall v := ⟨hv.at0, by have := hv.fits; have := hv.l2; have := hv.c0; omega, hv.c0, by have := hv.c1; omega⟩
  have hi := hv
  obtain ⟨h1, h2, h3, h4, h5, h6, h7, h8, h9, h10, h11, h12⟩ := hv
  clear h1
  go_enter Tryz.func78, Tryz.ntmps78
  go_wp2_with fail
  refine (Count_calls _ v A c).mono ?_
  rintro e w1 ⟨rfl, hb⟩
  have hc : ∀ k, w1.cell? ⟨w.heap.size, k, none⟩ = (vCells v A c)[k]? := by
    intro k
    rw [hb.cell (p := ⟨w.heap.size, k, none⟩) (by simp)]
    simp
  go_wp2_with fail
  refine (inside_calls _ v A c _ _ hi).mono ?_
  rintro e w2 ⟨rfl, hb2⟩
  have hz1 : w.heap.size < w1.heap.size := by have := hb.size; simp at this; omega
  have hc2 : ∀ k, w2.cell? ⟨w.heap.size, k, none⟩ = (vCells v A c)[k]? := by
    intro k
    rw [hb2.cell (p := ⟨w.heap.size, k, none⟩) hz1, hc]
  clear hc
  go_wp2_with fail
  refine (span_calls _ v A c hs).mono ?_
  rintro e w3 ⟨rfl, hb3⟩
  have hz2 : w.heap.size < w2.heap.size := by have := hb2.size; omega
  have hc3 : ∀ k, w3.cell? ⟨w.heap.size, k, none⟩ = (vCells v A c)[k]? := by
    intro k
    rw [hb3.cell (p := ⟨w.heap.size, k, none⟩) hz2, hc2]
  clear hc2
  by_cases hl : v.at_ / 8 ≤ vLast v
  · have hl2 := h12 hl
    clear h12
    go_wp2_with fail
    refine (lastLine_calls _ v A c).mono ?_
    rintro e w4 ⟨rfl, hb4⟩
    have hz3 : w.heap.size < w3.heap.size := by have := hb3.size; omega
    have hc4 : ∀ k, w4.cell? ⟨w.heap.size, k, none⟩ = (vCells v A c)[k]? := by
      intro k
      rw [hb4.cell (p := ⟨w.heap.size, k, none⟩) hz3, hc3]
    clear hc3
    go_wp2_with fail
    refine (lastLine_calls _ v A c).mono ?_
    rintro e w5 ⟨rfl, hb5⟩
    go_wp2
    go_ret
    exact ⟨ret_int rfl, (((((Below.refl _ _).alloc (Nat.le_refl _) _).trans (hb.mono (by simp))).trans (hb2.mono (by omega))).trans (hb3.mono (by omega))).trans ((hb4.mono (by omega)).trans (hb5.mono (by have := hb4.size; omega)))⟩
  · clear h12
    go_wp2_with fail
    refine (lastLine_calls _ v A c).mono ?_
    rintro e w4 ⟨rfl, hb4⟩
    go_wp2
    go_ret
    exact ⟨ret_int rfl, (((((Below.refl _ _).alloc (Nat.le_refl _) _).trans (hb.mono (by simp))).trans (hb2.mono (by omega))).trans (hb3.mono (by omega))).trans (hb4.mono (by have := hb3.size; omega))⟩

end Go.Proofs.YtaojipegpjolcaaGreat
set_option linter.unusedVariables false
namespace Go.Proofs.YtaojipegpjolcaaGreat
open Go.RowKit Go.Sort Go.Proofs.BodegaHeap

/-- Is a verb of class Control? -/
def vCtl (v : Vb) : Bool := decide (v.at_ / 8 ≤ vLast v)
def vClass (v : Vb) : Int := if vCtl v then 1 else 2

set_option maxHeartbeats 400000 in
theorem Class_calls (w : World) (v : Vb) (A : Option Addr) (c : Nat) (h0 : 0 ≤ v.at_) (h1 : v.at_ ≤ 4096) :
    Calls Tryz.prog 97 #[vVal v A c] w fun e w' => e = .returned (.int .i64 (vClass v)) ∧ Below w.heap.size w w' := by
  go_enter Tryz.func97, Tryz.ntmps97
  go_wp2
  have hQ : ∀ d os, Calls Tryz.prog 95 #[vVal v A c] (grow (redrawn (w.alloc (.cells (vCells v A c) 113)) d) os) fun e w'' => e = .returned (.int .i64 (vLast v)) ∧ ∃ p : Regrown, w'' = grow (redrawn (w.alloc (.cells (vCells v A c) 113)) p.d) p.os := fun d os => Calls.regrown_of (lastLine_calls _ v A c)
  have hc : ∀ d os k, (grow (redrawn (w.alloc (.cells (vCells v A c) 113)) d) os).cell? ⟨w.heap.size, k, none⟩ = (vCells v A c)[k]? := by
    intro d os k
    rw [(below_regrown _ d os).cell (p := ⟨w.heap.size, k, none⟩) (by simp)]
    simp
  have t1 : v.at_.tdiv 8 = v.at_ / 8 := Int.tdiv_eq_ediv_of_nonneg h0
  have e3 : IntKind.i64.wrap (v.at_ / 8) = v.at_ / 8 := wrap_in (by omega) (by omega)
  refine wp_region_quiet_below (by kernel_rfl) (by kernel_rfl) ?_
  repeat (quiet_step (exact hQ _ _))
  refine wpQuiet_nil ?_
  intro w1 hw1
  have hb := quiet_out hw1
  clear hw1 hQ hc t1 e3
  go_wp2
  all_goals
    go_ret
    refine ⟨ret_int ?_, ((Below.refl _ _).alloc (Nat.le_refl _) _).trans (hb.mono (by simp))⟩
    go_tidy
    grind [vClass, vCtl]

def vCheck (v : Vb) (inc door key boot : Int) : Int :=
  if vCtl v = true ∧ v.kind = 1 then 0 else if inc < door then 5 else if vCtl v = true then 0 else if v.boot ≠ boot ∨ v.key ≠ key then 5 else 0

set_option maxHeartbeats 800000 in
theorem Check_calls (w : World) (v : Vb) (A : Option Addr) (c : Nat) (inc door key boot : Int) (h0 : 0 ≤ v.at_) (h1 : v.at_ ≤ 4096) (hi : 0 ≤ inc) (hi2 : inc ≤ 59) (hb0 : 0 ≤ v.boot) (hb1 : v.boot ≤ 1000) :
    Calls Tryz.prog 81 #[vVal v A c, .int .i64 inc, .int .u64 door, .int .u64 key, .int .u64 boot] w fun e w' => e = .returned (.int .i64 (vCheck v inc door key boot)) ∧ Below w.heap.size w w' := by
  have fin : ∀ (w1 : World) (x : Int), Below (w.heap.size + 1) (w.alloc (.cells (vCells v A c) 113)) w1 → x = vCheck v inc door key boot → Ending.returned (.int .i64 x) = Ending.returned (.int .i64 (vCheck v inc door key boot)) ∧ Below w.heap.size w w1 :=
    fun w1 x h e => ⟨ret_int e, ((Below.refl _ _).alloc (Nat.le_refl _) _).trans (h.mono (by simp))⟩
  have FIN := Lib.hid fin
  clear fin
  go_enter Tryz.func81, Tryz.ntmps81
  go_wp2_with fail
  refine (Class_calls _ v A c h0 h1).mono ?_
  rintro e w1 ⟨rfl, hb⟩
  have hcl : vClass v = if vCtl v then 1 else 2 := rfl
  have HCL := Lib.hid hcl
  clear hcl
  have hc : ∀ k, w1.cell? ⟨w.heap.size, k, none⟩ = (vCells v A c)[k]? := by
    intro k
    rw [hb.cell (p := ⟨w.heap.size, k, none⟩) (by simp)]
    simp
  have HB := Lib.hid hb
  clear hb
  go_wp2
  all_goals
    go_ret
    refine FIN.out _ _ (by simpa using HB.out) ?_
    have hcl := HCL.out
    clear FIN HB hc HCL
    go_tidy
    grind [vCheck]

/-- How many words a verb returns. -/
def vRet (v : Vb) : Int := if v.kind = 1 then v.n else if v.kind = 3 ∨ v.kind = 4 then 1 else 0
set_option maxHeartbeats 400000 in
theorem Returns_calls (w : World) (v : Vb) (A : Option Addr) (c : Nat) :
    Calls Tryz.prog 114 #[vVal v A c] w fun e w' => e = .returned (.int .i64 (vRet v)) ∧ Below w.heap.size w w' := by
  go_enter Tryz.func114, Tryz.ntmps114
  go_wp2
  all_goals
    go_ret
    refine ⟨ret_int ?_, (Below.refl _ _).alloc (Nat.le_refl _) _⟩
    go_tidy
    grind [vRet]

abbrev dCells (d : Dn) (A : Option Addr) (c : Nat) : Array Value := #[.int .i64 d.code, .slice A d.words.length c]
abbrev dVal (d : Dn) (A : Option Addr) (c : Nat) : Value := .agg (dCells d A c)
def dFits (v : Vb) (d : Dn) : Bool := if d.code = 0 then decide ((d.words.length : Int) = vRet v) else if d.code = 4 ∨ d.code = 5 then decide (d.words.length = 0) else false

set_option maxHeartbeats 800000 in
theorem fits_calls (w : World) (v : Vb) (d : Dn) (A B : Option Addr) (c cc : Nat) :
    Calls Tryz.prog 113 #[vVal v A c, dVal d B cc] w fun e w' => e = .returned (.bool (dFits v d)) ∧ Below w.heap.size w w' := by
  by_cases hk : d.code = 0
  · have hk2 : (d.code == 0) = true := by simp [hk]
    have HK := Lib.hid hk
    clear hk
    go_enter Tryz.func113, Tryz.ntmps113
    go_wp2
    obtain ⟨W, hW⟩ : ∃ W, W = (w.alloc (.cells (vCells v A c) 113)).alloc (.cells (dCells d B cc) 94) := ⟨_, rfl⟩
    have hQ : ∀ d os, Calls Tryz.prog 114 #[vVal v A c] (grow (redrawn W d) os) fun e w'' => e = .returned (.int .i64 (vRet v)) ∧ ∃ p : Regrown, w'' = grow (redrawn W p.d) p.os := fun d os => Calls.regrown_of (Returns_calls _ v A c)
    have hst : St w.heap.size w W [(w.heap.size + 1, .cells (dCells d B cc) 94), (w.heap.size, .cells (vCells v A c) 113)] := by
      rw [hW]; exact ((St.start w).alloc _).allocAt _ (by simp) _
    have hc : ∀ d os k, (grow (redrawn W d) os).cell? ⟨w.heap.size, k, none⟩ = (vCells v A c)[k]? := fun d os k => (hst.grow (below_regrown W d os)).cells (List.mem_cons_of_mem _ List.mem_cons_self) k
    have hc2 : ∀ d' os k, (grow (redrawn W d') os).cell? ⟨w.heap.size + 1, k, none⟩ = (dCells d B cc)[k]? := fun d os k => (hst.grow (below_regrown W d os)).cells List.mem_cons_self k
    have hz : Below w.heap.size w W := hst.below
    clear hst
    rw [← hW]
    clear hW
    refine wp_region_quiet_below (by kernel_rfl) (by kernel_rfl) ?_
    repeat (quiet_step (exact hQ _ _))
    refine wpQuiet_nil ?_
    intro w1 hw1
    have hb := quiet_out hw1
    clear hw1 hQ hc hc2
    go_wp2
    go_ret
    refine ⟨ret_bool ?_, hz.trans (hb.mono hz.size)⟩
    have hk := HK.out
    clear HK hb hz
    go_tidy
    grind [dFits]
  · have hk2 : (d.code == 0) = false := by simp [hk]
    have HK := Lib.hid hk
    clear hk
    go_enter Tryz.func113, Tryz.ntmps113
    go_wp2
    all_goals
      go_ret
      refine ⟨ret_bool ?_, ((Below.refl _ _).alloc (Nat.le_refl _) _).alloc (by simp) _⟩
      have hk := HK.out
      clear HK
      go_tidy
      grind [dFits]

end Go.Proofs.YtaojipegpjolcaaGreat
set_option linter.unusedVariables false
namespace Go.Proofs.YtaojipegpjolcaaGreat
open Go.RowKit Go.Sort Go.Proofs.BodegaHeap
variable {base : Nat} {w0 w : World} {L : List Blk}

theorem elem_u64 : ElemOk Tryz.prog 77 22 1 8 where
  ut := Tryz.underlying77
  info := by
    have h : (Tryz.prog.info? 22).map (fun i => (i.zero, i.size, i.bytes)) = some (some (.int .u64 0), 1, 8) := by kernel_rfl
    obtain ⟨i, hi, hz0, hz1, hz2⟩ := info_parts h
    exact ⟨i, _, hi, hz0, hz1, hz2, rfl⟩
  pos := by decide
  small := by decide
theorem elem_int : ElemOk Tryz.prog 34 3 1 8 where
  ut := Tryz.underlying34
  info := by
    have h : (Tryz.prog.info? 3).map (fun i => (i.zero, i.size, i.bytes)) = some (some (.int .i64 0), 1, 8) := by kernel_rfl
    obtain ⟨i, hi, hz0, hz1, hz2⟩ := info_parts h
    exact ⟨i, _, hi, hz0, hz1, hz2, rfl⟩
  pos := by decide
  small := by decide

theorem eqnil64 (w : World) (a : Option Addr) (n c : Nat) : (binOp .eql 77 (.slice a n c) (.slice none 0 0)).run Tryz.prog w = .ok (.bool a.isNone) w := Lib.run_eql_slice_nil w 77 22 a n c 0 0 Tryz.underlying77
theorem eqnilInt (w : World) (a : Option Addr) (n c : Nat) : (binOp .eql 34 (.slice a n c) (.slice none 0 0)).run Tryz.prog w = .ok (.bool a.isNone) w := Lib.run_eql_slice_nil w 34 3 a n c 0 0 Tryz.underlying34
theorem eqnilVb (w : World) (a : Option Addr) (n c : Nat) : (binOp .eql 106 (.slice a n c) (.slice none 0 0)).run Tryz.prog w = .ok (.bool a.isNone) w := Lib.run_eql_slice_nil w 106 113 a n c 0 0 Tryz.underlying106
theorem eqnilDn (w : World) (a : Option Addr) (n c : Nat) : (binOp .eql 82 (.slice a n c) (.slice none 0 0)).run Tryz.prog w = .ok (.bool a.isNone) w := Lib.run_eql_slice_nil w 82 94 a n c 0 0 Tryz.underlying82

theorem elem_vb : ElemOk Tryz.prog 106 113 9 88 where
  ut := Tryz.underlying106
  info := by
    have h : (Tryz.prog.info? 113).map (fun i => (i.zero, i.size, i.bytes)) = some (some (.agg #[.int .i64 0, .int .i64 0, .int .i64 0, .int .i64 0, .int .u64 0, .int .u64 0, .slice none 0 0, .int .u64 0, .int .i64 0]), 9, 88) := by kernel_rfl
    obtain ⟨i, hi, hz0, hz1, hz2⟩ := info_parts h
    exact ⟨i, _, hi, hz0, hz1, hz2, rfl⟩
  pos := by decide
  small := by decide

set_option maxHeartbeats 400000 in
theorem Clone64_calls (ad : Addr) (n c : Nat) (xs : List Value) (hl : xs.length = n) (hc : n ≤ c) (hn : n ≤ 100000000) (h1 : ∀ u ∈ xs, u.oneCell' = true) (hx : ∀ j u, xs[j]? = some u → w.cell? (ad.add j) = some u) (h : St base w0 w L) (R : Ending → World → Prop)
    (hR : ∀ r w', RowOk r 1 n xs → St base w0 w' (rowH r 22 xs ++ L) → R (.returned (rowV r n)) w') :
    Calls Tryz.prog 63 #[.slice (some ad) n c] w R := by
  have hx' : ∀ j u, xs[j]? = some u → (w.alloc (.cells #[] 22)).cell? (ad.add j) = some u := fun j u hj => by
    exact Lib.cell?_alloc_some _ (hx j u hj)
  have h' : St base w0 (w.alloc (.cells #[] 22)) (rowH ⟨some w.heap.size, 0, []⟩ 22 [] ++ L) := h.alloc _
  have HX := Lib.hid hx'
  have H := Lib.hid h'
  have HL := Lib.hid hl
  have H1 := Lib.hid h1
  clear hx h hl hx' h' h1
  have q := eqnil64
  go_enter Tryz.func63, Tryz.ntmps63
  go_wp2_with (at_builtin; refine wp_append (base := base) (w0 := w0) (L := L) elem_u64 rfl (.tmp 5) (.tmp 6) rfl ⟨some w.heap.size, 0, []⟩ 0 [] rfl ?c1 H.out ad n c xs rfl ?c3 HX.out H1.out ?c6 ?c7)
  case c1 => exact ⟨by simp, fun e => by simp at e, by simp, by simp [maxLen]⟩
  case c3 => rw [HL.out]; simp
  case c6 => omega
  case c7 =>
    try simp only [Nat.zero_add, List.nil_append]
    intro r' w' h1 h2 _
    go_wp2
    exact hR _ _ h1 h2

set_option maxHeartbeats 400000 in
theorem CloneInt_calls (ad : Addr) (n c : Nat) (xs : List Value) (hl : xs.length = n) (hc : n ≤ c) (hn : n ≤ 100000000) (h1 : ∀ u ∈ xs, u.oneCell' = true) (hx : ∀ j u, xs[j]? = some u → w.cell? (ad.add j) = some u) (h : St base w0 w L) (R : Ending → World → Prop)
    (hR : ∀ r w', RowOk r 1 n xs → St base w0 w' (rowH r 3 xs ++ L) → R (.returned (rowV r n)) w') :
    Calls Tryz.prog 42 #[.slice (some ad) n c] w R := by
  have hx' : ∀ j u, xs[j]? = some u → (w.alloc (.cells #[] 3)).cell? (ad.add j) = some u := fun j u hj => by
    exact Lib.cell?_alloc_some _ (hx j u hj)
  have h' : St base w0 (w.alloc (.cells #[] 3)) (rowH ⟨some w.heap.size, 0, []⟩ 3 [] ++ L) := h.alloc _
  have HX := Lib.hid hx'
  have H := Lib.hid h'
  have HL := Lib.hid hl
  have H1 := Lib.hid h1
  clear hx h hl hx' h' h1
  have q := eqnilInt
  go_enter Tryz.func42, Tryz.ntmps42
  go_wp2_with (at_builtin; refine wp_append (base := base) (w0 := w0) (L := L) elem_int rfl (.tmp 5) (.tmp 6) rfl ⟨some w.heap.size, 0, []⟩ 0 [] rfl ?c1 H.out ad n c xs rfl ?c3 HX.out H1.out ?c6 ?c7)
  case c1 => exact ⟨by simp, fun e => by simp at e, by simp, by simp [maxLen]⟩
  case c3 => rw [HL.out]; simp
  case c6 => omega
  case c7 =>
    try simp only [Nat.zero_add, List.nil_append]
    intro r' w' h1 h2 _
    go_wp2
    exact hR _ _ h1 h2

set_option maxHeartbeats 400000 in
theorem CloneVb_calls (ad : Addr) (n c : Nat) (xs : List Value) (hl : xs.length = n * 9) (hc : n ≤ c) (hn : n ≤ 100000000) (h1 : ∀ u ∈ xs, u.oneCell' = true) (hx : ∀ j u, xs[j]? = some u → w.cell? (ad.add j) = some u) (h : St base w0 w L) (R : Ending → World → Prop)
    (hR : ∀ r w', RowOk r 9 n xs → St base w0 w' (rowH r 113 xs ++ L) → R (.returned (rowV r n)) w') :
    Calls Tryz.prog 82 #[.slice (some ad) n c] w R := by
  have hx' : ∀ j u, xs[j]? = some u → (w.alloc (.cells #[] 113)).cell? (ad.add j) = some u := fun j u hj => by
    exact Lib.cell?_alloc_some _ (hx j u hj)
  have h' : St base w0 (w.alloc (.cells #[] 113)) (rowH ⟨some w.heap.size, 0, []⟩ 113 [] ++ L) := h.alloc _
  have HX := Lib.hid hx'
  have H := Lib.hid h'
  have HL := Lib.hid hl
  have H1 := Lib.hid h1
  clear hx h hl hx' h' h1
  have q := eqnilVb
  go_enter Tryz.func82, Tryz.ntmps82
  go_wp2_with (at_builtin; refine wp_append (base := base) (w0 := w0) (L := L) elem_vb rfl (.tmp 5) (.tmp 6) rfl ⟨some w.heap.size, 0, []⟩ 0 [] rfl ?c1 H.out ad n c xs rfl ?c3 HX.out H1.out ?c6 ?c7)
  case c1 => exact ⟨by simp, fun e => by simp at e, by simp, by simp [maxLen]⟩
  case c3 => exact HL.out
  case c6 => omega
  case c7 =>
    try simp only [Nat.zero_add, List.nil_append]
    intro r' w' h1 h2 _
    go_wp2
    exact hR _ _ h1 h2

end Go.Proofs.YtaojipegpjolcaaGreat
set_option linter.unusedVariables false
set_option linter.unusedSimpArgs false
namespace Go.Proofs.BodegaHeap
open Go Go.RowKit

section
variable {P : Program} {ops : Array Oper} {Q : Exit → Act → World → Prop} {md : Region.Mode} {S : World → Prop} {late : List Nat}

/-- As the kit's law of held worlds: but behind an operation of 'late' the condition need not stand. -/
def wpAnyT (P : Program) (md : Region.Mode) (ops : Array Oper) (Q : Exit → Act → World → Prop) (S : World → Prop) (late : List Nat) : Nat → Array Bool → Act → World → Prop
  | 0, listed, a, w => Region.ready md ops listed = [] ∧ Q .normal a w
  | fuel + 1, listed, a, w =>
    (Region.ready md ops listed = [] → Q .normal a w) ∧
    ∀ i ∈ Region.ready md ops listed, wpOp P ops Q i (fun a' w' => (late.contains i = false → S w') ∧ wpAnyT P md ops Q S late fuel (listed.setIfInBounds i true) a' w') a w

theorem wpAny_of_T : ∀ (fuel : Nat) (listed : Array Bool) (a : Act) (w : World), wpAnyT P md ops Q S late fuel listed a w → wpAny P md ops Q fuel listed a w
  | 0, _, _, _, h => h
  | fuel + 1, _, _, _, h => ⟨h.1, fun i hi => wpOp_mono (fun a' w' h' => wpAny_of_T fuel _ a' w' h'.2) (h.2 i hi)⟩

/-- Every late operation but i waits for i. -/
def lateWaits (md : Region.Mode) (ops : Array Oper) (late : List Nat) (i : Nat) : Bool :=
  late.all fun m => m == i || ((ops[m]?).map fun o => o.after.any fun e => Region.binds md e && e.on == i).getD true

theorem lateWaits_spec {i m : Nat} {o : Oper} (h : lateWaits md ops late i = true) (hm : late.contains m = true) (hne : m ≠ i) (ho : ops[m]? = some o) :
    ∃ e ∈ o.after, Region.binds md e = true ∧ e.on = i := by
  have h1 := List.all_eq_true.1 h m (by simpa using hm)
  rw [ho] at h1
  simp only [Option.map_some, Option.getD_some, Bool.or_eq_true, beq_iff_eq] at h1
  rcases h1 with h1 | h1
  · exact absurd h1 hne
  · rw [Array.any_eq_true'] at h1
    obtain ⟨e, he, h2⟩ := h1
    simp only [Bool.and_eq_true, beq_iff_eq] at h2
    exact ⟨e, he, h2.1, h2.2⟩

theorem wpAnyT_first {i : Nat} {oi : Oper} {v : Value} (hi : ops[i]? = some oi) (hsel : ∀ (j : Nat) (o : Oper) cs b, ops[j]? = some o → o.op ≠ .select cs b)
    (hQ : ∀ c a w, Q (.panic c) (a.put oi.dst v) w → Q (.panic c) a w) (hl : lateWaits md ops late i = true) :
    ∀ (fuel : Nat) (listed : Array Bool) (a : Act) (w : World),
      (∀ j oj, ops[j]? = some oj → j ≠ i → listed.getD j true = false → (∀ e ∈ oj.after, Region.binds md e = true → e.on ≠ i) → oi.apart ops oj = true) →
      i ∈ Region.ready md ops listed → YieldsIf P ops S oi v a → S w →
      wpAnyT P md ops Q S late fuel (listed.setIfInBounds i true) (a.put oi.dst v) w → wpAnyT P md ops Q S late (fuel + 1) listed a w := by
  intro fuel
  induction fuel with
  | zero =>
    intro listed a w _ hr hy hS H
    refine ⟨fun h => (by rw [h] at hr; cases hr), fun j hj => ?_⟩
    by_cases hji : j = i
    · subst hji; exact hy.wpOp hi hS ⟨fun _ => hS, H⟩
    · have := ready_mono hj hji
      rw [H.1] at this
      cases this
  | succ fuel ih =>
    intro listed a w hfree hr hy hS H
    refine ⟨fun h => (by rw [h] at hr; cases hr), fun j hj => ?_⟩
    by_cases hji : j = i
    · subst hji; exact hy.wpOp hi hS ⟨fun _ => hS, H⟩
    · have h1 := H.2 j (ready_mono hj hji)
      obtain ⟨hjun, oj, hoj, hall⟩ := mem_ready.1 hj
      have hnot : ∀ e ∈ oj.after, Region.binds md e = true → e.on ≠ i := fun e he hb heq => by
        have h1 := hall e he hb
        have h0 := (mem_ready.1 hr).1
        rw [heq] at h1
        rcases Nat.lt_or_ge i listed.size with h' | h'
        · simp [h'] at h0 h1; rw [h0] at h1; cases h1
        · simp [Array.getElem?_eq_none h'] at h1
      have hlj : late.contains j = false := by
        cases hc : late.contains j with
        | false => rfl
        | true =>
          obtain ⟨e, he, hb, hon⟩ := lateWaits_spec hl hc hji hoj
          exact absurd hon (hnot e he hb)
      have h2 := wpOp_putIf hoj (hfree j oj hoj hji hjun hnot) (fun cs b => hsel i oi cs b hi) (fun cs b => hsel j oj cs b hoj) hQ hy h1
      have hfree' : ∀ k ok, ops[k]? = some ok → k ≠ i → (listed.setIfInBounds j true).getD k true = false →
          (∀ e ∈ ok.after, Region.binds md e = true → e.on ≠ i) → oi.apart ops ok = true := fun k ok hk hki hun hno => by
        refine hfree k ok hk hki ?_ hno
        by_cases hjk : j = k
        · subst hjk; exact hjun
        · rw [getD_set_ne true hjk] at hun; exact hun
      refine wpOp_mono (fun a' w' h3 => ⟨h3.2.1, ih (listed.setIfInBounds j true) a' w' hfree' (ready_mono hr (Ne.symm hji)) h3.1 (h3.2.1 hlj) ?_⟩) h2
      rw [Array.setIfInBounds_comm _ _ hji]
      exact h3.2.2

theorem wpAnyT_take {i : Nat} {oi : Oper} {v : Value} {fuel : Nat} {listed : Array Bool} {a : Act} {w : World} (hi : ops[i]? = some oi)
    (hs : Region.noSelect ops = true) (hf : Region.free md ops listed i = true) (hr : (Region.ready md ops listed).contains i = true) (hl : lateWaits md ops late i = true)
    (hQ : ∀ c a w, Q (.panic c) (a.put oi.dst v) w → Q (.panic c) a w) (hy : YieldsIf P ops S oi v a) (hS : S w)
    (h : wpAnyT P md ops Q S late fuel (listed.setIfInBounds i true) (a.put oi.dst v) w) : wpAnyT P md ops Q S late (fuel + 1) listed a w :=
  wpAnyT_first hi (Region.noSelect_spec hs) hQ hl fuel listed a w (Region.free_spec hi hf) (by simpa using hr) hy hS h

theorem wpAnyT_done {listed : Array Bool} {a : Act} {w : World} (hr : Region.ready md ops listed = []) (h : Q .normal a w) :
    ∀ fuel, wpAnyT P md ops Q S late fuel listed a w
  | 0 => ⟨hr, h⟩
  | _ + 1 => ⟨fun _ => h, by rw [hr]; simp⟩

/-- One that comes up. -/
theorem wpAnyT_step {i : Nat} {o : Oper} {fuel : Nat} {listed : Array Bool} {a : Act} {w : World} (ho : ops[i]? = some o)
    (h : ∀ K' : Act → World → Prop, Shut (∀ a w, (late.contains i = false → S w) → ((late.contains i = false → S w) → wpAnyT P md ops Q S late fuel (listed.setIfInBounds i true) a w) → K' a w) → if Region.wanted o (yielded ops a.tmps) = true then Oper.wp P o a w K' Q else K' (a.put o.dst undef) w) :
    wpOp P ops Q i (fun a' w' => (late.contains i = false → S w') ∧ wpAnyT P md ops Q S late fuel (listed.setIfInBounds i true) a' w') a w :=
  wpOp_step ho (fun K' hK => h K' (fun a w hS hW => hK a w ⟨hS, hW hS⟩))

/-- The only one that may come up. -/
theorem wpAnyT_one {i : Nat} {o : Oper} {fuel : Nat} {listed : Array Bool} {a : Act} {w : World} (hr : Region.ready md ops listed = [i]) (ho : ops[i]? = some o)
    (h : ∀ K' : Act → World → Prop, Shut (∀ a w, (late.contains i = false → S w) → ((late.contains i = false → S w) → wpAnyT P md ops Q S late fuel (listed.setIfInBounds i true) a w) → K' a w) → if Region.wanted o (yielded ops a.tmps) = true then Oper.wp P o a w K' Q else K' (a.put o.dst undef) w) :
    wpAnyT P md ops Q S late (fuel + 1) listed a w :=
  ⟨fun h0 => by rw [hr] at h0; simp at h0, fun j hj => by
    rw [hr] at hj; obtain rfl : j = i := by simpa using hj
    exact wpAnyT_step ho h⟩

/-- One of two comes up. -/
theorem wpAnyT_two {i j : Nat} {o o2 : Oper} {fuel : Nat} {listed : Array Bool} {a : Act} {w : World} (hr : Region.ready md ops listed = [i, j]) (ho : ops[i]? = some o) (ho2 : ops[j]? = some o2)
    (h : ∀ K' : Act → World → Prop, Shut (∀ a w, (late.contains i = false → S w) → ((late.contains i = false → S w) → wpAnyT P md ops Q S late fuel (listed.setIfInBounds i true) a w) → K' a w) → if Region.wanted o (yielded ops a.tmps) = true then Oper.wp P o a w K' Q else K' (a.put o.dst undef) w)
    (h2 : ∀ K' : Act → World → Prop, Shut (∀ a w, (late.contains j = false → S w) → ((late.contains j = false → S w) → wpAnyT P md ops Q S late fuel (listed.setIfInBounds j true) a w) → K' a w) → if Region.wanted o2 (yielded ops a.tmps) = true then Oper.wp P o2 a w K' Q else K' (a.put o2.dst undef) w) :
    wpAnyT P md ops Q S late (fuel + 1) listed a w :=
  ⟨fun h0 => by rw [hr] at h0; simp at h0, fun k hk => by
    rw [hr] at hk
    rcases List.mem_cons.1 hk with rfl | hk
    · exact wpAnyT_step ho h
    · obtain rfl : k = j := by simpa using hk
      exact wpAnyT_step ho2 h2⟩

/-- The i-th of a list of operations, by plain recursion: 'rfl' gives the operation as it is written. -/
def nthO : List Oper → Nat → Option Oper
  | [], _ => none
  | o :: _, 0 => some o
  | _ :: l, n + 1 => nthO l n
theorem nthO_eq : ∀ (l : List Oper) (i : Nat), l.toArray[i]? = nthO l i
  | [], _ => by simp [nthO]
  | _ :: _, 0 => by simp [nthO]
  | _ :: l, n + 1 => by simpa [nthO] using nthO_eq l n

theorem wpAnyT_takeL {l : List Oper} {i : Nat} {oi : Oper} {v : Value} {fuel : Nat} {listed : Array Bool} {a : Act} {w : World} (hi : nthO l i = some oi)
    (hs : Region.noSelect l.toArray = true) (hf : Region.free md l.toArray listed i = true) (hr : (Region.ready md l.toArray listed).contains i = true) (hl : lateWaits md l.toArray late i = true)
    (hQ : ∀ c a w, Q (.panic c) (a.put oi.dst v) w → Q (.panic c) a w) (hy : YieldsIf P l.toArray S oi v a) (hS : S w)
    (h : wpAnyT P md l.toArray Q S late fuel (listed.setIfInBounds i true) (a.put oi.dst v) w) : wpAnyT P md l.toArray Q S late (fuel + 1) listed a w :=
  wpAnyT_take ((nthO_eq l i).trans hi) hs hf hr hl hQ hy hS h
theorem wpAnyT_oneL {l : List Oper} {i : Nat} {o : Oper} {fuel : Nat} {listed : Array Bool} {a : Act} {w : World} (hr : Region.ready md l.toArray listed = [i]) (ho : nthO l i = some o)
    (h : ∀ K' : Act → World → Prop, Shut (∀ a w, (late.contains i = false → S w) → ((late.contains i = false → S w) → wpAnyT P md l.toArray Q S late fuel (listed.setIfInBounds i true) a w) → K' a w) → if Region.wanted o (yielded l.toArray a.tmps) = true then Oper.wp P o a w K' Q else K' (a.put o.dst undef) w) :
    wpAnyT P md l.toArray Q S late (fuel + 1) listed a w :=
  wpAnyT_one hr ((nthO_eq l i).trans ho) h
theorem wpAnyT_twoL {l : List Oper} {i j : Nat} {o o2 : Oper} {fuel : Nat} {listed : Array Bool} {a : Act} {w : World} (hr : Region.ready md l.toArray listed = [i, j]) (ho : nthO l i = some o) (ho2 : nthO l j = some o2)
    (h : ∀ K' : Act → World → Prop, Shut (∀ a w, (late.contains i = false → S w) → ((late.contains i = false → S w) → wpAnyT P md l.toArray Q S late fuel (listed.setIfInBounds i true) a w) → K' a w) → if Region.wanted o (yielded l.toArray a.tmps) = true then Oper.wp P o a w K' Q else K' (a.put o.dst undef) w)
    (h2 : ∀ K' : Act → World → Prop, Shut (∀ a w, (late.contains j = false → S w) → ((late.contains j = false → S w) → wpAnyT P md l.toArray Q S late fuel (listed.setIfInBounds j true) a w) → K' a w) → if Region.wanted o2 (yielded l.toArray a.tmps) = true then Oper.wp P o2 a w K' Q else K' (a.put o2.dst undef) w) :
    wpAnyT P md l.toArray Q S late (fuel + 1) listed a w :=
  wpAnyT_two hr ((nthO_eq l i).trans ho) ((nthO_eq l j).trans ho2) h h2

theorem wp_region_T {id : Nat} {a : Act} {w : World} (late : List Nat) (hm : P.follows .mixedOrders = true) (hS : S w.drew)
    (h : wpAnyT P .any ops Q S late ops.size (Array.replicate ops.size false) a w.drew) : (Code.region id ops true).wp P Q a w :=
  wp_region_any hm (wpAny_of_T _ _ _ _ h)
end

/-- These blocks stand so. -/
def Holds (K : List Blk) (w : World) : Prop := ∀ p, p ∈ K → w.heap[p.1]? = some p.2
theorem Holds.of {base : Nat} {w0 w : World} {L K : List Blk} (h : St base w0 w L) (hm : ∀ p, p ∈ K → p ∈ L) : Holds K w := fun p hp => (h.holds p (hm p hp)).2
theorem Holds.st {K : List Blk} {w : World} (h : Holds K w) {p : Blk} (hp : p ∈ K) : St 0 w w [p] :=
  ⟨Below.refl _ _, Nat.zero_le _, by simp [keys], fun q hq => ⟨Nat.zero_le _, h _ (by rw [List.mem_singleton] at hq; rw [hq]; exact hp)⟩⟩
theorem Holds.cells {K : List Blk} {w : World} (h : Holds K w) {b : Nat} {cs : Array Value} {t : TypeId} {fr : Nat × Nat} (hp : (b, Obj.cells cs t fr) ∈ K) (k : Nat) : w.cell? ⟨b, k, none⟩ = cs[k]? :=
  (h.st hp).cells (t := t) (fr := fr) (by simp) k
theorem Holds.frozen {K : List Blk} {w : World} (h : Holds K w) {b : Nat} {cs : Array Value} {t : TypeId} (hp : (b, Obj.cells cs t (0, 0)) ∈ K) (k : Nat) : w.frozen? ⟨b, k, none⟩ = false :=
  (h.st hp).frozen (t := t) (cs := cs) (by simp) k

section
variable {P : Program} {o : Oper} {a : Act} {Q : Exit → Act → World → Prop} {K : Act → World → Prop} {base : Nat} {w0 w : World} {L : List Blk}

/-- append(row, news...), one operation alone. -/
theorem step_append {t e : TypeId} {size bytes : Nat} (he : ElemOk P t e size bytes) (s x : Operand)
    (ho : o.op = .call { callee := .builtin .append, args := #[s, x], argTypes := #[t, t] })
    (r : Rw) (n : Nat) (cs : List Value) (hs : a.eval s = rowV r n) (hr : RowOk r size n cs) (h : St base w0 w (rowH r e cs ++ L))
    (ad : Addr) (m c : Nat) (news : List Value) (hx : a.eval x = .slice (some ad) m c) (hl : news.length = m * size) (hnews : ∀ j u, news[j]? = some u → w.cell? (ad.add j) = some u) (h1 : ∀ u ∈ news, u.oneCell' = true)
    (hb : n + m ≤ 1000000000)
    (hk : ∀ r' w', RowOk r' size (n + m) (cs ++ news) → St base w0 w' (rowH r' e (cs ++ news) ++ L) → (r'.blk = none → r.blk = none ∧ m = 0) → K (a.put o.dst (rowV r' (n + m))) w') :
    Oper.wp P o a w K Q := by
  obtain ⟨ut, ⟨i, z, hi, hz, hz1, hz2, hz3⟩, pos, small⟩ := he
  obtain ⟨v', w', hrun, ho', hg, hnil, hat⟩ := run_append_own_at (P := P) w base t o.type e i z size bytes ut hi hz hz1 hz2 hz3 pos (rowV r n) n cs (St.owns hr h) ad m c news hl hnews h1 (by simp only [maxLen]; omega)
    (Nat.le_trans (Nat.mul_le_mul hb small) (by omega)) h.le
  unfold Oper.wp execOp
  simp only [ho, resolve, invoke, builtin, Sem.run_bind, Sem.run_pure, Result.andThen_ok, List.map_toArray, List.map_cons, List.map_nil, hs, hx, hrun]
  have eb : (rowV r n).ownBlock = r.blk := by
    cases hb : r.blk <;> simp [rowV, rowA, Value.ownBlock, hb]
  rw [eb] at hg hat
  obtain ⟨r', rfl, hr', hst'⟩ := St.of_appended pos h hg ho' hat
  refine hk r' w' hr' hst' (fun hn => ?_)
  · obtain ⟨h1, h2, h3⟩ := hr'.nil hn
    have := hnil.1 (by simp [rowV, rowA, hn, h1, h2])
    refine ⟨?_, this.2⟩
    have := this.1
    cases hb : r.blk with
    | none => rfl
    | some b => simp [rowV, rowA, hb] at this

theorem run_append_none {P : Program} (w : World) {t ty e : TypeId} {i : TypeInfo} {z : Value} (ht : P.underlying t = some (.slice e)) (hi : P.info? e = some i) (hz : i.zero = some z) (r : Rw) {n size : Nat} {cs : List Value} (hr : RowOk r size n cs) :
    (Builtin.append_ #[t, t] ty #[rowV r n, .slice none 0 0]).run P w = .ok (rowV r n) w := by
  cases hb : r.blk with
  | none =>
    obtain ⟨h1, h2, _⟩ := hr.nil hb
    simp [rowV, rowA, hb, h1, h2, Builtin.append_, run_underlying ht, sizeOf, typeInfo, hi, Builtin.lenOf, Builtin.firstCells, loadCells, loadCellsFrom]
  | some b =>
    simp [rowV, rowA, hb, Builtin.append_, run_underlying ht, sizeOf, typeInfo, hi, Builtin.lenOf, Builtin.firstCells, loadCells, loadCellsFrom, storeCells]

/-- append(row, other...): the other row stays. -/
theorem step_appendRow {t e : TypeId} {size bytes : Nat} (he : ElemOk P t e size bytes) (s x : Operand)
    (ho : o.op = .call { callee := .builtin .append, args := #[s, x], argTypes := #[t, t] })
    (r : Rw) (n : Nat) (cs : List Value) (hs : a.eval s = rowV r n) (hr : RowOk r size n cs) (r2 : Rw) (m : Nat) (ys : List Value) (hx : a.eval x = rowV r2 m) (hr2 : RowOk r2 size m ys)
    (h : St base w0 w (rowH r e cs ++ (rowH r2 e ys ++ L))) (h1 : ∀ u ∈ ys, u.oneCell' = true)
    (hb : n + m ≤ 1000000000)
    (hk : ∀ r' w', RowOk r' size (n + m) (cs ++ ys) → St base w0 w' (rowH r' e (cs ++ ys) ++ (rowH r2 e ys ++ L)) → K (a.put o.dst (rowV r' (n + m))) w') :
    Oper.wp P o a w K Q := by
  cases hb2 : r2.blk with
  | some b =>
    refine step_append he s x ho r n cs hs hr h ⟨b, 0, none⟩ m (m + r2.k) ys (by rw [hx]; simp [rowV, rowA, hb2]) hr2.len ?_ h1 hb (fun r' w' h2 h3 _ => hk r' w' h2 h3)
    intro j u hj
    have e1 : ((⟨b, 0, none⟩ : Addr).add j) = ⟨b, j, none⟩ := by unfold Addr.add; split <;> simp_all
    rw [e1, h.row_cell hb2 (fun p hp => List.mem_append_right _ (List.mem_append_left _ hp)) j (List.getElem?_eq_some_iff.1 hj).1]
    exact hj
  | none =>
    obtain ⟨h0, h2, h3⟩ := hr2.nil hb2
    subst h0
    have hys : ys = [] := List.eq_nil_of_length_eq_zero (by simpa using hr2.len)
    subst hys
    obtain ⟨ut, ⟨i, z, hi, hz, _, _, _⟩, _, _⟩ := he
    have hx2 : a.eval x = .slice none 0 0 := by rw [hx]; simp [rowV, rowA, hb2, h2]
    unfold Oper.wp execOp
    simp only [ho, resolve, invoke, builtin, Sem.run_bind, Sem.run_pure, Result.andThen_ok, List.map_toArray, List.map_cons, List.map_nil, hs, hx2, run_append_none w ut hi hz r hr]
    exact hk r w (by simpa using hr) (by simpa using h)

/-- append(row, x): one element, in the box that the walk has laid. -/
theorem step_appendN {t e : TypeId} {size bytes : Nat} (he : ElemOk P t e size bytes) (s x : Operand)
    (ho : o.op = .call { callee := .builtin .append, args := #[s, x], argTypes := #[t, t] })
    (r : Rw) (n : Nat) (cs : List Value) (hs : a.eval s = rowV r n) (hr : RowOk r size n cs) (h : St base w0 w (rowH r e cs ++ L))
    (ys : Array Value) (hy : ys.size = size) (hx : a.eval x = .slice (some ⟨w.heap.size, 0, none⟩) 1 1) (h1 : ∀ u ∈ ys.toList, u.oneCell' = true)
    (hb : n + 1 ≤ 1000000000)
    (hk : ∀ r' w', RowOk r' size (n + 1) (cs ++ ys.toList) → St base w0 w' (rowH r' e (cs ++ ys.toList) ++ L) → (∃ b, r'.blk = some b) → K (a.put o.dst (rowV r' (n + 1))) w') :
    Oper.wp P o a (w.alloc (.cells ys e)) K Q := by
  refine step_append he s x ho r n cs hs hr (h.junk _) ⟨w.heap.size, 0, none⟩ 1 1 ys.toList hx (by simp [hy]) (cells_new w ys e) h1 hb ?_
  intro r' w' h2 h3 h4
  refine hk r' w' h2 h3 ?_
  cases hb : r'.blk with
  | none => have := h4 hb; omega
  | some b => exact ⟨b, rfl⟩
end

end Go.Proofs.BodegaHeap
