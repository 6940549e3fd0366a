/- PaxosAgrees: the law's walk. A slice of events among the arguments of a law. The statement PaxosAgrees: the row's step (the guide's frame at this function), over the walk of AW. -/
import Derived.Test.YtaojipegpjolcaaGreatGO
import Derived.Test.YtaojipegpjolcaaGreatGQ
import Derived.Deep.LoopGhost
import Derived.Test.YtaojipegpjolcaaGreatRows
import Derived.WalkKit
import Derived.ProofKit
import Derived.OpenShut
import Derived.ChangeOld
import Derived.Below
import Derived.Carry
import Derived.Lib.SmallJoins
set_option linter.unusedVariables false
set_option linter.unusedSimpArgs false
namespace Go.Proofs.YtaojipegpjolcaaGreat
open Go.RowKit Go.Sort Go.Proofs.BodegaHeap
variable {base : Nat} {w0 w : World} {L : List Blk}

theorem pBack_boots2 {P : PF} (hd : ∀ N ∈ P.ns, door6 N) {b : Int} (hb : b ≤ 30) {k : Nat} (h : Boots b k P) : Boots b (k + 1) (pBack P k) := by
  intro i N hN
  unfold pBack at hN
  cases hk : P.ns[k]? with
  | none =>
    rw [hk] at hN
    simp only at hN
    have hl := List.getElem?_eq_none_iff.1 hk
    have hi := (List.getElem?_eq_some_iff.1 hN).1
    obtain ⟨h1, h2, h3⟩ := h i N hN
    rw [if_pos (by omega)] at h2 ⊢
    exact ⟨h1, h2, fun _ => h3 (by omega)⟩
  | some M =>
    rw [hk] at hN
    simp only [pSetN] at hN
    have hkl := (List.getElem?_eq_some_iff.1 hk).1
    by_cases e : k = i
    · subst e
      rw [List.getElem?_set_self hkl] at hN
      cases hN
      obtain ⟨h1, h2, h3⟩ := h k M hk
      rw [if_neg (Nat.lt_irrefl _)] at h2
      rw [if_pos (Nat.lt_succ_self _)]
      have hlen := (hd M (List.mem_of_getElem? hk)).1
      unfold ndBack
      by_cases hd : M.down = true
      · rw [if_pos ⟨hd, by omega⟩]
        have e1 : (M.words.set 1 (M.words.getD 1 0 + 1)).getD 1 0 = M.words.getD 1 0 + 1 := by
          rw [List.getD_eq_getElem?_getD (l := M.words.set _ _), List.getElem?_set_self (by omega)]; rfl
        simp only [e1]
        exact ⟨by omega, by omega, fun _ => trivial⟩
      · rw [if_neg (fun q => hd q.1)]
        exact ⟨h1, by omega, fun _ => by simpa using hd⟩
    · rw [List.getElem?_set_ne e] at hN
      obtain ⟨h1, h2, h3⟩ := h i N hN
      by_cases hi : i < k
      · rw [if_pos hi] at h2
        rw [if_pos (by omega)]
        exact ⟨h1, h2, fun _ => h3 hi⟩
      · rw [if_neg hi] at h2
        rw [if_neg (by omega)]
        exact ⟨h1, h2, fun q => by omega⟩
/-- Behind the drive, in memory. -/
structure AgR (base : Nat) (w0 : World) (M : List Blk) (n fb : Nat) (ts : List PT) (F : FB) (wr : World) : Prop where
  fb : F.fb = fb
  ok : FbOk F
  rng : PRng F.pure
  inv : ∃ vt, Inv n F.pure ts vt
  st : St base w0 wr (fbH F ++ M)
theorem AgR.ns {M : List Blk} {n fb : Nat} {ts : List PT} {F : FB} {wr : World} (h : AgR base w0 M n fb ts F wr) : F.ns.length = n := by
  obtain ⟨vt, hi⟩ := h.inv
  have := hi.len; simpa [FB.pure] using this
theorem AgR.cs {M : List Blk} {n fb : Nat} {ts : List PT} {F : FB} {wr : World} (h : AgR base w0 M n fb ts F wr) : F.cs.length = 6 := by
  obtain ⟨vt, hi⟩ := h.inv
  have := hi.cl; simpa [FB.pure] using this
def AllUp (P : PF) : Prop := ∀ N ∈ P.ns, N.down = false
def finK (n : Nat) : TK := ⟨2, 5, finJ n, nilRw, [], false, false, 0, 0⟩
theorem finK_ok (F : FB) {n : Nat} (hn : F.ns.length = n) (hc : F.cs.length = 6) (n1 : 1 ≤ n) (n5 : n ≤ 5) : TsOk F [finK n] :=
  ⟨fun t ht => by
    rw [List.mem_singleton] at ht
    subst ht
    exact ⟨5, by omega, ⟨rfl, rfl, finJ_valid n1 n5, ⟨by simp [finK, finJ], by simp [finK, finJ]⟩, by rw [hn]; rfl, by simp [finK, finJ], by simp [finK, finJ], ⟨nilRw_ok 1, fun g hg => (by cases hg), by simp [finK]⟩, fun d hd => (by cases hd), by simp [finK]⟩, fun _ => by simp [finK]⟩⟩
theorem fin_facts {n : Nat} (n1 : 1 ≤ n) (n5 : n ≤ 5) {F F' : FB} {t' : TK} {ts : List PT} {vt : Vt} (h : Inv n F.pure ts vt) (hup : AllUp F.pure) (hc : pChoices F.pure = [])
    (e1 : F'.pure = (pDrive F.pure [(finK n).pure] [] 20000).1) (e2 : [t'.pure] = (pDrive F.pure [(finK n).pure] [] 20000).2) : t'.over = true ∧ t'.bad = false ∧ t'.code = 0 ∧ ∀ t ∈ ts, decd t → t'.value = t.value := by
  obtain ⟨P', q, e, k1, k2, k3, k4⟩ := fin_pure n1 n5 h hup hc
  have e' : pDrive F.pure [(finK n).pure] [] 20000 = (P', [q]) := e
  rw [e'] at e1 e2
  simp only at e1 e2
  obtain rfl : t'.pure = q := by simpa using e2
  exact ⟨k1, k2, k3, k4⟩

set_option maxRecDepth 100000 in
set_option maxHeartbeats 16000000 in
theorem PaxosAgrees_calls (w : World) (A B E : Option Addr) (raw sched : List Int) (evs : List Ev) (ca cb ce : Nat) (nodes : Int) (hA : ArgI w.heap.size w A raw) (hAr : ∀ x ∈ raw, I64 x) (hAl : raw.length ≤ maxLen) (hB : ArgI w.heap.size w B sched) (hBr : ∀ x ∈ sched, I64 x) (hBl : sched.length ≤ maxLen)
    (hE : ArgE w.heap.size w E evs) (hEr : ∀ e ∈ evs, EvR e) (hEl : evs.length ≤ maxLen) (hn : I64 nodes) :
    Calls Tryz.prog 4 #[.slice A raw.length ca, .int .i64 nodes, .slice B sched.length cb, .slice E evs.length ce] w fun e w' => e = .returned (.bool true) ∧ Below w.heap.size w w' := by
  have p1 := fun W => Pick_calls W nodes 3 hn (by decide)
  have q1 := pick_lo nodes 3
  have q2 := pick_hi nodes 3 (by decide)
  obtain ⟨a, ha⟩ : ∃ a, a = pick nodes 3 := ⟨_, rfl⟩
  rw [← ha] at p1 q1 q2
  obtain ⟨m, rfl⟩ := Int.eq_ofNat_of_zero_le q1
  have P1 := Lib.hid p1
  have HA := Lib.hid hA
  have HAR := Lib.hid hAr
  have HAL := Lib.hid hAl
  have HB := Lib.hid hB
  have HBR := Lib.hid hBr
  have HBL := Lib.hid hBl
  have HE := Lib.hid hE
  have HER := Lib.hid hEr
  have HEL := Lib.hid hEl
  unfold maxLen at hAl hBl hEl
  clear p1 ha hA hAr hB hBr hE hEr
  by_cases hlong : 200 < sched.length
  · have hlI : (200 : Int) < (sched.length : Int) := by omega
    go_enter Tryz.func4, Tryz.ntmps4
    go_wp2_with fail
    (refine Calls.mono (P1.out _) ?_; intro e w' hh; rw [hh.1, hh.2]; clear hh w' e)
    go_wp2
    go_ret
    exact ⟨rfl, Below.refl _ _⟩
  · have hlI : ¬ (200 : Int) < (sched.length : Int) := by omega
    by_cases hlong2 : 6 < evs.length
    · have hlI2 : (6 : Int) < (evs.length : Int) := by omega
      go_enter Tryz.func4, Tryz.ntmps4
      go_wp2_with fail
      (refine Calls.mono (P1.out _) ?_; intro e w' hh; rw [hh.1, hh.2]; clear hh w' e)
      go_wp2
      go_ret
      exact ⟨rfl, Below.refl _ _⟩
    · have hlI2 : ¬ (6 : Int) < (evs.length : Int) := by omega
      go_enter Tryz.func4, Tryz.ntmps4
      go_wp2_with fail
      (refine Calls.mono (P1.out _) ?_; intro e w' hh; rw [hh.1, hh.2]; clear hh w' e)
      go_wp2_with fail
      obtain ⟨n, hn1⟩ : ∃ n : Nat, n = 2 * m + 1 := ⟨_, rfl⟩
      rw [show (2 * (m : Int) + 1) = (n : Int) by omega]
      have n1 : 1 ≤ n := by omega
      have n5 : n ≤ 5 := by omega
      clear hn1 q1 q2 P1
      have hfr := fun R hR => Fresh_calls (base := w.heap.size) (w0 := w) (w := w) (L := []) n 6 98 n1 n5 (by decide) (by decide) (by decide) (by decide) (St.start w) R hR
      refine hfr _ ?_
      rintro fb w1 ⟨F, hF, rfl, hp, h1⟩
      have hnl : F.ns.length = n := by have := congrArg (fun P : PF => P.ns.length) hp; simpa [FB.pure, pFresh] using this
      have hcl : F.cs.length = 6 := by have := congrArg (fun P : PF => P.cs.length) hp; simpa [FB.pure, pFresh] using this
      have haw := awake_calls w1
      have HAW := Lib.hid haw
      have H1 := Lib.hid h1
      have HP := Lib.hid hp
      have HF := Lib.hid hF
      have HNL := Lib.hid hnl
      have HCL := Lib.hid hcl
      obtain ⟨fb, hfb⟩ : ∃ x, x = F.fb := ⟨_, rfl⟩
      have hpt : Value.pointer (some ⟨F.fb, 0, none⟩) = .pointer (some ⟨fb, 0, none⟩) := by rw [hfb]
      rw [hpt]
      have HFB := Lib.hid hfb
      clear haw h1 hp hF hfb hpt hfr hnl hcl
      go_wp2_with fail
      refine HAW.out.mono ?_
      rintro e w2 ⟨rfl, hb2⟩
      have h2 := H1.out.grow hb2
      have hpr := fun R hR => proposers_calls (R := R) (base := w.heap.size) (w0 := w) A raw ca HA.out HAR.out HAL.out n n5 h2 hR
      have HPR := Lib.hid hpr
      clear h2 hb2 H1 HAW hpr
      go_wp2_with fail
      refine HPR.out _ ?_
      intro r0 w3 hr0 h3
      have hpl := propsK_len n raw
      have hdr := fun R hR => DriveE_calls (R := R) (base := w.heap.size) (w0 := w) (w := w3) (L := []) F HF.out (by rw [HP.out]; exact pFresh_rng n 6 98 n5) (propsK n raw) (propsK_ok F raw HNL.out HCL.out n1 n5) (by rw [hpl]; omega) r0 (by rw [hpl]; exact hr0) B sched cb HB.out HBR.out HBL.out E evs ce HE.out HER.out HEL.out 400 (by decide) (by rw [propsK_G]; exact h3.ac (fun y => by simp only [fbH, fbR, cnt_append, cnt_cons, cnt_nil]; omega)) hR
      rw [hpl, show fP F = .pointer (some ⟨fb, 0, none⟩) by simp only [fP, HFB.out]] at hdr
      have HDR := Lib.hid hdr
      clear hr0 h3 hpl hdr HPR
      go_wp2_with fail
      refine HDR.out _ ?_
      intro F1 rl ts1 L1 w4 hd g1 g2
      rw [propsK_pure, HP.out] at g1 g2
      obtain ⟨s1, s2⟩ := start_SP n1 n5
      obtain ⟨vt, hinv, hbo⟩ := pDriveE_inv n1 n5 sched evs 400 (start_inv n1 n5 raw) s2
      rw [← g1, ← g2] at hinv
      rw [← g1] at hbo
      have hag := hinv.ag
      have hl1 := hd.len
      have hal := agreed_calls ts1 hag (by rw [hl1]; omega) rl (by rw [hl1]; exact hd.row) (fun p hp => List.mem_append_right _ (List.mem_append_left _ hp)) hd.st
      rw [hl1] at hal
      have hr1 : AgR w.heap.size w (rowH rl 54 (ts1.flatMap tkL) ++ (ts1.flatMap tkG ++ (L1 ++ []))) n fb (pts ts1) F1 w4 := ⟨hd.fb.trans HFB.out.symm, hd.ok, hd.rng, ⟨vt, hinv⟩, hd.st⟩
      have hbo' : Boots 8 0 F1.pure := hbo.up (by omega)
      obtain ⟨M, hM⟩ : ∃ M, M = rowH rl 54 (ts1.flatMap tkL) ++ (ts1.flatMap tkG ++ (L1 ++ [])) := ⟨_, rfl⟩
      rw [← hM] at hr1
      have HAL2 := Lib.hid hal
      have HAG := Lib.hid hag
      have HR1 := Lib.hid hr1
      have HBO := Lib.hid hbo'
      clear hd g1 g2 s1 s2 hinv hbo hbo' hag hl1 hal hr1 hM HDR HP HF HNL HCL HFB F HA HAR HAL HB HBR HBL HE HER HEL
      go_wp2_with fail
      refine HAL2.out.mono ?_
      rintro e w5 ⟨value, any, rfl, rfl, hyes, hno⟩
      have hvr : any = true → 100 ≤ value ∧ value < 104 := fun e => by
        obtain ⟨t, t1, t2, rfl⟩ := hyes e
        exact HAG.out.rng t t1 t2
      have HYES := Lib.hid hyes
      clear hyes hno HAG HAL2
      have hc : any = false ∨ (any = true ∧ 100 ≤ value ∧ value < 104) := by
        cases any with
        | false => exact .inl rfl
        | true => exact .inr ⟨rfl, hvr rfl⟩
      clear hvr
      rcases hc with rfl | ⟨rfl, v1, v2⟩
      all_goals
        go_wp2_with fail
        go_loopw [15] (fun i wr => ∃ (k : Nat) (F : FB), k ≤ n ∧ i = .int .i64 k ∧ Boots 8 k F.pure ∧ AgR w.heap.size w M n fb (pts ts1) F wr) (fun i wr => n - (intOf i).toNat)
        case atStart => exact ⟨0, F1, Nat.zero_le _, rfl, HBO.out, HR1.out⟩
        case round =>
          clear HBO HR1 F1
          obtain ⟨k, F, hk, rfl, hbo, hr⟩ := hrel
          by_cases hlt : k < n
          · have hltI : (k : Int) < (n : Int) := by omega
            have hns := hr.ns
            obtain ⟨y, hy⟩ : ∃ y, F.ns[k]? = some y := ⟨F.ns[k]'(by omega), by simp [show k < F.ns.length by omega]⟩
            have hnode := Node_calls F k y hy hr.ok.nr hr.ok.n1 hr.st
            rw [show fP F = .pointer (some ⟨fb, 0, none⟩) by simp only [fP, hr.fb]] at hnode
            have hback := fun R hR => Back_fb (R := R) F hr.ok hr.rng k y hy hr.st hR
            have hbn : Boots 8 (k + 1) (pBack F.pure k) := by
              obtain ⟨vt, hi⟩ := hr.inv
              exact pBack_boots2 hi.door (by decide) hbo
            have HNODE := Lib.hid hnode
            have HBACK := Lib.hid hback
            have HRR := Lib.hid hr
            have HBN := Lib.hid hbn
            clear hnode hback hr hy hns hbo hbn
            go_wp2_with fail
            (refine Calls.mono HNODE.out ?_; intro e w' hh; rw [hh.1, hh.2]; clear hh w' e)
            go_wp2_with fail
            refine HBACK.out _ ?_
            intro r2 F' w6 hd5 h5
            have hr5 : AgR w.heap.size w M n fb (pts ts1) F' w6 := ⟨hd5.fb.trans HRR.out.fb, hd5.ok, by rw [hd5.pure]; exact pBack_rng HRR.out.rng k, by
              obtain ⟨vt, hi⟩ := HRR.out.inv
              exact ⟨vt, by rw [hd5.pure]; exact pBack_inv hi k⟩, h5⟩
            have hb5 : Boots 8 (k + 1) F'.pure := by rw [hd5.pure]; exact HBN.out
            have HR5 := Lib.hid hr5
            have HB5 := Lib.hid hb5
            clear hd5 h5 hr5 hb5 HBACK HNODE HRR HBN
            go_wp2
            go_roundw
            case rel => exact ⟨k + 1, F', by omega, by go_num, HB5.out, HR5.out⟩
            case measure => simp [intOf]; omega
          · obtain rfl : n = k := by omega
            have hup : AllUp F.pure := fun N hN => by
              obtain ⟨i, hi⟩ := List.getElem?_of_mem hN
              have hil := (List.getElem?_eq_some_iff.1 hi).1
              rw [pure_ns, hr.ns] at hil
              exact (hbo i N hi).2.2 hil
            have HUP := Lib.hid hup
            have HRR := Lib.hid hr
            clear hbo hr hup
            go_wp2_with fail
            go_loopg [] (pendP F.pure) (fun k wr => ∃ F : FB, pendP F.pure ≤ k ∧ AllUp F.pure ∧ AgR w.heap.size w M n fb (pts ts1) F wr)
            case atStart => exact ⟨F, Nat.le_refl _, HUP.out, HRR.out⟩
            case round =>
              clear HUP HRR F
              obtain ⟨F, hpd, hup, hr⟩ := hrel
              have hch := fun (W : World) (hW : St w.heap.size w W (fbH F ++ M)) R hR => Choices_calls (R := R) F hr.ok hW hR
              rw [show fP F = .pointer (some ⟨fb, 0, none⟩) by simp only [fP, hr.fb]] at hch
              have hlen := hr.ok.choices
              obtain ⟨cs, hcs⟩ : ∃ cs, cs = pChoices F.pure := ⟨_, rfl⟩
              rw [← hcs] at hch hlen
              have HCH := Lib.hid hch
              have HRR := Lib.hid hr
              have HUP := Lib.hid hup
              have HCS := Lib.hid hcs
              clear hch hr hup hcs
              go_wp2_with fail
              refine HCH.out _ HRR.out.st _ ?_
              intro r1 w6 hr1 h6
              by_cases hz : cs = []
              · have hz0 : cs.length = 0 := by rw [hz]; rfl
                have hr6 : AgR w.heap.size w M n fb (pts ts1) F w6 := { HRR.out with st := h6.drop }
                have hal := fun R hR => Alone_calls (base := w.heap.size) (w0 := w) (w := w6) (L := M) F hr6.ok hr6.rng (finK n) (finK_ok F hr6.ns hr6.cs n1 n5) hr6.st R hR
                rw [show fP F = .pointer (some ⟨fb, 0, none⟩) by simp only [fP, hr6.fb]] at hal
                have hpp : ∀ (F' : FB) (t' : TK), F'.pure = (pDrive F.pure [(finK n).pure] [] 20000).1 → [t'.pure] = (pDrive F.pure [(finK n).pure] [] 20000).2 → t'.over = true ∧ t'.bad = false ∧ t'.code = 0 ∧ ∀ t ∈ pts ts1, decd t → t'.value = t.value := fun F' t' e1 e2 => by
                  obtain ⟨vt, hi⟩ := hr6.inv
                  exact fin_facts (F' := F') (t' := t') n1 n5 hi HUP.out (by rw [← HCS.out]; exact hz) e1 e2
                have HAL := Lib.hid hal
                have HPP := Lib.hid hpp
                rw [hz0]
                clear hal hpp hr6 hz hz0 hr1 h6 HCH HRR HUP HCS hpd
                go_wp2_with fail
                refine HAL.out _ ?_
                intro F' t' w7 g1 g2 g3 g4 g5 g6 g7 g8 h7
                obtain ⟨e1, e2, e3, e4⟩ := HPP.out F' t' g6 g7
                have h8 := h7.alloc (.cells (tkCs t') 54)
                have HZ := Lib.hid h8.below
                obtain ⟨kind, client, job, rr, gts, over, bad, code, val⟩ := t'
                simp only at e1 e2 e3 e4
                subst e1 e2 e3
                have hval := fun e => (by
                  obtain ⟨t, t1, t2, t3⟩ := HYES.out e
                  rw [← t3]; exact e4 t t1 t2 : val = value)
                have HVAL := Lib.hid hval
                clear hval e4 g1 g2 g3 g4 g5 g6 g7 g8 h7 h8 HAL HPP HYES
                by_cases hv : val = value
                · subst hv
                  clear HVAL
                  go_wp2
                  go_ret
                  exact ⟨rfl, HZ.out⟩
                · first
                    | (exfalso; refine hv (HVAL.out ?_); first | rfl | trivial)
                    | (clear HVAL hv
                       go_wp2
                       go_ret
                       exact ⟨rfl, HZ.out⟩)
              · have hl0 : 0 < cs.length := List.length_pos_iff.2 hz
                have hl0I : (0 : Int) < (cs.length : Int) := by omega
                have hr6 : AgR w.heap.size w M n fb (pts ts1) F w6 := { HRR.out with st := h6.drop }
                have HR6 := Lib.hid hr6
                clear hr6 hr1 h6 HRR hz
                go_wp2_with fail
                refine HCH.out _ HR6.out.st _ ?_
                intro r3 w7 hr3 h7
                obtain ⟨b, hb⟩ := hr3.pos hl0
                have hrv : rowV r3 cs.length = .slice (some ⟨b, 0, none⟩) cs.length (cs.length + r3.k) := by simp [rowV, rowA, hb]
                obtain ⟨c, hc⟩ : ∃ c, cs[0]? = some c := ⟨cs[0], by simp [hl0]⟩
                have d0 := h7.recCell (enc := chC) (s := 3) (fun _ => rfl) hb (fun p hp => List.mem_append_left _ hp) hc 0 (by decide)
                have d1 := h7.recCell (enc := chC) (s := 3) (fun _ => rfl) hb (fun p hp => List.mem_append_left _ hp) hc 1 (by decide)
                have d2 := h7.recCell (enc := chC) (s := 3) (fun _ => rfl) hb (fun p hp => List.mem_append_left _ hp) hc 2 (by decide)
                simp only [Nat.zero_mul, Nat.zero_add, List.getElem?_cons_zero, List.getElem?_cons_succ] at d0 d1 d2
                have hcm : c ∈ pChoices F.pure := by rw [← HCS.out]; exact List.mem_of_getElem? hc
                have hst := fun R hR => Step_calls_ch (R := R) (base := w.heap.size) (w0 := w) F HR6.out.ok c hcm h7.drop hR
                rw [show fP F = .pointer (some ⟨fb, 0, none⟩) by simp only [fP, HR6.out.fb]] at hst
                have hnext : ∀ F' w', FbOk F' → F'.fb = F.fb → F'.pure = pStep F.pure c → St w.heap.size w w' (fbH F' ++ M) → pendP F'.pure < gk ∧ AllUp F'.pure ∧ AgR w.heap.size w M n fb (pts ts1) F' w' := fun F' w' g1 g2 g3 g4 => by
                  obtain ⟨vt, hi⟩ := HR6.out.inv
                  obtain ⟨vt', hi'⟩ := pStep_inv hi c
                  refine ⟨?_, ?_, ⟨g2.trans HR6.out.fb, g1, by rw [g3]; exact pStep_rng HR6.out.rng c, ⟨vt', by rw [g3]; exact hi'⟩, g4⟩⟩
                  · rw [g3]; exact Nat.lt_of_lt_of_le (pStep_pend hi hcm) hpd
                  · intro N hN
                    rw [g3] at hN
                    obtain ⟨i, hi2⟩ := List.getElem?_of_mem hN
                    obtain ⟨N0, k1, _, k3⟩ := (pStep_kept hi c).2 i N hi2
                    rw [k3]
                    exact HUP.out N0 (List.mem_of_getElem? k1)
                have HST := Lib.hid hst
                have HNX := Lib.hid hnext
                rw [hrv]
                clear hst hnext hcm hc hrv hb hr3 h7 HCH HR6 HUP HCS hpd
                go_wp2_with fail
                refine HST.out _ ?_
                intro F' w8 g1 g2 g3 g4
                have HN8 := Lib.hid (HNX.out F' w8 g1 g2 g3 g4)
                clear g1 g2 g3 g4 HST HNX d0 d1 d2
                go_wp2
                go_roundg (pendP F'.pure)
                case rel => exact ⟨F', Nat.le_refl _, HN8.out.2.1, HN8.out.2.2⟩
                case measure => exact HN8.out.1
end Go.Proofs.YtaojipegpjolcaaGreat
set_option linter.unusedVariables false
set_option linter.unusedSimpArgs false
set_option maxRecDepth 100000
namespace Go.Proofs.YtaojipegpjolcaaGreat
open Go.ChangeShapes Go.WideShapes Go.ChangeAt Go.RowKit Go.Joins Go.Deep

theorem cellsEv : Tryz.prog.cellsOf 69 = 3 := by kernel_rfl
theorem ev_cell {H : Type} {enc : TypeId × Value → H} {w : World} {base : Nat} {spare : Nat → Bool} {held : Bool} {n : Nat} {l : List Value} {y : DataW H × List MemPlace} (hl : l.length = 3)
    (hf : DataW.trod enc Tryz.prog w base spare held n 69 l = some y) : ∃ e : Ev, EvR e ∧ l = [.int .i64 e.at_, .int .i64 e.kind, .int .i64 e.a] := by
  match l, hl with
  | [c0, c1, c2], _ =>
    obtain ⟨xs, n, _, hx, _, hlen, hg⟩ := DataW.trod_struct Tryz.underlying69 hf
    have e3 : Tryz.prog.cellsOf 3 = 1 := by kernel_rfl
    have g0 := hg 0 _ rfl
    have g1 := hg 1 _ rfl
    have g2 := hg 2 _ rfl
    clear hg
    match xs, hlen with
    | [y0, y1, y2], _ =>
      obtain ⟨a, x0, -, wa⟩ := DataW.trod_int (x := y0) Tryz.underlying3 g0
      obtain ⟨b, x1, -, wb⟩ := DataW.trod_int (x := y1) Tryz.underlying3 g1
      obtain ⟨c, x2, -, wc⟩ := DataW.trod_int (x := y2) Tryz.underlying3 g2
      change List.take (Tryz.prog.cellsOf 3) [c0, c1, c2] = [.int .i64 a] at x0
      change List.take (Tryz.prog.cellsOf 3) [c1, c2] = [.int .i64 b] at x1
      change List.take (Tryz.prog.cellsOf 3) [c2] = [.int .i64 c] at x2
      rw [e3] at x0 x1 x2
      simp only [List.take_succ_cons, List.take_zero, List.cons.injEq, and_true] at x0 x1 x2
      subst x0 x1 x2
      exact ⟨⟨a, b, c⟩, ⟨int_bounds wa, int_bounds wb, int_bounds wc⟩, rfl⟩
open Classical in
theorem evs_arg {H : Type} {enc : TypeId × Value → H} {w : World} {r : Reach} {b0 : Nat} {v : Value} {d : DataW H} {p : List MemPlace}
    (hv : Value.okWide Tryz.prog w r b0 35 v) (h : DataW.Trod enc Tryz.prog w 0 (fun _ => true) true 35 v d p) :
    ∃ (E : Option Addr) (evs : List Ev) (cap : Nat), v = .slice E evs.length cap ∧ ArgE w.heap.size w E evs ∧ (∀ e ∈ evs, EvR e) ∧ evs.length ≤ maxLen := by
  obtain ⟨a0, len, cap, rfl⟩ := okWide_slice Tryz.underlying35 hv
  obtain ⟨fuel, hf⟩ := h
  rcases DataW.trod_slice Tryz.underlying35 hf with ⟨hcs, hx⟩ | ⟨a, len', cap', elems, rest, n, _, hcs, hx, hb, hl, hm, hlen, hel, hsp, hns⟩
  · simp [Value.cells] at hcs
    obtain ⟨rfl, rfl, rfl⟩ := hcs
    exact ⟨none, [], 0, rfl, fun k x hk => by simp at hk, fun x hx => (by cases hx), by simp⟩
  · simp [Value.cells] at hcs
    obtain ⟨rfl, rfl, rfl⟩ := hcs
    have each : ∀ i, i < len → ∃ e : Ev, EvR e ∧ w.cell? (a.add (i * 3)) = some (.int .i64 e.at_) ∧ w.cell? ⟨(a.add (i * 3)).block, (a.add (i * 3)).off + 1, none⟩ = some (.int .i64 e.kind) ∧ w.cell? ⟨(a.add (i * 3)).block, (a.add (i * 3)).off + 2, none⟩ = some (.int .i64 e.a) := by
      intro i hi
      have h1 := hel i hi
      rw [cellsEv] at h1
      obtain ⟨y, hy⟩ : ∃ y, elems[i]? = some y := ⟨elems[i]'(by omega), by simp⟩
      rw [hy, Option.bind_eq_some_iff] at h1
      obtain ⟨cs', q1, q2⟩ := h1
      obtain ⟨_, k1, k2⟩ := World.cells?_some q1
      obtain ⟨e, he, rfl⟩ := ev_cell k1 q2
      have z0 := k2 0 (by decide)
      have z1 := k2 1 (by decide)
      have z2 := k2 2 (by decide)
      exact ⟨e, he, z0, z1, z2⟩
    obtain ⟨f, hfn⟩ : ∃ f : Nat → Ev, ∀ i, i < len → EvR (f i) ∧ w.cell? (a.add (i * 3)) = some (.int .i64 (f i).at_) ∧ w.cell? ⟨(a.add (i * 3)).block, (a.add (i * 3)).off + 1, none⟩ = some (.int .i64 (f i).kind) ∧ w.cell? ⟨(a.add (i * 3)).block, (a.add (i * 3)).off + 2, none⟩ = some (.int .i64 (f i).a) := by
      refine ⟨fun i => if hi : i < len then Classical.choose (each i hi) else ⟨0, 0, 0⟩, fun i hi => ?_⟩
      simp only [hi, dif_pos]
      exact Classical.choose_spec (each i hi)
    have hl2 : ((List.range len).map f).length = len := by simp
    refine ⟨some a, (List.range len).map f, cap, by rw [hl2], fun k e hk => ?_, fun e he => ?_, by rw [hl2]; omega⟩
    · have hkl : k < len := by have := (List.getElem?_eq_some_iff.1 hk).1; omega
      rw [List.getElem?_map, List.getElem?_range hkl] at hk
      simp only [Option.map_some, Option.some.injEq] at hk
      subst hk
      obtain ⟨e1, e2, e3, e4⟩ := hfn k hkl
      refine ⟨a, rfl, ?_, e2, e3, e4⟩
      have := World.block_lt_of_cell? w (a.add (k * 3)) e2
      rwa [add_block] at this
    · obtain ⟨i, hi, rfl⟩ := List.mem_map.1 he
      rw [List.mem_range] at hi
      exact (hfn i hi).1
end Go.Proofs.YtaojipegpjolcaaGreat
set_option linter.unusedVariables false
namespace Go.Proofs.YtaojipegpjolcaaGreat.lawPaxosAgrees
open Go.ChangeShapes Go.WideShapes Go.ChangeAt Go.RowKit Go.Joins Go.Deep

theorem own : ownKnob Tryz.prog.godebug = none := by kernel_rfl
theorem laidOut : laidOutB Tryz.prog = true := by kernel_rfl

set_option maxRecDepth 100000 in
theorem lifted (os : Os) (started : os.Started) (H : Type) (enc : TypeId × Value → H) :
    ReturnsInHanded {} Tryz.checked os 4 .any (Rows.paxosAgreesSpec.pre6 enc Tryz.prog Tryz.f4 Rows.paxosAgreesRow.domain false) (Rows.paxosAgreesSpec.post enc Tryz.prog Tryz.f4 false true false false) := by
  refine returnsInHanded_of_change (C := Tryz.checked) own started (by kernel_rfl) Tryz.func4
    (ChangeSpec.witness6 (enc := enc) (C := Tryz.checked) false ⟨#[], #[.slice none 0 0, .int .i64 0, .slice none 0 0, .slice none 0 0], []⟩ 8 (by kernel_rfl) (by kernel_rfl) (by kernel_rfl) (by kernel_rfl)) ?_
  intro W base args ds gs before hval0 hW hcnd _
  have hval : ∀ (j : Nat) t v, Tryz.f4.params[j]? = some t → args[j]? = some v → Value.okWide Tryz.prog W .any base t v := hval0
  have hW' := hW
  obtain ⟨p, q, hA0, hV, rfl, hfz, hnd⟩ := hW
  have hA : DataW.TrodAll enc Tryz.prog W 0 (fun _ => true) true Tryz.f4.params.toList args.toList ds p := hA0
  rw [Tryz.params4] at hA hval
  obtain ⟨v0, v1, v2, v3, d0, d1, d2, d3, p0, p1, p2, p3, rfl, rfl, rfl, h0, h1, h2, h3⟩ := trodAll_four hA
  obtain ⟨rfl, rfl⟩ := trodVars_none hV
  have lt0 : ∀ x ∈ p0, x.block < W.heap.size := by obtain ⟨m, hm⟩ := h0; exact DataW.trod_lt m _ _ _ hm
  have lt2 : ∀ x ∈ p2, x.block < W.heap.size := by obtain ⟨m, hm⟩ := h2; exact DataW.trod_lt m _ _ _ hm
  have lt3 : ∀ x ∈ p3, x.block < W.heap.size := by obtain ⟨m, hm⟩ := h3; exact DataW.trod_lt m _ _ _ hm
  have k0 := h0
  have k2 := h2
  have k3 := h3
  obtain ⟨A, raw, ca, rfl, hra, hrr, hrl⟩ := ints_arg (hval 0 34 v0 rfl rfl) h0
  obtain ⟨n, rfl, rfl, rfl, wn⟩ := open_int Tryz.underlying3 (hval 1 3 v1 rfl rfl) h1
  obtain ⟨B, sched, cb, rfl, hsa, hsr, hsl⟩ := ints_arg (hval 2 34 v2 rfl rfl) h2
  obtain ⟨E, evs, ce, rfl, hea, her, hel⟩ := evs_arg (hval 3 35 v3 rfl rfl) h3
  clear hA0 hval0
  refine (PaxosAgrees_calls W A B E raw sched evs ca cb ce n hra hrr hrl hsa hsr hsl hea her hel (int_bounds wn)).mono fun e W' ⟨he, bel⟩ => ?_
  subst he
  exact ⟨_, rfl, _, _, _, [], _, [], hW', trodAll_mk1 (shut_bool Tryz.underlying4 _), (trodAll_cons_mk (Below.trod laidOut (by kernel_rfl) (of_decide_eq_true (by kernel_rfl)) k0 bel lt0) (trodAll_cons_mk (shut_int Tryz.underlying3 wn) (trodAll_cons_mk (Below.trod laidOut (by kernel_rfl) (of_decide_eq_true (by kernel_rfl)) k2 bel lt2) (trodAll_cons_mk (Below.trod laidOut (by kernel_rfl) (of_decide_eq_true (by kernel_rfl)) k3 bel lt3) trodAll_mk0)))), rfl, bel.frame _, fun h => by cases h⟩

theorem over : Rows.paxosAgreesRow.holds Tryz.pinned (OpenSpec.ofChange Rows.paxosAgreesSpec) :=
  OpenClaim.holds_of_wide 4 Tryz.f4 rfl rfl rfl rfl rfl rfl rfl ⟨rfl, rfl, rfl, rfl, rfl⟩ rfl rfl rfl rfl rfl (by kernel_rfl) Tryz.func4 (by kernel_rfl)
    (of_decide_eq_true (by kernel_rfl)) (by unfold Func.isWrapper; first | (rw [if_pos (by decide +kernel)]; kernel_rfl) | (rw [if_neg (by decide +kernel)]; exact ⟨rfl, rfl⟩))
    (fun os started H enc _ => lifted os started H enc)

theorem proved : Rows.PaxosAgreesSaid := over
#print axioms proved
end Go.Proofs.YtaojipegpjolcaaGreat.lawPaxosAgrees
