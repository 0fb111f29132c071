/-
  somewhere: a valid place out of a reader of numbers.
-/
import Derived.Test.YtcoddcdiimpndaaGreatDoorM41
import Derived.Deep.CutBlock
import Derived.Deep.DeepCutAuto
import Derived.Outline
set_option linter.unusedVariables false
set_option linter.unusedSimpArgs false
namespace Go.Proofs.YtcoddcdiimpndaaGreatDoor
open Go.RowKit
theorem grown_set {w W : World} {row : Option Nat} (h : w.grownBy W row) (p : Addr) (v : Value) (hp : w.heap.size ≤ p.block) : w.grownBy (W.setCell p v) row :=
  ⟨h.os, h.tape, h.output, by simpa using h.size, fun k hk hn => (heap_setCell_other W p k v (by omega)).trans (h.block k hk hn)⟩
theorem grown_new {w W : World} {row : Option Nat} (h : w.grownBy W row) (o : Obj) : w.grownBy (W.alloc o) row := World.grownBy.trans h (World.grownBy_alloc W o row)
theorem grown_refl (w : World) (row : Option Nat) : w.grownBy w row := ⟨rfl, rfl, rfl, Nat.le_refl _, fun _ _ _ => rfl⟩
theorem src_set {w : World} {b B : Nat} (h : SrcOk w b B) (p : Addr) (v : Value) (hp : B ≤ p.block) (hne : p.block ≠ b) : SrcOk (w.setCell p v) b B :=
  h.grown (setCell_grown w p v) (fun e => hne (Option.some.inj e).symm) (fun r hr => by cases hr; exact hp)
theorem src_new {w : World} {b B : Nat} (h : SrcOk w b B) (o : Obj) : SrcOk (w.alloc o) b B := h.grown (row := none) (World.grownBy_alloc w o _) (by simp) (by simp)
theorem src_lt {w : World} {b B : Nat} (h : SrcOk w b B) : b < w.heap.size ∧ B ≤ b := by
  obtain ⟨A, n, cap, Z, k, H⟩ := h
  exact ⟨blk_lt H.blk, H.up⟩
theorem blk_grown {w w' : World} {b k : Nat} {o : Obj} (hg : w.grownBy w' (some b)) (h : w.heap[k]? = some o) (hne : k ≠ b) : w'.heap[k]? = some o := (hg.block k (blk_lt h) (fun e => hne (Option.some.inj e))).trans h
/-- The state of the walk: a result's block R, the place's block P. -/
structure SomeSt (w W : World) (b B R P : Nat) (f a c d : Int) : Prop where
  src : SrcOk W b B
  gr : w.grownBy W (some b)
  pl : W.heap[P]? = some (.cells #[.int .i64 f, .int .i64 a, .int .i64 c, .int .i64 d] 32 (0, 0))
  res : W.heap[R]? = some (.cells #[.int .i64 0, .int .i64 0, .int .i64 0, .int .i64 0] 32 (0, 0))
  hP : w.heap.size ≤ P
  hR : w.heap.size ≤ R
  bw : b < w.heap.size
theorem SomeSt.call {w W W' : World} {b B R P : Nat} {f a c d : Int} (h : SomeSt w W b B R P f a c d) (hs : SrcOk W' b B) (hg : W.grownBy W' (some b)) : SomeSt w W' b B R P f a c d :=
  ⟨hs, World.grownBy.trans h.gr hg, blk_grown hg h.pl (by have := h.hP; have := h.bw; omega), blk_grown hg h.res (by have := h.hR; have := h.bw; omega), h.hP, h.hR, h.bw⟩
theorem SomeSt.set1 {w W : World} {b B R P : Nat} {f a c d : Int} (h : SomeSt w W b B R P f a c d) (hne : R ≠ P) (x : Int) : SomeSt w (W.setCell ⟨P, 1, none⟩ (.int .i64 x)) b B R P f x c d :=
  ⟨src_set h.src _ _ (by have := h.hP; have := h.bw; have := (src_lt h.src).2; simp; omega) (by have := h.hP; have := h.bw; simp; omega), grown_set h.gr _ _ h.hP, heap_setCell_same _ _ _ _ _ _ h.pl, (heap_setCell_other W _ _ _ hne).trans h.res, h.hP, h.hR, h.bw⟩
theorem SomeSt.set2 {w W : World} {b B R P : Nat} {f a c d : Int} (h : SomeSt w W b B R P f a c d) (hne : R ≠ P) (x : Int) : SomeSt w (W.setCell ⟨P, 2, none⟩ (.int .i64 x)) b B R P f a x d :=
  ⟨src_set h.src _ _ (by have := h.hP; have := h.bw; have := (src_lt h.src).2; simp; omega) (by have := h.hP; have := h.bw; simp; omega), grown_set h.gr _ _ h.hP, heap_setCell_same _ _ _ _ _ _ h.pl, (heap_setCell_other W _ _ _ hne).trans h.res, h.hP, h.hR, h.bw⟩
theorem SomeSt.set3 {w W : World} {b B R P : Nat} {f a c d : Int} (h : SomeSt w W b B R P f a c d) (hne : R ≠ P) (x : Int) : SomeSt w (W.setCell ⟨P, 3, none⟩ (.int .i64 x)) b B R P f a c x :=
  ⟨src_set h.src _ _ (by have := h.hP; have := h.bw; have := (src_lt h.src).2; simp; omega) (by have := h.hP; have := h.bw; simp; omega), grown_set h.gr _ _ h.hP, heap_setCell_same _ _ _ _ _ _ h.pl, (heap_setCell_other W _ _ _ hne).trans h.res, h.hP, h.hR, h.bw⟩
theorem fin_set {w W : World} {b B R P : Nat} {f a c d : Int} (h : SomeSt w W b B R P f a c d) (hne : R ≠ P) (x0 x1 x2 x3 : Int) :
    SrcOk ((((W.setCell ⟨R, 0, none⟩ (.int .i64 x0)).setCell ⟨R, 1, none⟩ (.int .i64 x1)).setCell ⟨R, 2, none⟩ (.int .i64 x2)).setCell ⟨R, 3, none⟩ (.int .i64 x3)) b B ∧
    w.grownBy ((((W.setCell ⟨R, 0, none⟩ (.int .i64 x0)).setCell ⟨R, 1, none⟩ (.int .i64 x1)).setCell ⟨R, 2, none⟩ (.int .i64 x2)).setCell ⟨R, 3, none⟩ (.int .i64 x3)) (some b) ∧
    ((((W.setCell ⟨R, 0, none⟩ (.int .i64 x0)).setCell ⟨R, 1, none⟩ (.int .i64 x1)).setCell ⟨R, 2, none⟩ (.int .i64 x2)).setCell ⟨R, 3, none⟩ (.int .i64 x3)).heap[R]? = some (.cells #[.int .i64 x0, .int .i64 x1, .int .i64 x2, .int .i64 x3] 32 (0, 0)) := by
  have k1 := h.hR
  have k2 := h.bw
  have k3 := (src_lt h.src).2
  have u : ∀ (W' : World) (j : Nat) (v : Value), SrcOk W' b B → SrcOk (W'.setCell ⟨R, j, none⟩ v) b B := fun W' j v hs => src_set hs _ _ (by simp; omega) (by simp; omega)
  exact ⟨u _ _ _ (u _ _ _ (u _ _ _ (u _ _ _ h.src))), grown_set (grown_set (grown_set (grown_set h.gr _ _ k1) _ _ k1) _ _ k1) _ _ k1,
    heap_setCell_same _ _ _ _ _ _ (heap_setCell_same _ _ _ _ _ _ (heap_setCell_same _ _ _ _ _ _ (heap_setCell_same _ _ _ _ _ _ h.res)))⟩
set_option maxRecDepth 100000 in
set_option maxHeartbeats 4000000 in
theorem somewhere_any (w : World) (b B : Nat) (h : SrcOk w b B) : Calls Tryz.prog 26 #[.pointer (some ⟨b, 0, none⟩)] w fun e w' =>
    ∃ f x y z : Int, e = .returned (.agg #[.int .i64 f, .int .i64 x, .int .i64 y, .int .i64 z]) ∧ validB f x y z = true ∧ SrcOk w' b B ∧ w.grownBy w' (some b) := by
  have hbl := (src_lt h).1
  have HS0 := Lib.hid (src_new h (.cells #[.int .i64 0, .int .i64 0, .int .i64 0, .int .i64 0] 32))
  have HR0 := Lib.hid (blk_new w (.cells #[.int .i64 0, .int .i64 0, .int .i64 0, .int .i64 0] 32))
  have HG0 := Lib.hid (grown_new (grown_refl w (some b)) (.cells #[.int .i64 0, .int .i64 0, .int .i64 0, .int .i64 0] 32))
  clear h
  go_enter Tryz.func26, Tryz.ntmps26
  go_wp2_with fail
  refine (n_any 20 (by omega) (by omega) _ b B HS0.out).mono ?_
  rintro e w1 ⟨f, rfl, hf0, hf1, hs1, hg1⟩
  have HS1 := Lib.hid hs1
  have HR1 := Lib.hid (blk_grown hg1 HR0.out (by omega))
  have HG1 := Lib.hid (World.grownBy.trans HG0.out hg1)
  clear hs1 hg1 HS0 HR0 HG0
  go_wp2_with fail
  refine (n_any 841 (by omega) (by omega) _ b B HS1.out).mono ?_
  rintro e w2 ⟨a, rfl, ha0, ha1, hs2, hg2⟩
  have HS2 := Lib.hid hs2
  have HR2 := Lib.hid (blk_grown hg2 HR1.out (by omega))
  have HG2 := Lib.hid (World.grownBy.trans HG1.out hg2)
  have hz2 := HG2.out.size
  have hst : SomeSt w (w2.alloc (.cells #[.int .i64 f, .int .i64 a, .int .i64 0, .int .i64 0] 32)) b B w.heap.size w2.heap.size f a 0 0 :=
    ⟨src_new HS2.out _, grown_new HG2.out _, blk_new w2 _, blk_old _ HR2.out, hz2, Nat.le_refl _, hbl⟩
  have HST := Lib.hid hst
  have hRlt := blk_lt HR2.out
  clear hs2 hg2 HS1 HR1 HG1 hst
  --BEGIN
  have hne : w.heap.size ≠ w2.heap.size := by omega
  obtain ⟨P, hP⟩ : ∃ P, P = w2.heap.size := ⟨_, rfl⟩
  obtain ⟨W0, hW0⟩ : ∃ W0, W0 = w2.alloc (.cells #[.int .i64 f, .int .i64 a, .int .i64 0, .int .i64 0] 32) := ⟨_, rfl⟩
  go_wp2_with fail
  rw [← hW0]
  rw [← hW0] at HST
  clear hW0 HS2 HR2 HG2 hz2 hRlt
  rw [← hP]
  rw [← hP] at HST hne
  clear hP
  refine (n_any 4 (by omega) (by omega) _ b B HST.out.src).mono ?_
  rintro e w3 ⟨x, rfl, hx0, hx1, hs, hg⟩
  have HNw3 := Lib.hid (HST.out.call hs hg)
  clear hs hg
  go_upto_if 11 with fail
  go_cut [] (fun wx => ∃ a, 0 ≤ a ∧ a ≤ 840 ∧ SomeSt w wx b B w.heap.size P f a 0 0)
  case first =>
    by_cases hx : x = 0
    · subst hx
      go_wp2_with fail
      refine (n_any 9 (by omega) (by omega) _ b B HNw3.out.src).mono ?_
      rintro e w4 ⟨y, rfl, hy0, hy1, hs, hg⟩
      have HNw4 := Lib.hid (HNw3.out.call hs hg)
      clear hs hg
      have p0 := blk_cell HNw4.out.pl 0 (.int .i64 (f)) rfl
      have q0 := blk_free HNw4.out.pl 0
      have p1 := blk_cell HNw4.out.pl 1 (.int .i64 (a)) rfl
      have q1 := blk_free HNw4.out.pl 1
      have p2 := blk_cell HNw4.out.pl 2 (.int .i64 (0)) rfl
      have q2 := blk_free HNw4.out.pl 2
      have p3 := blk_cell HNw4.out.pl 3 (.int .i64 (0)) rfl
      have q3 := blk_free HNw4.out.pl 3
      have hlP := blk_lt HNw4.out.pl
      go_wp2_with fail
      go_meet
      exact ⟨105 * y, by omega, by omega, HNw4.out.set1 hne _⟩
    · have hd : (x == 0) = false := by simpa using hx
      go_wp2_with fail
      go_meet
      exact ⟨a, by omega, by omega, HNw3.out⟩
  case rest =>
    clear HST HNw3
    obtain ⟨a, ha0, ha1, hst⟩ := hcut
    have HST := Lib.hid hst
    clear hst
    have p0 := blk_cell HST.out.pl 0 (.int .i64 (f)) rfl
    have q0 := blk_free HST.out.pl 0
    have p1 := blk_cell HST.out.pl 1 (.int .i64 (a)) rfl
    have q1 := blk_free HST.out.pl 1
    have p2 := blk_cell HST.out.pl 2 (.int .i64 (0)) rfl
    have q2 := blk_free HST.out.pl 2
    have p3 := blk_cell HST.out.pl 3 (.int .i64 (0)) rfl
    have q3 := blk_free HST.out.pl 3
    have hlP := blk_lt HST.out.pl
    go_wp2_with fail
    refine (n_any (840 - a + 1) (by omega) (by omega) _ b B HST.out.src).mono ?_
    rintro e w5 ⟨y, rfl, hy0, hy1, hs, hg⟩
    have HNw5 := Lib.hid (HST.out.call hs hg)
    clear hs hg
    clear p0 p1 p2 p3 q0 q1 q2 q3 hlP
    have p0 := blk_cell HNw5.out.pl 0 (.int .i64 (f)) rfl
    have q0 := blk_free HNw5.out.pl 0
    have p1 := blk_cell HNw5.out.pl 1 (.int .i64 (a)) rfl
    have q1 := blk_free HNw5.out.pl 1
    have p2 := blk_cell HNw5.out.pl 2 (.int .i64 (0)) rfl
    have q2 := blk_free HNw5.out.pl 2
    have p3 := blk_cell HNw5.out.pl 3 (.int .i64 (0)) rfl
    have q3 := blk_free HNw5.out.pl 3
    have hlP := blk_lt HNw5.out.pl
    go_wp2_with fail
    have HST2 := Lib.hid (HNw5.out.set2 hne y)
    clear p0 p1 p2 p3 q0 q1 q2 q3 hlP
    refine (n_any 4 (by omega) (by omega) _ b B HST2.out.src).mono ?_
    rintro e w6 ⟨z, rfl, hz0, hz1, hs, hg⟩
    have HN6 := Lib.hid (HST2.out.call hs hg)
    clear hs hg HNw5
    have p0 := blk_cell HN6.out.pl 0 (.int .i64 (f)) rfl
    have q0 := blk_free HN6.out.pl 0
    have p1 := blk_cell HN6.out.pl 1 (.int .i64 (a)) rfl
    have q1 := blk_free HN6.out.pl 1
    have p2 := blk_cell HN6.out.pl 2 (.int .i64 (y)) rfl
    have q2 := blk_free HN6.out.pl 2
    have p3 := blk_cell HN6.out.pl 3 (.int .i64 (0)) rfl
    have q3 := blk_free HN6.out.pl 3
    have hlP := blk_lt HN6.out.pl
    have s0 := blk_cell HN6.out.res 0 (.int .i64 0) rfl
    have t0 := blk_free HN6.out.res 0
    have s1 := blk_cell HN6.out.res 1 (.int .i64 0) rfl
    have t1 := blk_free HN6.out.res 1
    have s2 := blk_cell HN6.out.res 2 (.int .i64 0) rfl
    have t2 := blk_free HN6.out.res 2
    have s3 := blk_cell HN6.out.res 3 (.int .i64 0) rfl
    have t3 := blk_free HN6.out.res 3
    have hlR := blk_lt HN6.out.res
    have hne' : ¬ P = w.heap.size := fun e => hne e.symm
    by_cases hz : z = 0
    · subst hz
      go_wp2_with fail
      have HF := Lib.hid ((HN6.out.set2 hne 0).set3 hne (840 - a))
      have HW := Lib.hid (fin_set HF.out hne f a (0) (840 - a))
      obtain ⟨WF, hWF⟩ : ∃ WF, WF = (((((w6.setCell ⟨P, 2, none⟩ (.int .i64 0)).setCell ⟨P, 3, none⟩ (.int .i64 (840 - a))).setCell ⟨w.heap.size, 0, none⟩ (.int .i64 f)).setCell ⟨w.heap.size, 1, none⟩ (.int .i64 a)).setCell ⟨w.heap.size, 2, none⟩ (.int .i64 (0))).setCell ⟨w.heap.size, 3, none⟩ (.int .i64 (840 - a)) := ⟨_, rfl⟩
      rw [← hWF]
      rw [← hWF] at HW
      obtain ⟨h1, h2, h3⟩ := HW.out
      have r0 := blk_cell h3 0 (.int .i64 (f)) rfl
      have r1 := blk_cell h3 1 (.int .i64 (a)) rfl
      have r2 := blk_cell h3 2 (.int .i64 (0)) rfl
      have r3 := blk_cell h3 3 (.int .i64 (840 - a)) rfl
      have hlF := blk_lt h3
      refine bodyPost_ret (v := .agg #[.int .i64 f, .int .i64 a, .int .i64 (0), .int .i64 (840 - a)]) (by simp [results, Tryz.results26, go_sem, r0, r1, r2, r3, hlF]) rfl ⟨f, a, 0, 840 - a, rfl, by rw [validB_iff]; omega, h1, h2⟩
    · have hd : (z == 0) = false := by simpa using hz
      by_cases hz1 : z = 1
      · subst hz1
        have hy105 : 0 ≤ y % 105 := Int.emod_nonneg y (by omega)
        have hy106 : y % 105 ≤ y := by omega
        go_wp2_with fail
        have HF := Lib.hid ((HN6.out.set2 hne (y - y % 105)).set3 hne (840 - a - (y - y % 105)))
        have HW := Lib.hid (fin_set HF.out hne f a ((y - y % 105)) (840 - a - (y - y % 105)))
        obtain ⟨WF, hWF⟩ : ∃ WF, WF = (((((w6.setCell ⟨P, 2, none⟩ (.int .i64 (y - y % 105))).setCell ⟨P, 3, none⟩ (.int .i64 (840 - a - (y - y % 105)))).setCell ⟨w.heap.size, 0, none⟩ (.int .i64 f)).setCell ⟨w.heap.size, 1, none⟩ (.int .i64 a)).setCell ⟨w.heap.size, 2, none⟩ (.int .i64 ((y - y % 105)))).setCell ⟨w.heap.size, 3, none⟩ (.int .i64 (840 - a - (y - y % 105))) := ⟨_, rfl⟩
        rw [← hWF]
        rw [← hWF] at HW
        obtain ⟨h1, h2, h3⟩ := HW.out
        have r0 := blk_cell h3 0 (.int .i64 (f)) rfl
        have r1 := blk_cell h3 1 (.int .i64 (a)) rfl
        have r2 := blk_cell h3 2 (.int .i64 ((y - y % 105))) rfl
        have r3 := blk_cell h3 3 (.int .i64 (840 - a - (y - y % 105))) rfl
        have hlF := blk_lt h3
        refine bodyPost_ret (v := .agg #[.int .i64 f, .int .i64 a, .int .i64 ((y - y % 105)), .int .i64 (840 - a - (y - y % 105))]) (by simp [results, Tryz.results26, go_sem, r0, r1, r2, r3, hlF]) rfl ⟨f, a, (y - y % 105), 840 - a - (y - y % 105), rfl, by rw [validB_iff]; omega, h1, h2⟩
      · have hd1 : (z == 1) = false := by simpa using hz1
        go_wp2_with fail
        have HF := Lib.hid ((HN6.out).set3 hne (840 - a - y))
        have HW := Lib.hid (fin_set HF.out hne f a (y) (840 - a - y))
        obtain ⟨WF, hWF⟩ : ∃ WF, WF = (((((w6).setCell ⟨P, 3, none⟩ (.int .i64 (840 - a - y))).setCell ⟨w.heap.size, 0, none⟩ (.int .i64 f)).setCell ⟨w.heap.size, 1, none⟩ (.int .i64 a)).setCell ⟨w.heap.size, 2, none⟩ (.int .i64 (y))).setCell ⟨w.heap.size, 3, none⟩ (.int .i64 (840 - a - y)) := ⟨_, rfl⟩
        rw [← hWF]
        rw [← hWF] at HW
        obtain ⟨h1, h2, h3⟩ := HW.out
        have r0 := blk_cell h3 0 (.int .i64 (f)) rfl
        have r1 := blk_cell h3 1 (.int .i64 (a)) rfl
        have r2 := blk_cell h3 2 (.int .i64 (y)) rfl
        have r3 := blk_cell h3 3 (.int .i64 (840 - a - y)) rfl
        have hlF := blk_lt h3
        refine bodyPost_ret (v := .agg #[.int .i64 f, .int .i64 a, .int .i64 (y), .int .i64 (840 - a - y)]) (by simp [results, Tryz.results26, go_sem, r0, r1, r2, r3, hlF]) rfl ⟨f, a, y, 840 - a - y, rfl, by rw [validB_iff]; omega, h1, h2⟩
end Go.Proofs.YtcoddcdiimpndaaGreatDoor
