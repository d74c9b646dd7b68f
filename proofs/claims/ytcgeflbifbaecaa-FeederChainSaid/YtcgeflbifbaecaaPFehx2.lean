/- Functions of the given program as Lean functions, and proofs that its calls come to what these say. Written by a program of this seat (wip/mkprint.py); Lean checks it all. -/
import Derived.Test.YtcgeflbifbaecaaPFehx0
import Derived.Test.YtcgeflbifbaecaaPFehx1
namespace Go.Proofs.Ytcgeflbifbaecaa.PFeh
open Go.RowKit Go.Proofs.YtcgeflbifbaecaaW.PrintWords Go.Proofs.YtcgeflbifbaecaaW.PrintLast Go.Proofs.YtcgeflbifbaecaaW.PrintMore
attribute [local go_sem] max2_int min2_int max_two min_two max_three min_three max_four min_four   -- for this text's walks alone
set_option linter.unusedVariables false
set_option linter.unusedSimpArgs false

/-! ### minecontroldraw_Codes_Feeder: function 10 -/
mutual
def minecontroldraw_Codes_Feeder.l0 : Nat → Int → Int → Int → List Int → Int → List (S32) → Int → Option ((List (S32)) × List Int × Int × Int)
 | 0, _, _, _, _, _, _, _ => none
 | k + 1, x1, x6, x7, x1000, x1001, x115000, x115002 => if x7 < (mx x6 1) then ((minecontroldraw_Codes_Next.f k x1000 x1001 (wrap64 (x7 + 1))).bind fun bt117 => ((minecontroldraw_Codes_One.f k x1000 bt117.2 2).bind fun bt119 => ((minecontroldraw_Codes_Truth.f k x1000 bt119.2).bind fun bt121 => (if x115000.length < 4398046511104 then (minecontroldraw_Codes_Feeder.l0 k x1 x6 (wrap64 (x7 + 1)) x1000 bt121.2 (x115000 ++ [(⟨wrap64 (bt117.1 - 1), 0, bt121.1, bt119.1, false⟩ : S32)]) x115002) else (none))))) else (if 0 ≤ (x115000.length : Int) then (if ((x115000.length : Int) : Int).toNat ≤ 281474976710656 then (minecontroldraw_Codes_Feeder.l1 k x1 (List.replicate ((x115000.length : Int) : Int).toNat false) 0 x1000 x1001 x115000 ([] : List Int) x115002) else (none)) else (none))
def minecontroldraw_Codes_Feeder.l1 : Nat → Int → List Bool → Int → List Int → Int → List (S32) → List Int → Int → Option ((List (S32)) × List Int × Int × Int)
 | 0, _, _, _, _, _, _, _, _ => none
 | k + 1, x1, x8, x9, x1000, x1001, x115000, x115001, x115002 => if x9 < x1 then ((minecontroldraw_Codes_Next.f k x1000 x1001 (x115000.length : Int)).bind fun bt129 => (minecontroldraw_Codes_Feeder.l2 k x1 x8 x9 bt129.1 x1000 bt129.2 x115000 x115001 x115002)) else (some (x115000, x115001, x115002, x1001))
def minecontroldraw_Codes_Feeder.l2 : Nat → Int → List Bool → Int → Int → List Int → Int → List (S32) → List Int → Int → Option ((List (S32)) × List Int × Int × Int)
 | 0, _, _, _, _, _, _, _, _, _ => none
 | k + 1, x1, x8, x9, x10, x1000, x1001, x115000, x115001, x115002 => if 0 ≤ x10 then (if x10 < (x8.length : Int) then (if rdOf false x8 x10 = true then (if (x8.length : Int) = 0 then (none) else (minecontroldraw_Codes_Feeder.l2 k x1 x8 x9 (Int.tmod (wrap64 (x10 + 1)) (x8.length : Int)) x1000 x1001 x115000 x115001 x115002)) else (if x115001.length < 17592186044416 then (minecontroldraw_Codes_Feeder.l1 k x1 (x8.set (x10 : Int).toNat true) (wrap64 (x9 + 1)) x1000 x1001 x115000 (x115001 ++ [x10]) x115002) else (none))) else (none)) else (none)
end
def minecontroldraw_Codes_Feeder.f (k : Nat) (s0_0 : List Int) (s0_1 : Int) (a1 : Int) : Option ((List (S32)) × List Int × Int × Int) := (minecontroldraw_Codes_Range.f k s0_0 s0_1 1 9).bind fun bt112 => ((minecontroldraw_Codes_Next.f k s0_0 bt112.2 3).bind fun bt115 => (minecontroldraw_Codes_Feeder.l0 k a1 (wrap64 (a1 + bt115.1)) 0 s0_0 bt115.2 ([] : List (S32)) bt112.1))
theorem minecontroldraw_Codes_Feeder.mono_l : ∀ k, (∀ y0 y1 y2 y3 y4 y5 y6, LeO (minecontroldraw_Codes_Feeder.l0 k y0 y1 y2 y3 y4 y5 y6) (minecontroldraw_Codes_Feeder.l0 (k + 1) y0 y1 y2 y3 y4 y5 y6)) ∧ (∀ y0 y1 y2 y3 y4 y5 y6 y7, LeO (minecontroldraw_Codes_Feeder.l1 k y0 y1 y2 y3 y4 y5 y6 y7) (minecontroldraw_Codes_Feeder.l1 (k + 1) y0 y1 y2 y3 y4 y5 y6 y7)) ∧ (∀ y0 y1 y2 y3 y4 y5 y6 y7 y8, LeO (minecontroldraw_Codes_Feeder.l2 k y0 y1 y2 y3 y4 y5 y6 y7 y8) (minecontroldraw_Codes_Feeder.l2 (k + 1) y0 y1 y2 y3 y4 y5 y6 y7 y8))
 | 0 => ⟨fun _ _ _ _ _ _ _ r h => by simp [minecontroldraw_Codes_Feeder.l0] at h, fun _ _ _ _ _ _ _ _ r h => by simp [minecontroldraw_Codes_Feeder.l1] at h, fun _ _ _ _ _ _ _ _ _ r h => by simp [minecontroldraw_Codes_Feeder.l2] at h⟩
 | k + 1 => by
  obtain ⟨ih0, ih1, ih2⟩ := minecontroldraw_Codes_Feeder.mono_l k
  refine ⟨?_, ?_, ?_⟩
  ·
   intro y0 y1 y2 y3 y4 y5 y6
   unfold minecontroldraw_Codes_Feeder.l0
   repeat' first
   | (with_reducible exact ih0 _ _ _ _ _ _ _)
   | (with_reducible exact ih1 _ _ _ _ _ _ _ _)
   | (with_reducible exact ih2 _ _ _ _ _ _ _ _ _)
   | (with_reducible exact minecontroldraw_Codes_Next.mono _ _ _ _)
   | (with_reducible exact minecontroldraw_Codes_One.mono _ _ _ _)
   | (with_reducible exact minecontroldraw_Codes_Range.mono _ _ _ _ _)
   | (with_reducible exact minecontroldraw_Codes_Truth.mono _ _ _)
   | (with_reducible exact LeO.refl _)
   | (with_reducible exact LeO.none _)
   | (with_reducible refine LeO.ite ?_ ?_)
   | (with_reducible refine LeO.bind ?_ (fun _ => ?_))
   | exact ih0 _ _ _ _ _ _ _
   | exact ih1 _ _ _ _ _ _ _ _
   | exact ih2 _ _ _ _ _ _ _ _ _
   | exact LeO.none _
   | refine LeO.ite ?_ ?_
   | refine LeO.bind ?_ (fun _ => ?_)
  ·
   intro y0 y1 y2 y3 y4 y5 y6 y7
   unfold minecontroldraw_Codes_Feeder.l1
   repeat' first
   | (with_reducible exact ih0 _ _ _ _ _ _ _)
   | (with_reducible exact ih1 _ _ _ _ _ _ _ _)
   | (with_reducible exact ih2 _ _ _ _ _ _ _ _ _)
   | (with_reducible exact minecontroldraw_Codes_Next.mono _ _ _ _)
   | (with_reducible exact minecontroldraw_Codes_One.mono _ _ _ _)
   | (with_reducible exact minecontroldraw_Codes_Range.mono _ _ _ _ _)
   | (with_reducible exact minecontroldraw_Codes_Truth.mono _ _ _)
   | (with_reducible exact LeO.refl _)
   | (with_reducible exact LeO.none _)
   | (with_reducible refine LeO.ite ?_ ?_)
   | (with_reducible refine LeO.bind ?_ (fun _ => ?_))
   | exact ih0 _ _ _ _ _ _ _
   | exact ih1 _ _ _ _ _ _ _ _
   | exact ih2 _ _ _ _ _ _ _ _ _
   | exact LeO.none _
   | refine LeO.ite ?_ ?_
   | refine LeO.bind ?_ (fun _ => ?_)
  intro y0 y1 y2 y3 y4 y5 y6 y7 y8
  unfold minecontroldraw_Codes_Feeder.l2
  repeat' first
  | (with_reducible exact ih0 _ _ _ _ _ _ _)
  | (with_reducible exact ih1 _ _ _ _ _ _ _ _)
  | (with_reducible exact ih2 _ _ _ _ _ _ _ _ _)
  | (with_reducible exact minecontroldraw_Codes_Next.mono _ _ _ _)
  | (with_reducible exact minecontroldraw_Codes_One.mono _ _ _ _)
  | (with_reducible exact minecontroldraw_Codes_Range.mono _ _ _ _ _)
  | (with_reducible exact minecontroldraw_Codes_Truth.mono _ _ _)
  | (with_reducible exact LeO.refl _)
  | (with_reducible exact LeO.none _)
  | (with_reducible refine LeO.ite ?_ ?_)
  | (with_reducible refine LeO.bind ?_ (fun _ => ?_))
  | exact ih0 _ _ _ _ _ _ _
  | exact ih1 _ _ _ _ _ _ _ _
  | exact ih2 _ _ _ _ _ _ _ _ _
  | exact LeO.none _
  | refine LeO.ite ?_ ?_
  | refine LeO.bind ?_ (fun _ => ?_)
theorem minecontroldraw_Codes_Feeder.mono : ∀ a0 a1 a2 k, LeO (minecontroldraw_Codes_Feeder.f k a0 a1 a2) (minecontroldraw_Codes_Feeder.f (k + 1) a0 a1 a2) := by
 intro a0 a1 a2 k
 obtain ⟨ih0, ih1, ih2⟩ := minecontroldraw_Codes_Feeder.mono_l k
 unfold minecontroldraw_Codes_Feeder.f
 repeat' first
   | (with_reducible exact ih0 _ _ _ _ _ _ _)
   | (with_reducible exact ih1 _ _ _ _ _ _ _ _)
   | (with_reducible exact ih2 _ _ _ _ _ _ _ _ _)
   | (with_reducible exact minecontroldraw_Codes_Next.mono _ _ _ _)
   | (with_reducible exact minecontroldraw_Codes_One.mono _ _ _ _)
   | (with_reducible exact minecontroldraw_Codes_Range.mono _ _ _ _ _)
   | (with_reducible exact minecontroldraw_Codes_Truth.mono _ _ _)
   | (with_reducible exact LeO.refl _)
   | (with_reducible exact LeO.none _)
   | (with_reducible refine LeO.ite ?_ ?_)
   | (with_reducible refine LeO.bind ?_ (fun _ => ?_))
   | exact ih0 _ _ _ _ _ _ _
   | exact ih1 _ _ _ _ _ _ _ _
   | exact ih2 _ _ _ _ _ _ _ _ _
   | exact LeO.none _
   | refine LeO.ite ?_ ?_
   | refine LeO.bind ?_ (fun _ => ?_)
def minecontroldraw_Codes_Feeder.T6 : Bool × List (List Nat × List Nat) := (true, [([], []), ([0], [0]), ([], []), ([], []), ([3], [3]), ([2, 4], [2, 4]), ([5], [5]), ([], []), ([7, 5], [7]), ([], []), ([9, 8], [9]), ([6, 8, 10], [6, 8, 10]), ([11], [11]), ([1, 12, 10], [1, 12]), ([0, 1, 2, 3, 4, 5, 6, 7, 8, 9, 10, 11, 12, 13], []), ([14, 13, 13, 0, 1, 2, 3, 4, 5, 6, 7, 8, 9, 10, 11, 12, 13], [13, 14])])
def minecontroldraw_Codes_Feeder.B6 : List Nat := [0, 1, 0, 0, 8, 28, 60, 0, 188, 0, 956, 2044, 4092, 8191, 16383, 32767]
theorem minecontroldraw_Codes_Feeder.tab6 : rtab .any (opsOf Try.f10 6) = minecontroldraw_Codes_Feeder.T6 := by kernel_rfl
theorem minecontroldraw_Codes_Feeder.bits6 : waitsOk minecontroldraw_Codes_Feeder.T6.2 minecontroldraw_Codes_Feeder.B6 = true := by kernel_rfl
set_option maxHeartbeats 8000000 in
set_option maxRecDepth 100000 in
theorem minecontroldraw_Codes_Feeder.calls (k : Nat) (g : Nat) (s0_0 : List Int) (s0_1 : Int) (a1 : Int) (r1 : List (S32)) (r2 : List Int) (r3 : Int) (r4 : Int) (w0 w : World) (hI : IsS61 w0 w g s0_0 s0_1) (hB : Below w0.heap.size w0 w) (h : minecontroldraw_Codes_Feeder.f k s0_0 s0_1 a1 = some (r1, r2, r3, r4)) :
  Calls Try.prog 10 #[.pointer (some ⟨g, 0, none⟩), .int .i64 a1] w fun e w' => ∃ v0_ v1_ : Value, e = .returned (.agg #[v0_, v1_, .int .i64 r3]) ∧ Kd.R k32 32 w' w.heap.size (fun _ => True) v0_ r1 ∧ Kd.R (Kd.int .i64) 3 w' w.heap.size (fun _ => True) v1_ r2 ∧ IsS61 w0 w' g s0_0 r4 ∧ Below w0.heap.size w0 w' ∧ KeepBut w w' g none := by
 have hu28 := Try.underlying28
 have hu32 := Try.underlying32
 have HI0 := aM hI
 have HK := aM (KeepBut.refl w g none)
 have HL := aM hB.size
 clear hI
 have HW0 := aM hB.size
 have HB := aM hB
 clear hB
 have H : ((minecontroldraw_Codes_Range.f k s0_0 s0_1 1 9).bind fun bt112 => ((minecontroldraw_Codes_Next.f k s0_0 bt112.2 3).bind fun bt115 => (minecontroldraw_Codes_Feeder.l0 k a1 (wrap64 (a1 + bt115.1)) 0 s0_0 bt115.2 ([] : List (S32)) bt112.1))) = some (r1, r2, r3, r4) := h
 clear h
 replace H := Option.bind_eq_some_iff.mp H
 obtain ⟨⟨t112, t113⟩, A30, H⟩ := H
 replace H : ((minecontroldraw_Codes_Next.f k s0_0 t113 3).bind fun bt115 => (minecontroldraw_Codes_Feeder.l0 k a1 (wrap64 (a1 + bt115.1)) 0 s0_0 bt115.2 ([] : List (S32)) t112)) = some (r1, r2, r3, r4) := H
 have A3 := aM A30
 clear A30
 replace H := Option.bind_eq_some_iff.mp H
 obtain ⟨⟨t115, t116⟩, A40, H⟩ := H
 replace H : (minecontroldraw_Codes_Feeder.l0 k a1 (wrap64 (a1 + t115)) 0 s0_0 t116 ([] : List (S32)) t112) = some (r1, r2, r3, r4) := H
 have A4 := aM A40
 clear A40
 have H' := aM H
 clear H
 go_enter Try.func10, Try.ntmps10
 go_wp2_with (first | ((with_reducible refine gate_dst (N := 4) rfl ?_); refine box_event ?hg (N := 4) ?hd (cs := #[.slice none 0 0, .slice none 0 0, .int .i64 0]) (t := 28) ?hr ?_; (case hd => rfl); (case hg => rfl); (case hr => first | (go_simp; done) | (go_simp; rfl)); intro gb111 hg w5 hbox hb; replace HB := aM (below_step (by repeat (first | (with_reducible first | exact HB.out | apply bA | apply bN | apply bD | refine below_set ?_ (IsS61.ge HI0.out)) | exact HB.out)) hb); have BK111 := aM (hbox); have GW111 := aM ((by rw [hg]; exact (keep_size (w := w) (g := g) (row := none) (by repeat (first | (with_reducible first | exact HK.out | apply KeepBut.set_ | apply keep_drewN | apply keep_drew | apply keep_alloc) | exact HK.out))) : w.heap.size ≤ gb111)); have GE111 := aM ((Nat.le_trans HW0.out (by rw [hg]; exact (keep_size (w := w) (g := g) (row := none) (by repeat (first | (with_reducible first | exact HK.out | apply KeepBut.set_ | apply keep_drewN | apply keep_drew | apply keep_alloc) | exact HK.out))) : w.heap.size ≤ gb111) : w0.heap.size ≤ gb111)); replace HK := aM (KeepBut.trans (by repeat (first | (with_reducible first | exact HK.out | apply KeepBut.set_ | apply keep_drewN | apply keep_drew | apply keep_alloc) | exact HK.out)) (KeepBut.of_below hb g none) (.inl rfl)); have NB0_111 := aM ((by rw [hg]; exact Nat.ne_of_lt (IsS61.lt (show IsS61 w0 _ g s0_0 s0_1 from by repeat (first | (with_reducible first | exact HI0.out | apply IsS61.alloc | apply IsS61.drewN | apply IsS61.drew | apply IsS61.set_1) | exact HI0.out))) : g ≠ gb111)); have NB111_0 := aM ((by rw [hg]; exact Nat.ne_of_gt (IsS61.lt (show IsS61 w0 _ g s0_0 s0_1 from by repeat (first | (with_reducible first | exact HI0.out | apply IsS61.alloc | apply IsS61.drewN | apply IsS61.drew | apply IsS61.set_1) | exact HI0.out))) : gb111 ≠ g)); replace HI0 := aM (IsS61.below (by repeat (first | (with_reducible first | exact HI0.out | apply IsS61.alloc | apply IsS61.drewN | apply IsS61.drew | apply IsS61.set_1) | exact HI0.out)) hb); clear hb hbox hg) | ((with_reducible refine gate_callee (f := 37) rfl ?_); refine goesL_ (some 12) rfl rfl Try.func37 (by kernel_rfl) rfl #[.pointer (some ⟨g, 0, none⟩), .int .i64 1, .int .i64 9] rfl (by first | rfl | (simp only [List.map_toArray, List.map_cons, List.map_nil, List.length_drop, List.length_take]; try rfl)) ?_; (with_reducible refine (minecontroldraw_Codes_Range.calls k g s0_0 s0_1 1 9 t112 t113 w0 _ ?side1 ?side2 A3.out).mono ?_); (case side1 => repeat (first | (with_reducible first | exact HI0.out | apply IsS61.alloc | apply IsS61.drewN | apply IsS61.drew | apply IsS61.set_1 | refine IsS61.far ?_ NB0_111.out _) | exact HI0.out)); (case side2 => repeat (first | (with_reducible first | exact HB.out | apply bA | apply bN | apply bD | refine below_set ?_ (IsS61.ge HI0.out) | refine below_set ?_ GE111.out) | exact HB.out)); rintro e w6 ⟨rfl, hi, hb, hk⟩; refine ⟨_, rfl, ?_⟩; replace BK111 := aM (KeepBut.blk hk (g' := gb111) (o := .cells #[.slice none 0 0, .slice none 0 0, .int .i64 0] 28 (0, 0)) (by (with_reducible repeat (first | refine kN ?_ _ | refine kD ?_ | refine kA ?_ _)); exact BK111.out) NB111_0.out (by simp)); replace HK := aM (KeepBut.trans (by repeat (first | (with_reducible first | exact HK.out | apply KeepBut.set_ | apply keep_drewN | apply keep_drew | apply keep_alloc | refine keep_far ?_ GW111.out _) | exact HK.out)) hk (.inl rfl)); replace HB := aM (hb); replace HI0 := aM (hi); (try clear hb); (try clear hb2); (try clear hge); (try clear hk); (try clear hi)) | ((with_reducible refine gate_dst (N := 5) rfl ?_); refine box_event ?hg (N := 5) ?hd (cs := #[.slice none 0 0, .slice none 0 0, .int .i64 0]) (t := 28) ?hr ?_; (case hd => rfl); (case hg => rfl); (case hr => first | (go_simp; done) | (go_simp; rfl)); intro gb114 hg w7 hbox hb; replace HB := aM (below_step (by repeat (first | (with_reducible first | exact HB.out | apply bA | apply bN | apply bD | refine below_set ?_ (IsS61.ge HI0.out) | refine below_set ?_ GE111.out) | exact HB.out)) hb); have BK114 := aM (hbox); have GW114 := aM ((by rw [hg]; exact (keep_size (w := w) (g := g) (row := none) (by repeat (first | (with_reducible first | exact HK.out | apply KeepBut.set_ | apply keep_drewN | apply keep_drew | apply keep_alloc | refine keep_far ?_ GW111.out _) | exact HK.out))) : w.heap.size ≤ gb114)); have GE114 := aM ((Nat.le_trans HW0.out (by rw [hg]; exact (keep_size (w := w) (g := g) (row := none) (by repeat (first | (with_reducible first | exact HK.out | apply KeepBut.set_ | apply keep_drewN | apply keep_drew | apply keep_alloc | refine keep_far ?_ GW111.out _) | exact HK.out))) : w.heap.size ≤ gb114) : w0.heap.size ≤ gb114)); replace HK := aM (KeepBut.trans (by repeat (first | (with_reducible first | exact HK.out | apply KeepBut.set_ | apply keep_drewN | apply keep_drew | apply keep_alloc | refine keep_far ?_ GW111.out _) | exact HK.out)) (KeepBut.of_below hb g none) (.inl rfl)); have NB111_114 := aM ((by rw [hg]; exact Nat.ne_of_lt (blk_lt (blk_mv BK111.out)) : gb111 ≠ gb114)); have NB114_111 := aM ((by rw [hg]; exact Nat.ne_of_gt (blk_lt (blk_mv BK111.out)) : gb114 ≠ gb111)); replace BK111 := aM (blk_below (blk_mv BK111.out) hb); have NB0_114 := aM ((by rw [hg]; exact Nat.ne_of_lt (IsS61.lt (show IsS61 w0 _ g s0_0 t113 from by repeat (first | (with_reducible first | exact HI0.out | apply IsS61.alloc | apply IsS61.drewN | apply IsS61.drew | apply IsS61.set_1 | refine IsS61.far ?_ NB0_111.out _) | exact HI0.out))) : g ≠ gb114)); have NB114_0 := aM ((by rw [hg]; exact Nat.ne_of_gt (IsS61.lt (show IsS61 w0 _ g s0_0 t113 from by repeat (first | (with_reducible first | exact HI0.out | apply IsS61.alloc | apply IsS61.drewN | apply IsS61.drew | apply IsS61.set_1 | refine IsS61.far ?_ NB0_111.out _) | exact HI0.out))) : gb114 ≠ g)); replace HI0 := aM (IsS61.below (by repeat (first | (with_reducible first | exact HI0.out | apply IsS61.alloc | apply IsS61.drewN | apply IsS61.drew | apply IsS61.set_1 | refine IsS61.far ?_ NB0_111.out _) | exact HI0.out)) hb); clear hb hbox hg; have hnb8 := NB114_111.out; have hnc8 := NB111_114.out; have hnb9 := NB114_0.out; have hnc9 := NB0_114.out; obtain ⟨hcz10_0, hcz10_1, hcz10_2, hfz10_0, hfz10_1, hfz10_2⟩ := blk3 BK114.out) | ((with_reducible refine gate_callee (f := 11) rfl ?_); refine goesL_ (some 16) rfl rfl Try.func11 (by kernel_rfl) rfl #[.pointer (some ⟨g, 0, none⟩), .int .i64 3] rfl (by first | rfl | (simp only [List.map_toArray, List.map_cons, List.map_nil, List.length_drop, List.length_take]; try rfl)) ?_; (with_reducible refine (minecontroldraw_Codes_Next.calls k g s0_0 t113 3 t115 t116 w0 _ ?side1 ?side2 A4.out).mono ?_); (case side1 => repeat (first | (with_reducible first | exact HI0.out | apply IsS61.alloc | apply IsS61.drewN | apply IsS61.drew | apply IsS61.set_1 | refine IsS61.far ?_ NB0_111.out _ | refine IsS61.far ?_ NB0_114.out _) | exact HI0.out)); (case side2 => repeat (first | (with_reducible first | exact HB.out | apply bA | apply bN | apply bD | refine below_set ?_ (IsS61.ge HI0.out) | refine below_set ?_ GE111.out | refine below_set ?_ GE114.out) | exact HB.out)); rintro e w11 ⟨rfl, hi, hb, hk⟩; refine ⟨_, rfl, ?_⟩; replace BK111 := aM (KeepBut.blk hk (g' := gb111) (o := .cells #[.slice none 0 0, .slice none 0 0, .int .i64 0] 28 (0, 0)) (by (with_reducible repeat (first | refine kN ?_ _ | refine kD ?_ | refine kA ?_ _)); refine blk_far ?_ NB111_114.out _; (with_reducible repeat (first | refine kN ?_ _ | refine kD ?_ | refine kA ?_ _)); refine blk_far ?_ NB111_114.out _; (with_reducible repeat (first | refine kN ?_ _ | refine kD ?_ | refine kA ?_ _)); refine blk_far ?_ NB111_114.out _; (with_reducible repeat (first | refine kN ?_ _ | refine kD ?_ | refine kA ?_ _)); exact BK111.out) NB111_0.out (by simp)); replace BK114 := aM (KeepBut.blk hk (g' := gb114) (o := .cells #[.slice none 0 0, .slice none 0 0, .int .i64 t112] 28 (0, 0)) (by (with_reducible repeat (first | refine kN ?_ _ | refine kD ?_ | refine kA ?_ _)); refine blk_put (cs := #[.slice none 0 0, .slice none 0 0, .int .i64 0]) ?_ 2 _ rfl; (with_reducible repeat (first | refine kN ?_ _ | refine kD ?_ | refine kA ?_ _)); refine blk_put (cs := #[.slice none 0 0, .slice none 0 0, .int .i64 0]) ?_ 1 _ rfl; (with_reducible repeat (first | refine kN ?_ _ | refine kD ?_ | refine kA ?_ _)); refine blk_put (cs := #[.slice none 0 0, .slice none 0 0, .int .i64 0]) ?_ 0 _ rfl; (with_reducible repeat (first | refine kN ?_ _ | refine kD ?_ | refine kA ?_ _)); exact BK114.out) NB114_0.out (by simp)); replace HK := aM (KeepBut.trans (by repeat (first | (with_reducible first | exact HK.out | apply KeepBut.set_ | apply keep_drewN | apply keep_drew | apply keep_alloc | refine keep_far ?_ GW111.out _ | refine keep_far ?_ GW114.out _) | exact HK.out)) hk (.inl rfl)); replace HB := aM (hb); replace HI0 := aM (hi); (try clear hb); (try clear hb2); (try clear hge); (try clear hk); (try clear hi)))
 go_loopg [7] k (fun kq v7 w' => ∃ (x7_1 : Int) (x1001_1 : Int) (x115000_1 : List (S32)) (u115000 : Value), v7 = .int .i64 x7_1 ∧ Aside0 (minecontroldraw_Codes_Feeder.l0 kq a1 (wrap64 (a1 + t115)) x7_1 s0_0 x1001_1 x115000_1 t112 = some (r1, r2, r3, r4)) ∧ Aside0 (kq ≤ k) ∧ Aside0 (Kd.R k32 32 w' w.heap.size (fun _ => True) u115000 x115000_1) ∧ Aside0 (w'.heap[gb111]? = some (.cells #[(.slice none 0 0), (.slice none 0 0), .int .i64 0] 28 (0, 0))) ∧ Aside0 (w'.heap[gb114]? = some (.cells #[u115000, (.slice none 0 0), .int .i64 t112] 28 (0, 0))) ∧ Aside0 (IsS61 w0 w' g s0_0 x1001_1) ∧ Aside0 (KeepBut w w' g none) ∧ Aside0 (Below w0.heap.size w0 w'))
 case atStart => exact ⟨(0), (t116), (([] : List (S32))), (.slice none 0 0), (by first | rfl | (simp; done) | (simp [*]; done)), H', ⟨Nat.le_refl _⟩, ⟨by first | exact Kd.R_nil _ _ _ _ _ | exact Kd.N_nil _ _ _ _ _ | exact Kd.V_nil _ _ _ _ _ | exact Kd.Q_nil _ _ _ _ _ | exact Kd.S_nil _ _ _ _ _⟩, ⟨blk_mv BK111.out⟩, ⟨blk_mv BK114.out⟩, ⟨by repeat (first | (with_reducible first | exact HI0.out | apply IsS61.alloc | apply IsS61.drewN | apply IsS61.drew | apply IsS61.set_1 | refine IsS61.far ?_ NB0_111.out _ | refine IsS61.far ?_ NB0_114.out _) | exact HI0.out)⟩, ⟨by repeat (first | (with_reducible first | exact HK.out | apply KeepBut.set_ | apply keep_drewN | apply keep_drew | apply keep_alloc | refine keep_far ?_ GW111.out _ | refine keep_far ?_ GW114.out _) | exact HK.out)⟩, ⟨by repeat (first | (with_reducible first | exact HB.out | apply bA | apply bN | apply bD | refine below_set ?_ (IsS61.ge HI0.out) | refine below_set ?_ GE111.out | refine below_set ?_ GE114.out) | exact HB.out)⟩⟩
 case round =>
  clear H'
  obtain ⟨x7_1, x1001_1, x115000_1, u115000, rfl, HA, HK1, HO_115000, BK111, BK114, HI0, HK, HB⟩ := hrel
  cases gk with
  | zero => exact absurd HA.out (by simp [minecontroldraw_Codes_Feeder.l0])
  | succ k1 =>
   have H := HA.out
   clear HA
   simp only [minecontroldraw_Codes_Feeder.l0] at H
   obtain ⟨ji12, hji12⟩ : ∃ j_ : Int, (mx (wrap64 (a1 + t115)) 1) = j_ := ⟨_, rfl⟩
   replace H : (if x7_1 < (ji12) then ((minecontroldraw_Codes_Next.f k1 s0_0 x1001_1 (wrap64 (x7_1 + 1))).bind fun bt117 => ((minecontroldraw_Codes_One.f k1 s0_0 bt117.2 2).bind fun bt119 => ((minecontroldraw_Codes_Truth.f k1 s0_0 bt119.2).bind fun bt121 => (if x115000_1.length < 4398046511104 then (minecontroldraw_Codes_Feeder.l0 k1 a1 (wrap64 (a1 + t115)) (wrap64 (x7_1 + 1)) s0_0 bt121.2 (x115000_1 ++ [(⟨wrap64 (bt117.1 - 1), 0, bt121.1, bt119.1, false⟩ : S32)]) t112) else (none))))) else (if 0 ≤ (x115000_1.length : Int) then (if ((x115000_1.length : Int) : Int).toNat ≤ 281474976710656 then (minecontroldraw_Codes_Feeder.l1 k1 a1 (List.replicate ((x115000_1.length : Int) : Int).toNat false) 0 s0_0 x1001_1 x115000_1 ([] : List Int) t112) else (none)) else (none))) = some (r1, r2, r3, r4) := by first | (rw [hji12] at H; exact H) | (simp only [hji12] at H ⊢; exact H)
   have hji12_ : (if (wrap64 (a1 + t115)) < 1 then 1 else (wrap64 (a1 + t115))) = ji12 := hji12
   by_cases c13 : x7_1 < (ji12)
   ·
    rw [if_pos c13] at H
    have c13b0 : decide (x7_1 < (ji12)) = true := decide_eq_true c13
    clear c13
    replace H := Option.bind_eq_some_iff.mp H
    obtain ⟨⟨t117, t118⟩, A140, H⟩ := H
    replace H : ((minecontroldraw_Codes_One.f k1 s0_0 t118 2).bind fun bt119 => ((minecontroldraw_Codes_Truth.f k1 s0_0 bt119.2).bind fun bt121 => (if x115000_1.length < 4398046511104 then (minecontroldraw_Codes_Feeder.l0 k1 a1 (wrap64 (a1 + t115)) (wrap64 (x7_1 + 1)) s0_0 bt121.2 (x115000_1 ++ [(⟨wrap64 (t117 - 1), 0, bt121.1, bt119.1, false⟩ : S32)]) t112) else (none)))) = some (r1, r2, r3, r4) := H
    have A14 := aM A140
    clear A140
    replace H := Option.bind_eq_some_iff.mp H
    obtain ⟨⟨t119, t120⟩, A150, H⟩ := H
    replace H : ((minecontroldraw_Codes_Truth.f k1 s0_0 t120).bind fun bt121 => (if x115000_1.length < 4398046511104 then (minecontroldraw_Codes_Feeder.l0 k1 a1 (wrap64 (a1 + t115)) (wrap64 (x7_1 + 1)) s0_0 bt121.2 (x115000_1 ++ [(⟨wrap64 (t117 - 1), 0, bt121.1, t119, false⟩ : S32)]) t112) else (none))) = some (r1, r2, r3, r4) := H
    have A15 := aM A150
    clear A150
    replace H := Option.bind_eq_some_iff.mp H
    obtain ⟨⟨t121, t122⟩, A160, H⟩ := H
    replace H : (if x115000_1.length < 4398046511104 then (minecontroldraw_Codes_Feeder.l0 k1 a1 (wrap64 (a1 + t115)) (wrap64 (x7_1 + 1)) s0_0 t122 (x115000_1 ++ [(⟨wrap64 (t117 - 1), 0, t121, t119, false⟩ : S32)]) t112) else (none)) = some (r1, r2, r3, r4) := H
    have A16 := aM A160
    clear A160
    by_cases c17 : x115000_1.length < 4398046511104
    rotate_left
    ·
     rw [if_neg c17] at H
     exact absurd H (by simp)
    rw [if_pos c17] at H
    have LMc17 := aM c17
    clear c17
    obtain ⟨y123, hy123⟩ : ∃ y_ : List (S32), y_ = (x115000_1 ++ [(⟨wrap64 (t117 - 1), 0, t121, t119, false⟩ : S32)]) := ⟨_, rfl⟩
    replace H : (minecontroldraw_Codes_Feeder.l0 k1 a1 (wrap64 (a1 + t115)) (wrap64 (x7_1 + 1)) s0_0 t122 y123 t112) = some (r1, r2, r3, r4) := by first | (rw [hy123]; with_reducible exact H) | (have H2_ := (Option.bind_some _ _).symm.trans H; rw [hy123]; with_reducible exact H2_) | (have H2_ := (Option.bind_some _ _).symm.trans H; with_reducible exact H2_) | with_reducible exact H | (rw [hy123]; exact H) | exact H
    have Ny123 := aM hy123
    clear hy123
    have H' := aM H
    clear H
    try go_wp2
    replace HO_115000 := aM (Kd.R_drew HO_115000.out)
    replace BK111 := aM (blk_drew BK111.out)
    replace BK114 := aM (blk_drew BK114.out)
    replace HI0 := aM (IsS61.drew HI0.out)
    replace HK := aM (keep_drew HK.out)
    replace HB := aM (below_drew1 HB.out)
    refine start_ (n := 16) (S := fun w' => w'.cell? ⟨gb114, 0, none⟩ = some (u115000) ∧ w'.cell? ⟨gb114, 1, none⟩ = some (.slice none 0 0) ∧ w'.cell? ⟨gb114, 2, none⟩ = some (.int .i64 t112)) (ds := [15]) #[false, false, false, false, false, false, false, false, false, false, false, false, false, false, false, false] (by kernel_rfl) rfl rfl ⟨(blk_cell BK114.out 0).trans rfl, (blk_cell BK114.out 1).trans rfl, (blk_cell BK114.out 2).trans rfl⟩ (fun hHeld => ?_); refine with_tabW minecontroldraw_Codes_Feeder.tab6 minecontroldraw_Codes_Feeder.bits6 (fun HT_ HW_ => ?_)
    generalize wr.drew = w18 at HO_115000 BK111 BK114 HI0 HK HB hHeld ⊢
    refine pure_ (i := 0) (N := some 24) (v := ?_) (a' := ?_) #[true, false, false, false, false, false, false, false, false, false, false, false, false, false, false, false] rfl rfl (any_of HT_.out (by kernel_rfl)) (fun _ _ _ h => h) (Or.inl ⟨by rfl, ?_⟩) ?_ ?_
    rotate_left
    ·
     intro w'
     go_simp
     with_reducible rfl
    rotate_left
    ·
     simp only [Act.put, sT, sZ, sS, i64_w, i32_w]
     rfl
    refine pure_ (i := 2) (N := some 26) (v := ?_) (a' := ?_) #[true, false, true, false, false, false, false, false, false, false, false, false, false, false, false, false] rfl rfl (any_of HT_.out (by kernel_rfl)) (fun _ _ _ h => h) (Or.inl ⟨by rfl, ?_⟩) ?_ ?_
    rotate_left
    ·
     intro w'
     go_simp
     with_reducible rfl
    rotate_left
    ·
     simp only [Act.put, sT, sZ, sS, i64_w, i32_w]
     rfl
    refine pure_ (i := 3) (N := some 27) (v := ?_) (a' := ?_) #[true, false, true, true, false, false, false, false, false, false, false, false, false, false, false, false] rfl rfl (any_of HT_.out (by kernel_rfl)) (fun _ _ _ h => h) (Or.inl ⟨by rfl, ?_⟩) ?_ ?_
    rotate_left
    ·
     intro w'
     go_simp
     with_reducible rfl
    rotate_left
    ·
     simp only [Act.put, sT, sZ, sS, i64_w, i32_w]
     rfl
    refine pure_ (i := 4) (N := some 28) (v := ?_) (a' := ?_) #[true, false, true, true, true, false, false, false, false, false, false, false, false, false, false, false] rfl rfl (any_of HT_.out (by kernel_rfl)) (fun _ _ _ h => h) (Or.inl ⟨by rfl, ?_⟩) ?_ ?_
    rotate_left
    ·
     intro w'
     go_simp
     with_reducible rfl
    rotate_left
    ·
     simp only [Act.put, sT, sZ, sS, i64_w, i32_w]
     rfl
    refine pure_ (i := 7) (N := some 31) (v := ?_) (a' := ?_) #[true, false, true, true, true, false, false, true, false, false, false, false, false, false, false, false] rfl rfl (any_of HT_.out (by kernel_rfl)) (fun _ _ _ h => h) (Or.inl ⟨by rfl, ?_⟩) ?_ ?_
    rotate_left
    ·
     intro w'
     go_simp
     with_reducible rfl
    rotate_left
    ·
     simp only [Act.put, sT, sZ, sS, i64_w, i32_w]
     rfl
    refine pure_ (i := 9) (N := some 33) (v := ?_) (a' := ?_) #[true, false, true, true, true, false, false, true, false, true, false, false, false, false, false, false] rfl rfl (any_of HT_.out (by kernel_rfl)) (fun _ _ _ h => h) (Or.inl ⟨by rfl, ?_⟩) ?_ ?_
    rotate_left
    ·
     intro w'
     go_simp
     with_reducible rfl
    rotate_left
    ·
     simp only [Act.put, sT, sZ, sS, i64_w, i32_w]
     rfl
    refine take_ (i := 1) (N := some 25) (v := ?_) (a' := ?_) #[true, true, true, true, true, false, false, true, false, true, false, false, false, false, false, false] rfl rfl (take_ofW HT_.out HW_.out (by kernel_rfl)) (fun _ _ _ h => h) (Or.inl ⟨by rfl, ?_⟩) hHeld ?_ ?_
    rotate_left
    ·
     rintro w' ⟨s0, s1, s2⟩
     go_simp
     with_reducible rfl
    rotate_left
    ·
     simp only [Act.put, sT, sZ, sS, i64_w, i32_w]
     rfl
    refine one_ (i := 5) (N := some 29) #[true, true, true, true, true, true, false, true, false, true, false, false, false, false, false, false] rfl rfl (one_of HT_.out (by kernel_rfl)) (by decide) (fun K hK => ?_)
    refine goes_ Try.func11 (by kernel_rfl) rfl #[.pointer (some ⟨g, 0, none⟩), .int .i64 (wrap64 (x7_1 + 1))] (by rfl) rfl rfl (by first | rfl | (simp only [List.map_toArray, List.map_cons, List.map_nil, List.length_drop, List.length_take]; try rfl)) ?_
    with_reducible refine (minecontroldraw_Codes_Next.calls k1 g s0_0 x1001_1 (wrap64 (x7_1 + 1)) t117 t118 w0 _ ?side1 ?side2 A14.out).mono ?_
    (case side1 => repeat (first | (with_reducible first | exact HI0.out | apply IsS61.alloc | apply IsS61.drewN | apply IsS61.drew | apply IsS61.set_1 | refine IsS61.far ?_ NB0_111.out _ | refine IsS61.far ?_ NB0_114.out _) | exact HI0.out))
    (case side2 => repeat (first | (with_reducible first | exact HB.out | apply bA | apply bN | apply bD | refine below_set ?_ (IsS61.ge HI0.out) | refine below_set ?_ GE111.out | refine below_set ?_ GE114.out) | exact HB.out))
    rintro e w19 ⟨rfl, hi, hb, hk⟩
    refine ⟨_, rfl, ?_⟩
    replace HO_115000 := aM (Kd.R_mono (Kd.R_keep (IsS61.apart (show IsS61 w0 _ g s0_0 x1001_1 from by repeat (first | (with_reducible first | exact HI0.out | apply IsS61.alloc | apply IsS61.drewN | apply IsS61.drew | apply IsS61.set_1 | refine IsS61.far ?_ NB0_111.out _ | refine IsS61.far ?_ NB0_114.out _) | exact HI0.out)) (R_mv HO_115000.out) (by decide)) hk (fun _ h => h.2)) (fun _ h => h.1))
    replace BK111 := aM (KeepBut.blk hk (g' := gb111) (o := .cells #[.slice none 0 0, .slice none 0 0, .int .i64 0] 28 (0, 0)) (by (with_reducible repeat (first | refine kN ?_ _ | refine kD ?_ | refine kA ?_ _)); exact BK111.out) NB111_0.out (by simp))
    replace BK114 := aM (KeepBut.blk hk (g' := gb114) (o := .cells #[u115000, .slice none 0 0, .int .i64 t112] 28 (0, 0)) (by (with_reducible repeat (first | refine kN ?_ _ | refine kD ?_ | refine kA ?_ _)); exact BK114.out) NB114_0.out (by simp))
    replace HK := aM (KeepBut.trans (by repeat (first | (with_reducible first | exact HK.out | apply KeepBut.set_ | apply keep_drewN | apply keep_drew | apply keep_alloc | refine keep_far ?_ GW111.out _ | refine keep_far ?_ GW114.out _) | exact HK.out)) hk (.inl rfl))
    replace HB := aM (hb)
    replace HI0 := aM (hi)
    (try clear hb)
    (try clear hb2)
    (try clear hge)
    (try clear hk)
    (try clear hi)
    refine hK.out _ _ ⟨(blk_cell BK114.out 0).trans rfl, (blk_cell BK114.out 1).trans rfl, (blk_cell BK114.out 2).trans rfl⟩ (fun hHeld => ?_)
    clear hK K
    refine norm_ (a' := ?_) ?_ ?_
    rotate_left
    ·
     show Act.put _ (some 29) _ = _
     simp only [Act.put, sT, sZ, sS, i64_w, i32_w]
     rfl
    refine pure_ (i := 6) (N := some 30) (v := ?_) (a' := ?_) #[true, true, true, true, true, true, true, true, false, true, false, false, false, false, false, false] rfl rfl (any_of HT_.out (by kernel_rfl)) (fun _ _ _ h => h) (Or.inl ⟨by rfl, ?_⟩) ?_ ?_
    rotate_left
    ·
     intro w'
     go_simp
     with_reducible rfl
    rotate_left
    ·
     simp only [Act.put, sT, sZ, sS, i64_w, i32_w]
     rfl
    refine one_ (i := 8) (N := some 32) #[true, true, true, true, true, true, true, true, true, true, false, false, false, false, false, false] rfl rfl (one_of HT_.out (by kernel_rfl)) (by decide) (fun K hK => ?_)
    refine goes_ Try.func38 (by kernel_rfl) rfl #[.pointer (some ⟨g, 0, none⟩), .int .i64 2] (by rfl) rfl rfl (by first | rfl | (simp only [List.map_toArray, List.map_cons, List.map_nil, List.length_drop, List.length_take]; try rfl)) ?_
    with_reducible refine (minecontroldraw_Codes_One.calls k1 g s0_0 t118 2 t119 t120 w0 _ ?side1 ?side2 A15.out).mono ?_
    (case side1 => repeat (first | (with_reducible first | exact HI0.out | apply IsS61.alloc | apply IsS61.drewN | apply IsS61.drew | apply IsS61.set_1 | refine IsS61.far ?_ NB0_111.out _ | refine IsS61.far ?_ NB0_114.out _) | exact HI0.out))
    (case side2 => repeat (first | (with_reducible first | exact HB.out | apply bA | apply bN | apply bD | refine below_set ?_ (IsS61.ge HI0.out) | refine below_set ?_ GE111.out | refine below_set ?_ GE114.out) | exact HB.out))
    rintro e w20 ⟨rfl, hi, hb, hk⟩
    refine ⟨_, rfl, ?_⟩
    replace HO_115000 := aM (Kd.R_mono (Kd.R_keep (IsS61.apart (show IsS61 w0 _ g s0_0 t118 from by repeat (first | (with_reducible first | exact HI0.out | apply IsS61.alloc | apply IsS61.drewN | apply IsS61.drew | apply IsS61.set_1 | refine IsS61.far ?_ NB0_111.out _ | refine IsS61.far ?_ NB0_114.out _) | exact HI0.out)) (R_mv HO_115000.out) (by decide)) hk (fun _ h => h.2)) (fun _ h => h.1))
    replace BK111 := aM (KeepBut.blk hk (g' := gb111) (o := .cells #[.slice none 0 0, .slice none 0 0, .int .i64 0] 28 (0, 0)) (by (with_reducible repeat (first | refine kN ?_ _ | refine kD ?_ | refine kA ?_ _)); exact BK111.out) NB111_0.out (by simp))
    replace BK114 := aM (KeepBut.blk hk (g' := gb114) (o := .cells #[u115000, .slice none 0 0, .int .i64 t112] 28 (0, 0)) (by (with_reducible repeat (first | refine kN ?_ _ | refine kD ?_ | refine kA ?_ _)); exact BK114.out) NB114_0.out (by simp))
    replace HK := aM (KeepBut.trans (by repeat (first | (with_reducible first | exact HK.out | apply KeepBut.set_ | apply keep_drewN | apply keep_drew | apply keep_alloc | refine keep_far ?_ GW111.out _ | refine keep_far ?_ GW114.out _) | exact HK.out)) hk (.inl rfl))
    replace HB := aM (hb)
    replace HI0 := aM (hi)
    (try clear hb)
    (try clear hb2)
    (try clear hge)
    (try clear hk)
    (try clear hi)
    refine hK.out _ _ ⟨(blk_cell BK114.out 0).trans rfl, (blk_cell BK114.out 1).trans rfl, (blk_cell BK114.out 2).trans rfl⟩ (fun hHeld => ?_)
    clear hK K
    refine norm_ (a' := ?_) ?_ ?_
    rotate_left
    ·
     show Act.put _ (some 32) _ = _
     simp only [Act.put, sT, sZ, sS, i64_w, i32_w]
     rfl
    refine one_ (i := 10) (N := some 34) #[true, true, true, true, true, true, true, true, true, true, true, false, false, false, false, false] rfl rfl (one_of HT_.out (by kernel_rfl)) (by decide) (fun K hK => ?_)
    refine goes_ Try.func39 (by kernel_rfl) rfl #[.pointer (some ⟨g, 0, none⟩)] (by rfl) rfl rfl (by first | rfl | (simp only [List.map_toArray, List.map_cons, List.map_nil, List.length_drop, List.length_take]; try rfl)) ?_
    with_reducible refine (minecontroldraw_Codes_Truth.calls k1 g s0_0 t120 t121 t122 w0 _ ?side1 ?side2 A16.out).mono ?_
    (case side1 => repeat (first | (with_reducible first | exact HI0.out | apply IsS61.alloc | apply IsS61.drewN | apply IsS61.drew | apply IsS61.set_1 | refine IsS61.far ?_ NB0_111.out _ | refine IsS61.far ?_ NB0_114.out _) | exact HI0.out))
    (case side2 => repeat (first | (with_reducible first | exact HB.out | apply bA | apply bN | apply bD | refine below_set ?_ (IsS61.ge HI0.out) | refine below_set ?_ GE111.out | refine below_set ?_ GE114.out) | exact HB.out))
    rintro e w21 ⟨rfl, hi, hb, hk⟩
    refine ⟨_, rfl, ?_⟩
    replace HO_115000 := aM (Kd.R_mono (Kd.R_keep (IsS61.apart (show IsS61 w0 _ g s0_0 t120 from by repeat (first | (with_reducible first | exact HI0.out | apply IsS61.alloc | apply IsS61.drewN | apply IsS61.drew | apply IsS61.set_1 | refine IsS61.far ?_ NB0_111.out _ | refine IsS61.far ?_ NB0_114.out _) | exact HI0.out)) (R_mv HO_115000.out) (by decide)) hk (fun _ h => h.2)) (fun _ h => h.1))
    replace BK111 := aM (KeepBut.blk hk (g' := gb111) (o := .cells #[.slice none 0 0, .slice none 0 0, .int .i64 0] 28 (0, 0)) (by (with_reducible repeat (first | refine kN ?_ _ | refine kD ?_ | refine kA ?_ _)); exact BK111.out) NB111_0.out (by simp))
    replace BK114 := aM (KeepBut.blk hk (g' := gb114) (o := .cells #[u115000, .slice none 0 0, .int .i64 t112] 28 (0, 0)) (by (with_reducible repeat (first | refine kN ?_ _ | refine kD ?_ | refine kA ?_ _)); exact BK114.out) NB114_0.out (by simp))
    replace HK := aM (KeepBut.trans (by repeat (first | (with_reducible first | exact HK.out | apply KeepBut.set_ | apply keep_drewN | apply keep_drew | apply keep_alloc | refine keep_far ?_ GW111.out _ | refine keep_far ?_ GW114.out _) | exact HK.out)) hk (.inl rfl))
    replace HB := aM (hb)
    replace HI0 := aM (hi)
    (try clear hb)
    (try clear hb2)
    (try clear hge)
    (try clear hk)
    (try clear hi)
    refine hK.out _ _ ⟨(blk_cell BK114.out 0).trans rfl, (blk_cell BK114.out 1).trans rfl, (blk_cell BK114.out 2).trans rfl⟩ (fun hHeld => ?_)
    clear hK K
    refine norm_ (a' := ?_) ?_ ?_
    rotate_left
    ·
     show Act.put _ (some 34) _ = _
     simp only [Act.put, sT, sZ, sS, i64_w, i32_w]
     rfl
    refine pure_ (i := 11) (N := some 35) (v := ?_) (a' := ?_) #[true, true, true, true, true, true, true, true, true, true, true, true, false, false, false, false] rfl rfl (any_of HT_.out (by kernel_rfl)) (fun _ _ _ h => h) (Or.inl ⟨by rfl, ?_⟩) ?_ ?_
    rotate_left
    ·
     intro w'
     go_simp
     with_reducible rfl
    rotate_left
    ·
     simp only [Act.put, sT, sZ, sS, i64_w, i32_w]
     rfl
    refine one_ (i := 12) (N := some 36) #[true, true, true, true, true, true, true, true, true, true, true, true, true, false, false, false] rfl rfl (one_of HT_.out (by kernel_rfl)) (by decide) (fun K hK => ?_)
    refine value_ (w1 := ?_) (v := ?_) (by rfl) rfl ?_ ?_
    rotate_left 2
    ·
     go_simp
     constructor
     ·
      rfl
     rfl
    refine hK.out _ _ ⟨(blk_cell (blk_alloc BK114.out _) 0).trans rfl, (blk_cell (blk_alloc BK114.out _) 1).trans rfl, (blk_cell (blk_alloc BK114.out _) 2).trans rfl⟩ (fun hHeld => ?_)
    clear hK K
    refine norm_ (a' := ?_) ?_ ?_
    rotate_left
    ·
     show Act.put _ (some 36) _ = _
     simp only [Act.put, sT, sZ, sS, i64_w, i32_w]
     rfl
    refine one_ (i := 13) (N := some 37) #[true, true, true, true, true, true, true, true, true, true, true, true, true, true, false, false] rfl rfl (one_of HT_.out (by kernel_rfl)) (by decide) (fun K hK => ?_)
    refine Kd.R_append_step k32 w.heap.size (by rfl) (.tmp 25) (.tmp 36) 25 32 (.agg #[(.int .i64 0), (.int .i64 0), (.int .i64 0), (.bool false), (.bool false)]) 32 rfl Try.underlying25 info32 rfl (by decide) (by omega) u115000 x115000_1 (⟨wrap64 (t117 - 1), 0, t121, t119, false⟩ : S32) [.int .i64 (wrap64 (t117 - 1)), .int .i64 0, .int .i64 t121, .bool t119, .bool false] (fun _ => True) (fun _ => False) rfl rfl ?aP (fun _ hk => hk.elim) ?aF ?aO (Below.refl _ _) ?aS ?aL ?_
    (case aP => exact k32_mkM _ _ _ (⟨wrap64 (t117 - 1), 0, t121, t119, false⟩ : S32))
    (case aF => exact (fun _ _ => trivial))
    (case aO => exact (R_mv HO_115000.out))
    (case aS => exact (keep_size (w := w) (g := g) (row := none) (by repeat (first | (with_reducible first | exact HK.out | apply KeepBut.set_ | apply keep_drewN | apply keep_drew | apply keep_alloc | refine keep_far ?_ GW111.out _ | refine keep_far ?_ GW114.out _) | exact HK.out))))
    (case aL => have := LMc17.out; omega)
    intro v124 w22 ho hb hg hat
    rw [← Ny123.out] at ho
    have n0_ := aM (blk_grown (blk_mv BK111.out) hg (Kd.R_ne HO_115000.out BK111.out (by decide)))
    have n1_ := aM (blk_grown (blk_mv BK114.out) hg (Kd.R_ne HO_115000.out BK114.out (by decide)))
    have n2_ := aM (IsS61.grown (show IsS61 w0 _ g s0_0 t122 from by repeat (first | (with_reducible first | exact HI0.out | apply IsS61.alloc | apply IsS61.drewN | apply IsS61.drew | apply IsS61.set_1 | refine IsS61.far ?_ NB0_111.out _ | refine IsS61.far ?_ NB0_114.out _) | exact HI0.out)) hg (IsS61.own_ne HI0.out HO_115000.out (by decide)))
    have n3_ := aM (below_weaken (by repeat (first | (with_reducible first | exact HB.out | apply bA | apply bN | apply bD | refine below_set ?_ (IsS61.ge HI0.out) | refine below_set ?_ GE111.out | refine below_set ?_ GE114.out) | exact HB.out)) HL.out hb)
    have n4_ := aM (KeepBut.trans (by repeat (first | (with_reducible first | exact HK.out | apply KeepBut.set_ | apply keep_drewN | apply keep_drew | apply keep_alloc | refine keep_far ?_ GW111.out _ | refine keep_far ?_ GW114.out _) | exact HK.out)) (KeepBut.of_grown hg g) (Kd.R_base2 HO_115000.out))
    have n5_ := aM (ho)
    clear BK111
    clear BK114
    clear HI0
    clear HB
    clear HK
    clear HO_115000
    have BK111 := n0_
    have BK114 := n1_
    have HI0 := n2_
    have HB := n3_
    have HK := n4_
    have HO125 := n5_
    clear n0_ n1_ n2_ n3_ n4_ n5_
    clear ho hb hg hat
    obtain ⟨Ao23, co23, eo23⟩ := Kd.R_slice HO125.out
    (first | subst eo23 | (injection eo23 with f1_ f2_ f3_; have f4_ := f1_.symm; have f5_ := f3_.symm; clear f1_ f2_ f3_; subst f4_; subst f5_))
    refine hK.out _ _ ⟨(blk_cell BK114.out 0).trans rfl, (blk_cell BK114.out 1).trans rfl, (blk_cell BK114.out 2).trans rfl⟩ (fun hHeld => ?_)
    clear hK K
    refine norm_ (a' := ?_) ?_ ?_
    rotate_left
    ·
     show Act.put _ (some 37) _ = _
     simp only [Act.put, sT, sZ, sS, i64_w, i32_w]
     rfl
    refine pure_ (i := 14) (N := some 38) (v := ?_) (a' := ?_) #[true, true, true, true, true, true, true, true, true, true, true, true, true, true, true, false] rfl rfl (any_of HT_.out (by kernel_rfl)) (fun _ _ _ h => h) (Or.inl ⟨by rfl, ?_⟩) ?_ ?_
    rotate_left
    ·
     intro w'
     go_simp
     with_reducible rfl
    rotate_left
    ·
     simp only [Act.put, sT, sZ, sS, i64_w, i32_w]
     rfl
    refine last_ (i := 15) (N := none) #[true, true, true, true, true, true, true, true, true, true, true, true, true, true, true, true] rfl rfl (one_of HT_.out (by kernel_rfl)) (by decide) (fun K hK => ?_)
    have hs24 : w22.cell? ⟨gb114, 0, none⟩ = some (u115000) := (blk_cell BK114.out 0).trans rfl
    have hfs24 := blk_frozen BK114.out 0
    have hns24_0 := NB111_114.out
    have hms24_0 := NB114_111.out
    refine skip_ (w1 := ?_) (by rfl) rfl ?_ ?_
    rotate_left
    ·
     go_simp
     rfl
    refine hK.out _ _ ?_
    clear hK K
    refine done_ (done_of HT_.out (by kernel_rfl)) ?_
    try go_wp2
    go_roundg k1
    case measure => have := HK1.out; omega
    case rel => exact ⟨(wrap64 (x7_1 + 1)), (t122), (y123), (.slice Ao23 y123.length co23), (by first | rfl | (simp; done) | (simp [*]; done)), H', ⟨by have := HK1.out; omega⟩, ⟨by (with_reducible repeat (first | apply Kd.R_alloc | apply Kd.R_drewN | apply Kd.R_drew)); exact Kd.R_mono (Kd.R_far (p := ⟨gb114, 0, none⟩) (Kd.R_types HO125.out BK114.out (by decide)) (fun _ hk => hk.2) (.slice Ao23 y123.length co23)) (fun _ hk => trivial)⟩, ⟨by (with_reducible repeat (first | refine kN ?_ _ | refine kD ?_ | refine kA ?_ _)); refine blk_far ?_ NB111_114.out _; (with_reducible repeat (first | refine kN ?_ _ | refine kD ?_ | refine kA ?_ _)); exact BK111.out⟩, ⟨by (with_reducible repeat (first | refine kN ?_ _ | refine kD ?_ | refine kA ?_ _)); refine blk_put (cs := #[u115000, .slice none 0 0, .int .i64 t112]) ?_ 0 _ rfl; (with_reducible repeat (first | refine kN ?_ _ | refine kD ?_ | refine kA ?_ _)); exact BK114.out⟩, ⟨by repeat (first | (with_reducible first | exact HI0.out | apply IsS61.alloc | apply IsS61.drewN | apply IsS61.drew | apply IsS61.set_1 | refine IsS61.far ?_ NB0_111.out _ | refine IsS61.far ?_ NB0_114.out _) | exact HI0.out)⟩, ⟨by repeat (first | (with_reducible first | exact HK.out | apply KeepBut.set_ | apply keep_drewN | apply keep_drew | apply keep_alloc | refine keep_far ?_ GW111.out _ | refine keep_far ?_ GW114.out _) | exact HK.out)⟩, ⟨by repeat (first | (with_reducible first | exact HB.out | apply bA | apply bN | apply bD | refine below_set ?_ (IsS61.ge HI0.out) | refine below_set ?_ GE111.out | refine below_set ?_ GE114.out) | exact HB.out)⟩⟩
   rw [if_neg c13] at H
   have c13b0 : decide (x7_1 < (ji12)) = false := decide_eq_false c13
   clear c13
   by_cases c25 : 0 ≤ (x115000_1.length : Int)
   rotate_left
   ·
    rw [if_neg c25] at H
    exact absurd H (by simp)
   rw [if_pos c25] at H
   have c25b0 := eq_true c25
   have c25b1 : decide (0 ≤ (x115000_1.length : Int)) = true := decide_eq_true c25
   clear c25
   by_cases c26 : ((x115000_1.length : Int) : Int).toNat ≤ 281474976710656
   rotate_left
   ·
    rw [if_neg c26] at H
    exact absurd H (by simp)
   rw [if_pos c26] at H
   have c26b0 := eq_true c26
   have c26b1 : decide (((x115000_1.length : Int) : Int).toNat ≤ 281474976710656) = true := decide_eq_true c26
   clear c26
   obtain ⟨y126, hy126⟩ : ∃ y_ : List Bool, y_ = (List.replicate ((x115000_1.length : Int) : Int).toNat false) := ⟨_, rfl⟩
   replace H : (minecontroldraw_Codes_Feeder.l1 k1 a1 y126 0 s0_0 x1001_1 x115000_1 ([] : List Int) t112) = some (r1, r2, r3, r4) := by first | (rw [hy126]; with_reducible exact H) | (have H2_ := (Option.bind_some _ _).symm.trans H; rw [hy126]; with_reducible exact H2_) | (have H2_ := (Option.bind_some _ _).symm.trans H; with_reducible exact H2_) | with_reducible exact H | (rw [hy126]; exact H) | exact H
   have Ny126 := aM hy126
   clear hy126
   have H' := aM H
   clear H
   have hnb27 := NB114_111.out
   have hnc27 := NB111_114.out
   have hnb28 := NB114_0.out
   have hnc28 := NB0_114.out
   obtain ⟨hcz29_0, hcz29_1, hcz29_2, hfz29_0, hfz29_1, hfz29_2⟩ := blk3 BK114.out
   obtain ⟨Ao30, co30, eo30⟩ := Kd.R_slice HO_115000.out
   subst eo30
   go_wp2_with (first | ((with_reducible refine gate_dst (N := 42) rfl ?_); refine Kd.R_make Kd.bool _ 4 rfl (N := 42) rfl 64 _ _ rfl (x115000_1.length : Int) rfl rfl Try.underlying64 (.bool false) 1 info4 rfl (by decide) (by omega) false (ok := fun _ => True) (okp := fun _ => True) rfl (fun _ hk => hk) trivial (of_decide_eq_true (by first | (with_reducible assumption) | assumption)) (Nat.le_trans (Nat.mul_le_mul_right _ (of_decide_eq_true (by first | (with_reducible assumption) | assumption) : (x115000_1.length : Int).toNat ≤ 281474976710656)) (by omega)) (Below.refl _ _) (Nat.le_refl _) ?_; intro v127 w31 ho32 hb hg_ hnew_; clear hg_ hnew_; (first | rw [← Ny126.out] at ho32 | (simp only [Int.reduceToNat] at ho32; rw [← Ny126.out] at ho32)); replace HO_115000 := aM (Kd.R_below (R_mv HO_115000.out) hb); have HO128 := aM (Kd.R_lower ho32 (keep_size (w := w) (g := g) (row := none) (by repeat (first | (with_reducible first | exact HK.out | apply KeepBut.set_ | apply keep_drewN | apply keep_drew | apply keep_alloc | refine keep_far ?_ GW111.out _ | refine keep_far ?_ GW114.out _) | exact HK.out)))); replace BK111 := aM (blk_below (blk_mv BK111.out) hb); replace BK114 := aM (blk_below (blk_mv BK114.out) hb); replace HK := aM (KeepBut.trans (by repeat (first | (with_reducible first | exact HK.out | apply KeepBut.set_ | apply keep_drewN | apply keep_drew | apply keep_alloc | refine keep_far ?_ GW111.out _ | refine keep_far ?_ GW114.out _) | exact HK.out)) (KeepBut.of_below hb g none) (.inl rfl)); replace HB := aM (below_step (by repeat (first | (with_reducible first | exact HB.out | apply bA | apply bN | apply bD | refine below_set ?_ (IsS61.ge HI0.out) | refine below_set ?_ GE111.out | refine below_set ?_ GE114.out) | exact HB.out)) hb); replace HI0 := aM (IsS61.below (by repeat (first | (with_reducible first | exact HI0.out | apply IsS61.alloc | apply IsS61.drewN | apply IsS61.drew | apply IsS61.set_1 | refine IsS61.far ?_ NB0_111.out _ | refine IsS61.far ?_ NB0_114.out _) | exact HI0.out)) hb); clear hb ho32))
   go_loopg [9] k1 (fun kq v9 w' => ∃ (x8_2 : List Bool) (x9_2 : Int) (x1001_2 : Int) (x115001_2 : List Int) (u115001 : Value), v9 = .int .i64 x9_2 ∧ Aside0 (minecontroldraw_Codes_Feeder.l1 kq a1 x8_2 x9_2 s0_0 x1001_2 x115000_1 x115001_2 t112 = some (r1, r2, r3, r4)) ∧ Aside0 (kq ≤ k1) ∧ Aside0 (Kd.R Kd.bool 4 w' w.heap.size (fun _ => True) v127 x8_2) ∧ Aside0 (Kd.R k32 32 w' w.heap.size (fun _ => True) (.slice Ao30 x115000_1.length co30) x115000_1) ∧ Aside0 (Kd.R (Kd.int .i64) 3 w' w.heap.size (fun _ => True) u115001 x115001_2) ∧ Aside0 (w'.heap[gb111]? = some (.cells #[(.slice none 0 0), (.slice none 0 0), .int .i64 0] 28 (0, 0))) ∧ Aside0 (w'.heap[gb114]? = some (.cells #[(.slice Ao30 x115000_1.length co30), u115001, .int .i64 t112] 28 (0, 0))) ∧ Aside0 (IsS61 w0 w' g s0_0 x1001_2) ∧ Aside0 (KeepBut w w' g none) ∧ Aside0 (Below w0.heap.size w0 w'))
   case atStart => exact ⟨(y126), (0), (x1001_1), (([] : List Int)), (.slice none 0 0), (by first | rfl | (simp; done) | (simp [*]; done)), H', ⟨Nat.le_refl _⟩, ⟨by (with_reducible repeat (first | apply Kd.R_alloc | apply Kd.R_drewN | apply Kd.R_drew)); exact HO128.out⟩, ⟨by (with_reducible repeat (first | apply Kd.R_alloc | apply Kd.R_drewN | apply Kd.R_drew)); exact HO_115000.out⟩, ⟨by first | exact Kd.R_nil _ _ _ _ _ | exact Kd.N_nil _ _ _ _ _ | exact Kd.V_nil _ _ _ _ _ | exact Kd.Q_nil _ _ _ _ _ | exact Kd.S_nil _ _ _ _ _⟩, ⟨blk_mv BK111.out⟩, ⟨blk_mv BK114.out⟩, ⟨by repeat (first | (with_reducible first | exact HI0.out | apply IsS61.alloc | apply IsS61.drewN | apply IsS61.drew | apply IsS61.set_1 | refine IsS61.far ?_ NB0_111.out _ | refine IsS61.far ?_ NB0_114.out _) | exact HI0.out)⟩, ⟨by repeat (first | (with_reducible first | exact HK.out | apply KeepBut.set_ | apply keep_drewN | apply keep_drew | apply keep_alloc | refine keep_far ?_ GW111.out _ | refine keep_far ?_ GW114.out _) | exact HK.out)⟩, ⟨by repeat (first | (with_reducible first | exact HB.out | apply bA | apply bN | apply bD | refine below_set ?_ (IsS61.ge HI0.out) | refine below_set ?_ GE111.out | refine below_set ?_ GE114.out) | exact HB.out)⟩⟩
   case round =>
    clear H'
    obtain ⟨x8_2, x9_2, x1001_2, x115001_2, u115001, rfl, HA, HK2, HO_8, HO_115000, HO_115001, BK111, BK114, HI0, HK, HB⟩ := hrel
    cases gk with
    | zero => exact absurd HA.out (by simp [minecontroldraw_Codes_Feeder.l1])
    | succ k2 =>
     have H := HA.out
     clear HA
     simp only [minecontroldraw_Codes_Feeder.l1] at H
     by_cases c33 : x9_2 < a1
     ·
      rw [if_pos c33] at H
      have c33b0 : decide (x9_2 < a1) = true := decide_eq_true c33
      clear c33
      replace H := Option.bind_eq_some_iff.mp H
      obtain ⟨⟨t129, t130⟩, A340, H⟩ := H
      replace H : (minecontroldraw_Codes_Feeder.l2 k2 a1 x8_2 x9_2 t129 s0_0 t130 x115000_1 x115001_2 t112) = some (r1, r2, r3, r4) := H
      have A34 := aM A340
      clear A340
      have H' := aM H
      clear H
      have hnb35 := NB114_111.out
      have hnc35 := NB111_114.out
      have hnb36 := NB114_0.out
      have hnc36 := NB0_114.out
      obtain ⟨hcz37_0, hcz37_1, hcz37_2, hfz37_0, hfz37_1, hfz37_2⟩ := blk3 BK114.out
      go_wp2_with (first | ((with_reducible refine gate_callee (f := 11) rfl ?_); refine goesL_ (some 52) rfl rfl Try.func11 (by kernel_rfl) rfl #[.pointer (some ⟨g, 0, none⟩), .int .i64 (x115000_1.length : Int)] rfl (by first | rfl | (simp only [List.map_toArray, List.map_cons, List.map_nil, List.length_drop, List.length_take]; try rfl)) ?_; (with_reducible refine (minecontroldraw_Codes_Next.calls k2 g s0_0 x1001_2 (x115000_1.length : Int) t129 t130 w0 _ ?side1 ?side2 A34.out).mono ?_); (case side1 => repeat (first | (with_reducible first | exact HI0.out | apply IsS61.alloc | apply IsS61.drewN | apply IsS61.drew | apply IsS61.set_1 | refine IsS61.far ?_ NB0_111.out _ | refine IsS61.far ?_ NB0_114.out _) | exact HI0.out)); (case side2 => repeat (first | (with_reducible first | exact HB.out | apply bA | apply bN | apply bD | refine below_set ?_ (IsS61.ge HI0.out) | refine below_set ?_ GE111.out | refine below_set ?_ GE114.out) | exact HB.out)); rintro e w38 ⟨rfl, hi, hb, hk⟩; refine ⟨_, rfl, ?_⟩; replace HO_8 := aM (Kd.R_mono (Kd.R_keep (IsS61.apart (show IsS61 w0 _ g s0_0 x1001_2 from by repeat (first | (with_reducible first | exact HI0.out | apply IsS61.alloc | apply IsS61.drewN | apply IsS61.drew | apply IsS61.set_1 | refine IsS61.far ?_ NB0_111.out _ | refine IsS61.far ?_ NB0_114.out _) | exact HI0.out)) (R_mv HO_8.out) (by decide)) hk (fun _ h => h.2)) (fun _ h => h.1)); replace HO_115000 := aM (Kd.R_mono (Kd.R_keep (IsS61.apart (show IsS61 w0 _ g s0_0 x1001_2 from by repeat (first | (with_reducible first | exact HI0.out | apply IsS61.alloc | apply IsS61.drewN | apply IsS61.drew | apply IsS61.set_1 | refine IsS61.far ?_ NB0_111.out _ | refine IsS61.far ?_ NB0_114.out _) | exact HI0.out)) (R_mv HO_115000.out) (by decide)) hk (fun _ h => h.2)) (fun _ h => h.1)); replace HO_115001 := aM (Kd.R_mono (Kd.R_keep (IsS61.apart (show IsS61 w0 _ g s0_0 x1001_2 from by repeat (first | (with_reducible first | exact HI0.out | apply IsS61.alloc | apply IsS61.drewN | apply IsS61.drew | apply IsS61.set_1 | refine IsS61.far ?_ NB0_111.out _ | refine IsS61.far ?_ NB0_114.out _) | exact HI0.out)) (R_mv HO_115001.out) (by decide)) hk (fun _ h => h.2)) (fun _ h => h.1)); replace BK111 := aM (KeepBut.blk hk (g' := gb111) (o := .cells #[.slice none 0 0, .slice none 0 0, .int .i64 0] 28 (0, 0)) (by (with_reducible repeat (first | refine kN ?_ _ | refine kD ?_ | refine kA ?_ _)); exact BK111.out) NB111_0.out (by simp)); replace BK114 := aM (KeepBut.blk hk (g' := gb114) (o := .cells #[.slice Ao30 x115000_1.length co30, u115001, .int .i64 t112] 28 (0, 0)) (by (with_reducible repeat (first | refine kN ?_ _ | refine kD ?_ | refine kA ?_ _)); exact BK114.out) NB114_0.out (by simp)); replace HK := aM (KeepBut.trans (by repeat (first | (with_reducible first | exact HK.out | apply KeepBut.set_ | apply keep_drewN | apply keep_drew | apply keep_alloc | refine keep_far ?_ GW111.out _ | refine keep_far ?_ GW114.out _) | exact HK.out)) hk (.inl rfl)); replace HB := aM (hb); replace HI0 := aM (hi); (try clear hb); (try clear hb2); (try clear hge); (try clear hk); (try clear hi)))
      go_loopg [10] k2 (fun kq v10 w' => ∃ (x10_3 : Int), v10 = .int .i64 x10_3 ∧ Aside0 (minecontroldraw_Codes_Feeder.l2 kq a1 x8_2 x9_2 x10_3 s0_0 t130 x115000_1 x115001_2 t112 = some (r1, r2, r3, r4)) ∧ Aside0 (kq ≤ k2) ∧ Aside0 (Kd.R Kd.bool 4 w' w.heap.size (fun _ => True) v127 x8_2) ∧ Aside0 (Kd.R k32 32 w' w.heap.size (fun _ => True) (.slice Ao30 x115000_1.length co30) x115000_1) ∧ Aside0 (Kd.R (Kd.int .i64) 3 w' w.heap.size (fun _ => True) u115001 x115001_2) ∧ Aside0 (w'.heap[gb111]? = some (.cells #[(.slice none 0 0), (.slice none 0 0), .int .i64 0] 28 (0, 0))) ∧ Aside0 (w'.heap[gb114]? = some (.cells #[(.slice Ao30 x115000_1.length co30), u115001, .int .i64 t112] 28 (0, 0))) ∧ Aside0 (IsS61 w0 w' g s0_0 t130) ∧ Aside0 (KeepBut w w' g none) ∧ Aside0 (Below w0.heap.size w0 w'))
      case atStart => exact ⟨(t129), (by first | rfl | (simp; done) | (simp [*]; done)), H', ⟨Nat.le_refl _⟩, ⟨by (with_reducible repeat (first | apply Kd.R_alloc | apply Kd.R_drewN | apply Kd.R_drew)); exact HO_8.out⟩, ⟨by (with_reducible repeat (first | apply Kd.R_alloc | apply Kd.R_drewN | apply Kd.R_drew)); exact HO_115000.out⟩, ⟨by (with_reducible repeat (first | apply Kd.R_alloc | apply Kd.R_drewN | apply Kd.R_drew)); exact HO_115001.out⟩, ⟨blk_mv BK111.out⟩, ⟨blk_mv BK114.out⟩, ⟨by repeat (first | (with_reducible first | exact HI0.out | apply IsS61.alloc | apply IsS61.drewN | apply IsS61.drew | apply IsS61.set_1 | refine IsS61.far ?_ NB0_111.out _ | refine IsS61.far ?_ NB0_114.out _) | exact HI0.out)⟩, ⟨by repeat (first | (with_reducible first | exact HK.out | apply KeepBut.set_ | apply keep_drewN | apply keep_drew | apply keep_alloc | refine keep_far ?_ GW111.out _ | refine keep_far ?_ GW114.out _) | exact HK.out)⟩, ⟨by repeat (first | (with_reducible first | exact HB.out | apply bA | apply bN | apply bD | refine below_set ?_ (IsS61.ge HI0.out) | refine below_set ?_ GE111.out | refine below_set ?_ GE114.out) | exact HB.out)⟩⟩
      case round =>
       clear H'
       obtain ⟨x10_3, rfl, HA, HK3, HO_8, HO_115000, HO_115001, BK111, BK114, HI0, HK, HB⟩ := hrel
       cases gk with
       | zero => exact absurd HA.out (by simp [minecontroldraw_Codes_Feeder.l2])
       | succ k3 =>
        have H := HA.out
        clear HA
        simp only [minecontroldraw_Codes_Feeder.l2] at H
        by_cases c39 : 0 ≤ x10_3
        rotate_left
        ·
         rw [if_neg c39] at H
         exact absurd H (by simp)
        rw [if_pos c39] at H
        have c39b0 : decide (0 ≤ x10_3) = true := decide_eq_true c39
        clear c39
        by_cases c40 : x10_3 < (x8_2.length : Int)
        rotate_left
        ·
         rw [if_neg c40] at H
         exact absurd H (by simp)
        rw [if_pos c40] at H
        have c40b0 : decide (x10_3 < (x8_2.length : Int)) = true := decide_eq_true c40
        clear c40
        obtain ⟨bq41, hbq41⟩ : ∃ b_ : Bool, b_ = (rdOf false x8_2 x10_3) := ⟨_, rfl⟩
        replace H : (if bq41 = true then (if (x8_2.length : Int) = 0 then (none) else (minecontroldraw_Codes_Feeder.l2 k3 a1 x8_2 x9_2 (Int.tmod (wrap64 (x10_3 + 1)) (x8_2.length : Int)) s0_0 t130 x115000_1 x115001_2 t112)) else (if x115001_2.length < 17592186044416 then (minecontroldraw_Codes_Feeder.l1 k3 a1 (x8_2.set (x10_3 : Int).toNat true) (wrap64 (x9_2 + 1)) s0_0 t130 x115000_1 (x115001_2 ++ [x10_3]) t112) else (none))) = some (r1, r2, r3, r4) := by rw [← hbq41] at H; exact H
        have Nbq41 := aM hbq41
        clear hbq41
        by_cases c42 : bq41 = true
        ·
         subst c42
         have H1 : (if (x8_2.length : Int) = 0 then (none) else (minecontroldraw_Codes_Feeder.l2 k3 a1 x8_2 x9_2 (Int.tmod (wrap64 (x10_3 + 1)) (x8_2.length : Int)) s0_0 t130 x115000_1 x115001_2 t112)) = some (r1, r2, r3, r4) := by rw [if_pos rfl] at H; exact H
         clear H
         have H := H1
         clear H1
         by_cases c43 : (x8_2.length : Int) = 0
         ·
          rw [if_pos c43] at H
          exact absurd H (by simp)
         rw [if_neg c43] at H
         have c43b0 : ((x8_2.length : Int) == 0) = false := beq_eq_false_iff_ne.mpr c43
         have c43b1 : ((x8_2.length : Int) != 0) = true := bne_iff_ne.mpr c43
         have c43b2 : ¬ (x8_2 = []) := fun h_ => c43 (by rw [h_]; rfl)
         have H' := aM H
         clear H
         obtain ⟨Ao44, co44, eo44⟩ := Kd.R_slice HO_8.out
         subst eo44
         have p131 : 0 ≤ (x10_3 : Int) := of_decide_eq_true (by first | (with_reducible assumption) | assumption)
         have q131 : x10_3 < (x8_2.length : Int) := of_decide_eq_true (by first | (with_reducible assumption) | assumption)
         obtain ⟨ad131, e131, hx131_0⟩ := Kd.at_bool (Kd.R_reads' HO_8.out).2.2 x10_3 p131 q131
         (try rw [← Nbq41.out] at hx131_0)
         cases e131
         replace p131 := eq_true p131
         replace q131 := eq_true q131
         go_wp2
         go_roundg k3
         case measure => have := HK1.out; have := HK2.out; have := HK3.out; omega
         case rel => exact ⟨(Int.tmod (wrap64 (x10_3 + 1)) (x8_2.length : Int)), (by first | rfl | (simp; done) | (simp [*]; done)), H', ⟨by have := HK1.out; have := HK2.out; have := HK3.out; omega⟩, ⟨by (with_reducible repeat (first | apply Kd.R_alloc | apply Kd.R_drewN | apply Kd.R_drew)); exact HO_8.out⟩, ⟨by (with_reducible repeat (first | apply Kd.R_alloc | apply Kd.R_drewN | apply Kd.R_drew)); exact HO_115000.out⟩, ⟨by (with_reducible repeat (first | apply Kd.R_alloc | apply Kd.R_drewN | apply Kd.R_drew)); exact HO_115001.out⟩, ⟨blk_mv BK111.out⟩, ⟨blk_mv BK114.out⟩, ⟨by repeat (first | (with_reducible first | exact HI0.out | apply IsS61.alloc | apply IsS61.drewN | apply IsS61.drew | apply IsS61.set_1 | refine IsS61.far ?_ NB0_111.out _ | refine IsS61.far ?_ NB0_114.out _) | exact HI0.out)⟩, ⟨by repeat (first | (with_reducible first | exact HK.out | apply KeepBut.set_ | apply keep_drewN | apply keep_drew | apply keep_alloc | refine keep_far ?_ GW111.out _ | refine keep_far ?_ GW114.out _) | exact HK.out)⟩, ⟨by repeat (first | (with_reducible first | exact HB.out | apply bA | apply bN | apply bD | refine below_set ?_ (IsS61.ge HI0.out) | refine below_set ?_ GE111.out | refine below_set ?_ GE114.out) | exact HB.out)⟩⟩
        replace c42 := Bool.eq_false_iff.mpr c42
        subst c42
        have H1 : (if x115001_2.length < 17592186044416 then (minecontroldraw_Codes_Feeder.l1 k3 a1 (x8_2.set (x10_3 : Int).toNat true) (wrap64 (x9_2 + 1)) s0_0 t130 x115000_1 (x115001_2 ++ [x10_3]) t112) else (none)) = some (r1, r2, r3, r4) := by rw [if_neg (show ¬ (false = true) by decide)] at H; exact H
        clear H
        have H := H1
        clear H1
        obtain ⟨y132, hy132⟩ : ∃ y_ : List Bool, y_ = (x8_2.set (x10_3 : Int).toNat true) := ⟨_, rfl⟩
        replace H : (if x115001_2.length < 17592186044416 then (minecontroldraw_Codes_Feeder.l1 k3 a1 y132 (wrap64 (x9_2 + 1)) s0_0 t130 x115000_1 (x115001_2 ++ [x10_3]) t112) else (none)) = some (r1, r2, r3, r4) := by first | (rw [hy132]; with_reducible exact H) | (have H2_ := (Option.bind_some _ _).symm.trans H; rw [hy132]; with_reducible exact H2_) | (have H2_ := (Option.bind_some _ _).symm.trans H; with_reducible exact H2_) | with_reducible exact H | (rw [hy132]; exact H) | exact H
        have Ny132 := aM hy132
        clear hy132
        by_cases c46 : x115001_2.length < 17592186044416
        rotate_left
        ·
         rw [if_neg c46] at H
         exact absurd H (by simp)
        rw [if_pos c46] at H
        have LMc46 := aM c46
        clear c46
        obtain ⟨y133, hy133⟩ : ∃ y_ : List Int, y_ = (x115001_2 ++ [x10_3]) := ⟨_, rfl⟩
        replace H : (minecontroldraw_Codes_Feeder.l1 k3 a1 y132 (wrap64 (x9_2 + 1)) s0_0 t130 x115000_1 y133 t112) = some (r1, r2, r3, r4) := by first | (rw [hy133]; with_reducible exact H) | (have H2_ := (Option.bind_some _ _).symm.trans H; rw [hy133]; with_reducible exact H2_) | (have H2_ := (Option.bind_some _ _).symm.trans H; with_reducible exact H2_) | with_reducible exact H | (rw [hy133]; exact H) | exact H
        have Ny133 := aM hy133
        clear hy133
        have H' := aM H
        clear H
        obtain ⟨Ao47, co47, eo47⟩ := Kd.R_slice HO_8.out
        subst eo47
        have p131 : 0 ≤ (x10_3 : Int) := of_decide_eq_true (by first | (with_reducible assumption) | assumption)
        have q131 : x10_3 < (x8_2.length : Int) := of_decide_eq_true (by first | (with_reducible assumption) | assumption)
        obtain ⟨ad131, e131, hx131_0⟩ := Kd.at_bool (Kd.R_reads' HO_8.out).2.2 x10_3 p131 q131
        (try rw [← Nbq41.out] at hx131_0)
        cases e131
        replace p131 := eq_true p131
        replace q131 := eq_true q131
        have p45 : 0 ≤ (x10_3 : Int) := of_decide_eq_true (by first | (with_reducible assumption) | assumption)
        have q45 : (x10_3 : Int) < ((x8_2.length : Int) : Int) := of_decide_eq_true (by first | (with_reducible assumption) | assumption)
        obtain ⟨go45, co45, eo45, gb45, gl45, cl45, HG45⟩ := Kd.R_form HO_8.out (by omega)
        (first | cases eo45 | (injection eo45 with ea_ en_ ec_; (first | subst ea_ | (injection ea_ with ea_; subst ea_)); subst ec_; clear en_))
        have GB45 := aM gb45
        have GG45 := aM HG45
        clear gb45 gl45 HG45
        (first | simp only [add_plain] at hx131_0 | skip)
        obtain ⟨hx45_0, hf45_0⟩ := Kd.R_celln false HO_8.out (x10_3 : Int) p45 q45
        replace p45 := eq_true p45
        replace q45 := eq_true q45
        have HP48 := Kd.R_putg HO_8.out (x10_3 : Int) true
        go_wp2_with (first | ((with_reducible refine gate_store (t := 4) (p := 64) rfl ?_); refine store_event (t := 4) (p := 64) (v := ?vo_w49) (w1 := (wr.setCell ⟨go45, (x10_3 : Int).toNat, none⟩ (.bool true))) ?hg ?ho ?hn ?hr ?_; (case ho => rfl); (case hg => rfl); (case hn => rfl); (case hr => first | (go_simp; done) | (go_simp; rfl)); intro w49 hw; have hg : wr.grownBy w49 (some go45) := (by rw [hw]; exact HP48.2); have hp_ : Kd.R Kd.bool 4 w49 w.heap.size (fun _ => True) (.slice (some ⟨go45, 0, none⟩) x8_2.length co47) y132 := (by rw [hw, Ny132.out]; exact HP48.1); clear HP48; replace HO_115000 := aM (Kd.R_over' (v := (.slice (some ⟨go45, 0, none⟩) x8_2.length co47)) (R_mv HO_115000.out) (Kd.R_typed HO_8.out) (by decide) hg); replace HO_115001 := aM (Kd.R_over' (v := (.slice (some ⟨go45, 0, none⟩) x8_2.length co47)) (R_mv HO_115001.out) (Kd.R_typed HO_8.out) (by decide) hg); replace BK111 := aM (blk_grown (blk_mv BK111.out) hg (Kd.R_ne HO_8.out BK111.out (by decide))); replace BK114 := aM (blk_grown (blk_mv BK114.out) hg (Kd.R_ne HO_8.out BK114.out (by decide))); replace HI0 := aM (IsS61.grown (by repeat (first | (with_reducible first | exact HI0.out | apply IsS61.alloc | apply IsS61.drewN | apply IsS61.drew | apply IsS61.set_1 | refine IsS61.far ?_ NB0_111.out _ | refine IsS61.far ?_ NB0_114.out _) | exact HI0.out)) hg (IsS61.own_ne HI0.out HO_8.out (by decide))); replace HB := aM ((by rw [hw]; exact below_set (HB.out) (Nat.le_trans HL.out GB45.out) : Below w0.heap.size w0 w49)); replace HK := aM (KeepBut.trans (by repeat (first | (with_reducible first | exact HK.out | apply KeepBut.set_ | apply keep_drewN | apply keep_drew | apply keep_alloc | refine keep_far ?_ GW111.out _ | refine keep_far ?_ GW114.out _) | exact HK.out)) (KeepBut.of_grown hg g) (Kd.R_base2 HO_8.out)); replace HO_8 := aM (hp_); clear hg hw hp_; have hnb50 := NB114_111.out; have hnc50 := NB111_114.out; have hnb51 := NB114_0.out; have hnc51 := NB0_114.out; obtain ⟨hcz52_0, hcz52_1, hcz52_2, hfz52_0, hfz52_1, hfz52_2⟩ := blk3 BK114.out) | ((with_reducible refine gate_builtin (b := .append) (xs := #[.tmp 66, .tmp 68]) rfl ?_); at_builtin; refine Kd.R_append (Kd.int .i64) w.heap.size rfl (.tmp 66) (.tmp 68) 26 3 (.int .i64 0) 8 rfl Try.underlying26 info3 rfl (by decide) (by omega) u115001 x115001_2 x10_3 [.int .i64 x10_3] (fun _ => True) (fun _ => False) rfl rfl ?aP (fun _ hk => hk.elim) ?aF ?aO (Below.refl _ _) ?aS ?aL ?_; (case aP => exact rfl); (case aF => exact (fun _ _ => trivial)); (case aO => exact (R_mv HO_115001.out)); (case aS => exact (keep_size (w := w) (g := g) (row := none) (by repeat (first | (with_reducible first | exact HK.out | apply KeepBut.set_ | apply keep_drewN | apply keep_drew | apply keep_alloc | refine keep_far ?_ GW111.out _ | refine keep_far ?_ GW114.out _) | exact HK.out)))); (case aL => have := LMc46.out; omega); intro v134 w53 ho hb hg hat; rw [← Ny133.out] at ho; have n0_ := aM (Kd.R_over' (R_mv HO_8.out) (Kd.R_typed (R_mv HO_115001.out)) (by decide) hg); have n1_ := aM (Kd.R_over' (R_mv HO_115000.out) (Kd.R_typed (R_mv HO_115001.out)) (by decide) hg); have n2_ := aM (blk_grown (blk_mv BK111.out) hg (Kd.R_ne HO_115001.out BK111.out (by decide))); have n3_ := aM (blk_grown (blk_mv BK114.out) hg (Kd.R_ne HO_115001.out BK114.out (by decide))); have n4_ := aM (IsS61.grown (show IsS61 w0 _ g s0_0 t130 from by repeat (first | (with_reducible first | exact HI0.out | apply IsS61.alloc | apply IsS61.drewN | apply IsS61.drew | apply IsS61.set_1 | refine IsS61.far ?_ NB0_111.out _ | refine IsS61.far ?_ NB0_114.out _) | exact HI0.out)) hg (IsS61.own_ne HI0.out HO_115001.out (by decide))); have n5_ := aM (below_weaken (by repeat (first | (with_reducible first | exact HB.out | apply bA | apply bN | apply bD | refine below_set ?_ (IsS61.ge HI0.out) | refine below_set ?_ GE111.out | refine below_set ?_ GE114.out) | exact HB.out)) HL.out hb); have n6_ := aM (KeepBut.trans (by repeat (first | (with_reducible first | exact HK.out | apply KeepBut.set_ | apply keep_drewN | apply keep_drew | apply keep_alloc | refine keep_far ?_ GW111.out _ | refine keep_far ?_ GW114.out _) | exact HK.out)) (KeepBut.of_grown hg g) (Kd.R_base2 HO_115001.out)); have n7_ := aM (ho); clear HO_8; clear HO_115000; clear BK111; clear BK114; clear HI0; clear HB; clear HK; clear HO_115001; have HO_8 := n0_; have HO_115000 := n1_; have BK111 := n2_; have BK114 := n3_; have HI0 := n4_; have HB := n5_; have HK := n6_; have HO135 := n7_; clear n0_ n1_ n2_ n3_ n4_ n5_ n6_ n7_; clear ho hb hg hat; obtain ⟨Ao54, co54, eo54⟩ := Kd.R_slice HO135.out; subst eo54; obtain ⟨hcz55_0, hcz55_1, hcz55_2, hfz55_0, hfz55_1, hfz55_2⟩ := blk3 BK114.out))
        go_roundg k3
        case measure => have := HK1.out; have := HK2.out; have := HK3.out; omega
        case rel => exact ⟨(y132), (wrap64 (x9_2 + 1)), (t130), (y133), (.slice Ao54 y133.length co54), (by first | rfl | (simp; done) | (simp [*]; done)), H', ⟨by have := HK1.out; have := HK2.out; have := HK3.out; omega⟩, ⟨by (with_reducible repeat (first | apply Kd.R_alloc | apply Kd.R_drewN | apply Kd.R_drew)); exact Kd.R_mono (Kd.R_far (p := ⟨gb114, 1, none⟩) (Kd.R_types HO_8.out BK114.out (by decide)) (fun _ hk => hk.2) (.slice Ao54 y133.length co54)) (fun _ hk => trivial)⟩, ⟨by (with_reducible repeat (first | apply Kd.R_alloc | apply Kd.R_drewN | apply Kd.R_drew)); exact Kd.R_mono (Kd.R_far (p := ⟨gb114, 1, none⟩) (Kd.R_types HO_115000.out BK114.out (by decide)) (fun _ hk => hk.2) (.slice Ao54 y133.length co54)) (fun _ hk => trivial)⟩, ⟨by (with_reducible repeat (first | apply Kd.R_alloc | apply Kd.R_drewN | apply Kd.R_drew)); exact Kd.R_mono (Kd.R_far (p := ⟨gb114, 1, none⟩) (Kd.R_types HO135.out BK114.out (by decide)) (fun _ hk => hk.2) (.slice Ao54 y133.length co54)) (fun _ hk => trivial)⟩, ⟨by (with_reducible repeat (first | refine kN ?_ _ | refine kD ?_ | refine kA ?_ _)); refine blk_far ?_ NB111_114.out _; (with_reducible repeat (first | refine kN ?_ _ | refine kD ?_ | refine kA ?_ _)); exact BK111.out⟩, ⟨by (with_reducible repeat (first | refine kN ?_ _ | refine kD ?_ | refine kA ?_ _)); refine blk_put (cs := #[.slice Ao30 x115000_1.length co30, u115001, .int .i64 t112]) ?_ 1 _ rfl; (with_reducible repeat (first | refine kN ?_ _ | refine kD ?_ | refine kA ?_ _)); exact BK114.out⟩, ⟨by repeat (first | (with_reducible first | exact HI0.out | apply IsS61.alloc | apply IsS61.drewN | apply IsS61.drew | apply IsS61.set_1 | refine IsS61.far ?_ NB0_111.out _ | refine IsS61.far ?_ NB0_114.out _) | exact HI0.out)⟩, ⟨by repeat (first | (with_reducible first | exact HK.out | apply KeepBut.set_ | apply keep_drewN | apply keep_drew | apply keep_alloc | refine keep_far ?_ GW111.out _ | refine keep_far ?_ GW114.out _) | exact HK.out)⟩, ⟨by repeat (first | (with_reducible first | exact HB.out | apply bA | apply bN | apply bD | refine below_set ?_ (IsS61.ge HI0.out) | refine below_set ?_ GE111.out | refine below_set ?_ GE114.out) | exact HB.out)⟩⟩
     rw [if_neg c33] at H
     have c33b0 : decide (x9_2 < a1) = false := decide_eq_false c33
     clear c33
     simp only [Option.some.injEq, Prod.mk.injEq] at H
     obtain ⟨rfl, rfl, rfl, rfl⟩ := H
     have hnb56 := NB114_111.out
     have hnc56 := NB111_114.out
     have hnb57 := NB114_0.out
     have hnc57 := NB0_114.out
     obtain ⟨hcz58_0, hcz58_1, hcz58_2, hfz58_0, hfz58_1, hfz58_2⟩ := blk3 BK114.out
     have hnb59 := NB111_0.out
     have hnc59 := NB0_111.out
     obtain ⟨hcz60_0, hcz60_1, hcz60_2, hfz60_0, hfz60_1, hfz60_2⟩ := blk3 BK111.out
     obtain ⟨Ao61, co61, eo61⟩ := Kd.R_slice HO_115001.out
     subst eo61
     go_wp2
     refine bodyPost_ret (results_cell_row rfl _ _ gb111 28 #[.slice Ao30 x115000_1.length co30, .slice Ao61 x115001_2.length co61, .int .i64 t112] (0, 0) _ rfl (by (with_reducible repeat (first | refine kN ?_ _ | refine kD ?_ | refine kA ?_ _)); refine blk_put (cs := #[.slice Ao30 x115000_1.length co30, .slice Ao61 x115001_2.length co61, .int .i64 0]) ?_ 2 _ rfl; (with_reducible repeat (first | refine kN ?_ _ | refine kD ?_ | refine kA ?_ _)); refine blk_put (cs := #[.slice Ao30 x115000_1.length co30, .slice none 0 0, .int .i64 0]) ?_ 1 _ rfl; (with_reducible repeat (first | refine kN ?_ _ | refine kD ?_ | refine kA ?_ _)); refine blk_put (cs := #[.slice none 0 0, .slice none 0 0, .int .i64 0]) ?_ 0 _ rfl; (with_reducible repeat (first | refine kN ?_ _ | refine kD ?_ | refine kA ?_ _)); exact BK111.out) Try.underlying28 rfl (by kernel_rfl)) rfl ?_
     exact ⟨_, _, by first | rfl | (simp [errW_none, errW_some] <;> rfl) | (simp only [← hji12]; first | rfl | (simp [errW_none, errW_some] <;> rfl)) | (simp [*, errW_none, errW_some] <;> rfl), by (with_reducible repeat (first | apply Kd.R_alloc | apply Kd.R_drewN | apply Kd.R_drew)); exact Kd.R_mono (f3 HO_115000.out BK111.out (by decide)) (fun _ hk => trivial), by (with_reducible repeat (first | apply Kd.R_alloc | apply Kd.R_drewN | apply Kd.R_drew)); exact Kd.R_mono (f3 HO_115001.out BK111.out (by decide)) (fun _ hk => trivial), by repeat (first | (with_reducible first | exact HI0.out | apply IsS61.alloc | apply IsS61.drewN | apply IsS61.drew | apply IsS61.set_1 | refine IsS61.far ?_ NB0_111.out _ | refine IsS61.far ?_ NB0_114.out _) | exact HI0.out), by repeat (first | (with_reducible first | exact HB.out | apply bA | apply bN | apply bD | refine below_set ?_ (IsS61.ge HI0.out) | refine below_set ?_ GE111.out | refine below_set ?_ GE114.out) | exact HB.out), by repeat (first | (with_reducible first | exact HK.out | apply KeepBut.set_ | apply keep_drewN | apply keep_drew | apply keep_alloc | refine keep_far ?_ GW111.out _ | refine keep_far ?_ GW114.out _) | exact HK.out)⟩

/-! ### minecontroldraw_Mod: function 12 -/
def minecontroldraw_Mod.f (a0 : Int) (a1 : Int) : Option (Int) := if a1 < 1 then (some 0) else (if a1 = 0 then (none) else (if (Int.tmod a0 a1) < 0 then (some (wrap64 ((Int.tmod a0 a1) + a1))) else (some (Int.tmod a0 a1))))
set_option maxHeartbeats 8000000 in
set_option maxRecDepth 100000 in
theorem minecontroldraw_Mod.calls (a0 : Int) (a1 : Int) (r : Int) (w : World) (h : minecontroldraw_Mod.f a0 a1 = some r) :
  Calls Try.prog 12 #[.int .i64 a0, .int .i64 a1] w fun e w' => e = .returned (.int .i64 r) ∧ Drawn0 w w' := by
 have H : (if a1 < 1 then (some 0) else (if a1 = 0 then (none) else (if (Int.tmod a0 a1) < 0 then (some (wrap64 ((Int.tmod a0 a1) + a1))) else (some (Int.tmod a0 a1))))) = some r := h
 clear h
 by_cases c3 : a1 < 1
 ·
  rw [if_pos c3] at H
  have c3b0 : decide (a1 < 1) = true := decide_eq_true c3
  clear c3
  obtain rfl := Option.some.inj H
  go_enter Try.func12, Try.ntmps12
  go_wp2
  go_ret
  exact ⟨by first | rfl | (simp; done) | (simp [*]; done), by repeat (first | exact Drawn0.refl _ | apply Drawn0.step)⟩
 rw [if_neg c3] at H
 have c3b0 : decide (a1 < 1) = false := decide_eq_false c3
 clear c3
 by_cases c4 : a1 = 0
 ·
  rw [if_pos c4] at H
  exact absurd H (by simp)
 rw [if_neg c4] at H
 have c4b0 : (a1 == 0) = false := beq_eq_false_iff_ne.mpr c4
 have c4b1 : (a1 != 0) = true := bne_iff_ne.mpr c4
 by_cases c5 : (Int.tmod a0 a1) < 0
 ·
  rw [if_pos c5] at H
  have c5b0 : decide ((Int.tmod a0 a1) < 0) = true := decide_eq_true c5
  clear c5
  obtain rfl := Option.some.inj H
  go_enter Try.func12, Try.ntmps12
  go_wp2
  go_ret
  exact ⟨by first | rfl | (simp; done) | (simp [*]; done), by repeat (first | exact Drawn0.refl _ | apply Drawn0.step)⟩
 rw [if_neg c5] at H
 have c5b0 : decide ((Int.tmod a0 a1) < 0) = false := decide_eq_false c5
 clear c5
 obtain rfl := Option.some.inj H
 go_enter Try.func12, Try.ntmps12
 go_wp2
 go_ret
 exact ⟨by first | rfl | (simp; done) | (simp [*]; done), by repeat (first | exact Drawn0.refl _ | apply Drawn0.step)⟩

end Go.Proofs.Ytcgeflbifbaecaa.PFeh
