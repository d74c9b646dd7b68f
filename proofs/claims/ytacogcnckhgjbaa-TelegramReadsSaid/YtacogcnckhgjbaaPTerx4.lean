/- Functions of the given program as Lean functions, and proofs that its calls come to what these say. Written by a program of this seat (wip/mkprint.py); Lean checks it all. -/
import Derived.Test.YtacogcnckhgjbaaPTerx0
import Derived.Test.YtacogcnckhgjbaaPTerx3
namespace Go.Proofs.Ytacogcnckhgjbaa.PTer
open Go.RowKit Go.Proofs.YtacogcnckhgjbaaW.PrintWords Go.Proofs.YtacogcnckhgjbaaW.PrintLast Go.Proofs.YtacogcnckhgjbaaW.PrintMore
attribute [local go_sem] max2_int min2_int max_two min_two max_three min_three max_four min_four   -- for this text's walks alone
set_option linter.unusedVariables false
set_option linter.unusedSimpArgs false

/-! ### minecontroldraw_Codes_Frame: function 11 -/
def minecontroldraw_Codes_Frame.f (k : Nat) (s0_0 : List Int) (s0_1 : Int) : Option (Int × Int × List Int × Int) := (minecontroldraw_Codes_Next.f k s0_0 s0_1 6).bind fun bt204 => ((minecontroldraw_Codes_Next.f k s0_0 bt204.2 2).bind fun bt206 => ((minecontroldraw_Codes_Next.f k s0_0 bt206.2 256).bind fun bt208 => ((some (([(bt206.1) % 256, (bt208.1) % 256] : List Int) : List Int)).bind fun y210 => ((minecontroldraw_Codes_Next.f k s0_0 bt208.2 8).bind fun bt214 => (if bt214.1 = 5 then (some (bt204.1, 2, ([] : List Int), bt214.2)) else (if bt214.1 = 6 then ((minecontroldraw_Codes_Next.f k s0_0 bt214.2 4).bind fun bt216 => (some (bt204.1, bt216.1, y210, bt216.2))) else (if bt214.1 = 7 then ((minecontroldraw_Codes_Next.f k s0_0 bt214.2 3).bind fun bt218 => (if 0 ≤ bt218.1 then (if bt218.1 ≤ (y210.length : Int) then (some (bt204.1, 1, (y210.take (bt218.1 : Int).toNat), bt218.2)) else (none)) else (none))) else (some (bt204.1, 1, y210, bt214.2)))))))))
theorem minecontroldraw_Codes_Frame.mono : ∀ a0 a1 k, LeO (minecontroldraw_Codes_Frame.f k a0 a1) (minecontroldraw_Codes_Frame.f (k + 1) a0 a1) := by
 intro a0 a1 k
 unfold minecontroldraw_Codes_Frame.f
 repeat' first
   | (with_reducible exact minecontroldraw_Codes_Next.mono _ _ _ _)
   | (with_reducible exact LeO.refl _)
   | (with_reducible exact LeO.none _)
   | (with_reducible refine LeO.ite ?_ ?_)
   | (with_reducible refine LeO.bind ?_ (fun _ => ?_))
   | exact minecontroldraw_Codes_Next.mono _ _ _ _
   | exact LeO.none _
   | refine LeO.ite ?_ ?_
   | refine LeO.bind ?_ (fun _ => ?_)
set_option maxHeartbeats 8000000 in
set_option maxRecDepth 100000 in
theorem minecontroldraw_Codes_Frame.calls (k : Nat) (g : Nat) (s0_0 : List Int) (s0_1 : Int) (r1 : Int) (r2 : Int) (r3 : List Int) (r4 : Int) (w0 w : World) (hI : IsS48 w0 w g s0_0 s0_1) (hB : Below w0.heap.size w0 w) (h : minecontroldraw_Codes_Frame.f k s0_0 s0_1 = some (r1, r2, r3, r4)) :
  Calls Try.prog 11 #[.pointer (some ⟨g, 0, none⟩)] w fun e w' => ∃ v2_ : Value, e = .returned (.agg #[.int .i64 r1, .int .i64 r2, v2_]) ∧ Kd.R (Kd.int .u8) 5 w' w.heap.size (fun _ => True) v2_ r3 ∧ IsS48 w0 w' g s0_0 r4 ∧ Below w0.heap.size w0 w' ∧ KeepBut w w' g none := by
 have hu24 := Try.underlying24
 have HI0 := Aside0.mk hI
 have HK := Aside0.mk (KeepBut.refl w g none)
 have HL := Aside0.mk hB.size
 clear hI
 have HW0 := Aside0.mk hB.size
 have HB := Aside0.mk hB
 clear hB
 have H : ((minecontroldraw_Codes_Next.f k s0_0 s0_1 6).bind fun bt204 => ((minecontroldraw_Codes_Next.f k s0_0 bt204.2 2).bind fun bt206 => ((minecontroldraw_Codes_Next.f k s0_0 bt206.2 256).bind fun bt208 => ((some (([(bt206.1) % 256, (bt208.1) % 256] : List Int) : List Int)).bind fun y210 => ((minecontroldraw_Codes_Next.f k s0_0 bt208.2 8).bind fun bt214 => (if bt214.1 = 5 then (some (bt204.1, 2, ([] : List Int), bt214.2)) else (if bt214.1 = 6 then ((minecontroldraw_Codes_Next.f k s0_0 bt214.2 4).bind fun bt216 => (some (bt204.1, bt216.1, y210, bt216.2))) else (if bt214.1 = 7 then ((minecontroldraw_Codes_Next.f k s0_0 bt214.2 3).bind fun bt218 => (if 0 ≤ bt218.1 then (if bt218.1 ≤ (y210.length : Int) then (some (bt204.1, 1, (y210.take (bt218.1 : Int).toNat), bt218.2)) else (none)) else (none))) else (some (bt204.1, 1, y210, bt214.2)))))))))) = some (r1, r2, r3, r4) := h
 clear h
 replace H := Option.bind_eq_some_iff.mp H
 obtain ⟨⟨t204, t205⟩, A20, H⟩ := H
 replace H : ((minecontroldraw_Codes_Next.f k s0_0 t205 2).bind fun bt206 => ((minecontroldraw_Codes_Next.f k s0_0 bt206.2 256).bind fun bt208 => ((some (([(bt206.1) % 256, (bt208.1) % 256] : List Int) : List Int)).bind fun y210 => ((minecontroldraw_Codes_Next.f k s0_0 bt208.2 8).bind fun bt214 => (if bt214.1 = 5 then (some (t204, 2, ([] : List Int), bt214.2)) else (if bt214.1 = 6 then ((minecontroldraw_Codes_Next.f k s0_0 bt214.2 4).bind fun bt216 => (some (t204, bt216.1, y210, bt216.2))) else (if bt214.1 = 7 then ((minecontroldraw_Codes_Next.f k s0_0 bt214.2 3).bind fun bt218 => (if 0 ≤ bt218.1 then (if bt218.1 ≤ (y210.length : Int) then (some (t204, 1, (y210.take (bt218.1 : Int).toNat), bt218.2)) else (none)) else (none))) else (some (t204, 1, y210, bt214.2))))))))) = some (r1, r2, r3, r4) := H
 have A2 := Aside0.mk A20
 clear A20
 replace H := Option.bind_eq_some_iff.mp H
 obtain ⟨⟨t206, t207⟩, A30, H⟩ := H
 replace H : ((minecontroldraw_Codes_Next.f k s0_0 t207 256).bind fun bt208 => ((some (([(t206) % 256, (bt208.1) % 256] : List Int) : List Int)).bind fun y210 => ((minecontroldraw_Codes_Next.f k s0_0 bt208.2 8).bind fun bt214 => (if bt214.1 = 5 then (some (t204, 2, ([] : List Int), bt214.2)) else (if bt214.1 = 6 then ((minecontroldraw_Codes_Next.f k s0_0 bt214.2 4).bind fun bt216 => (some (t204, bt216.1, y210, bt216.2))) else (if bt214.1 = 7 then ((minecontroldraw_Codes_Next.f k s0_0 bt214.2 3).bind fun bt218 => (if 0 ≤ bt218.1 then (if bt218.1 ≤ (y210.length : Int) then (some (t204, 1, (y210.take (bt218.1 : Int).toNat), bt218.2)) else (none)) else (none))) else (some (t204, 1, y210, bt214.2)))))))) = some (r1, r2, r3, r4) := H
 have A3 := Aside0.mk A30
 clear A30
 replace H := Option.bind_eq_some_iff.mp H
 obtain ⟨⟨t208, t209⟩, A40, H⟩ := H
 replace H : ((some (([(t206) % 256, (t208) % 256] : List Int) : List Int)).bind fun y210 => ((minecontroldraw_Codes_Next.f k s0_0 t209 8).bind fun bt214 => (if bt214.1 = 5 then (some (t204, 2, ([] : List Int), bt214.2)) else (if bt214.1 = 6 then ((minecontroldraw_Codes_Next.f k s0_0 bt214.2 4).bind fun bt216 => (some (t204, bt216.1, y210, bt216.2))) else (if bt214.1 = 7 then ((minecontroldraw_Codes_Next.f k s0_0 bt214.2 3).bind fun bt218 => (if 0 ≤ bt218.1 then (if bt218.1 ≤ (y210.length : Int) then (some (t204, 1, (y210.take (bt218.1 : Int).toNat), bt218.2)) else (none)) else (none))) else (some (t204, 1, y210, bt214.2))))))) = some (r1, r2, r3, r4) := H
 have A4 := Aside0.mk A40
 clear A40
 obtain ⟨y210, hy210⟩ : ∃ y_ : List Int, y_ = (([(t206) % 256, (t208) % 256] : List Int)) := ⟨_, rfl⟩
 replace H : ((minecontroldraw_Codes_Next.f k s0_0 t209 8).bind fun bt214 => (if bt214.1 = 5 then (some (t204, 2, ([] : List Int), bt214.2)) else (if bt214.1 = 6 then ((minecontroldraw_Codes_Next.f k s0_0 bt214.2 4).bind fun bt216 => (some (t204, bt216.1, y210, bt216.2))) else (if bt214.1 = 7 then ((minecontroldraw_Codes_Next.f k s0_0 bt214.2 3).bind fun bt218 => (if 0 ≤ bt218.1 then (if bt218.1 ≤ (y210.length : Int) then (some (t204, 1, (y210.take (bt218.1 : Int).toNat), bt218.2)) else (none)) else (none))) else (some (t204, 1, y210, bt214.2)))))) = some (r1, r2, r3, r4) := by first | (rw [hy210]; with_reducible exact H) | (have H2_ := (Option.bind_some _ _).symm.trans H; rw [hy210]; with_reducible exact H2_) | (have H2_ := (Option.bind_some _ _).symm.trans H; with_reducible exact H2_) | with_reducible exact H | (rw [hy210]; exact H) | exact H
 have Ny210 := Aside0.mk hy210
 clear hy210
 replace H := Option.bind_eq_some_iff.mp H
 obtain ⟨⟨t214, t215⟩, A50, H⟩ := H
 replace H : (if t214 = 5 then (some (t204, 2, ([] : List Int), t215)) else (if t214 = 6 then ((minecontroldraw_Codes_Next.f k s0_0 t215 4).bind fun bt216 => (some (t204, bt216.1, y210, bt216.2))) else (if t214 = 7 then ((minecontroldraw_Codes_Next.f k s0_0 t215 3).bind fun bt218 => (if 0 ≤ bt218.1 then (if bt218.1 ≤ (y210.length : Int) then (some (t204, 1, (y210.take (bt218.1 : Int).toNat), bt218.2)) else (none)) else (none))) else (some (t204, 1, y210, t215))))) = some (r1, r2, r3, r4) := H
 have A5 := Aside0.mk A50
 clear A50
 by_cases c6 : t214 = 5
 ·
  rw [if_pos c6] at H
  have c6b0 : (t214 == 5) = true := beq_iff_eq.mpr c6
  have c6b1 : (t214 != 5) = false := bne_eq_false_iff_eq.mpr c6
  clear c6
  simp only [Option.some.injEq, Prod.mk.injEq] at H
  obtain ⟨rfl, rfl, rfl, rfl⟩ := H
  go_enter Try.func11, Try.ntmps11
  go_wp2_with (first | ((with_reducible refine gate_dst (N := 2) rfl ?_); refine box_event ?hg (N := 2) ?hd (cs := #[.int .i64 0, .int .i64 0, .slice none 0 0]) (t := 24) ?hr ?_; (case hd => rfl); (case hg => rfl); (case hr => first | (go_simp; done) | (go_simp; rfl)); intro gb203 hg w7 hbox hb; have n0_ := Aside0.mk (IsS48.below (by repeat (first | (with_reducible first | exact HI0.out | apply IsS48.alloc | apply IsS48.drewN | apply IsS48.drew | apply IsS48.set_1) | exact HI0.out)) hb); have n1_ := Aside0.mk (KeepBut.trans (by repeat (first | (with_reducible first | exact HK.out | apply KeepBut.set_ | apply keep_drewN | apply keep_drew | apply keep_alloc) | exact HK.out)) (KeepBut.of_below hb g none) (.inl rfl)); have n2_ := Aside0.mk (below_step (by repeat (first | (with_reducible first | exact HB.out | apply below_alloc | apply pw_below_drewN | apply below_drew1 | refine below_set ?_ (IsS48.ge HI0.out)) | exact HB.out)) hb); have n3_ := Aside0.mk (hbox); have n4_ := Aside0.mk ((by rw [hg]; exact (keep_size (w := w) (g := g) (row := none) (by repeat (first | (with_reducible first | exact HK.out | apply KeepBut.set_ | apply keep_drewN | apply keep_drew | apply keep_alloc) | exact HK.out))) : w.heap.size ≤ gb203)); have n5_ := Aside0.mk ((Nat.le_trans HW0.out (by rw [hg]; exact (keep_size (w := w) (g := g) (row := none) (by repeat (first | (with_reducible first | exact HK.out | apply KeepBut.set_ | apply keep_drewN | apply keep_drew | apply keep_alloc) | exact HK.out))) : w.heap.size ≤ gb203) : w0.heap.size ≤ gb203)); have n6_ := Aside0.mk ((by rw [hg]; exact Nat.ne_of_lt (IsS48.lt (show IsS48 w0 _ g s0_0 s0_1 from by repeat (first | (with_reducible first | exact HI0.out | apply IsS48.alloc | apply IsS48.drewN | apply IsS48.drew | apply IsS48.set_1) | exact HI0.out))) : g ≠ gb203)); have n7_ := Aside0.mk ((by rw [hg]; exact Nat.ne_of_gt (IsS48.lt (show IsS48 w0 _ g s0_0 s0_1 from by repeat (first | (with_reducible first | exact HI0.out | apply IsS48.alloc | apply IsS48.drewN | apply IsS48.drew | apply IsS48.set_1) | exact HI0.out))) : gb203 ≠ g)); clear HI0; clear HK; clear HB; have HI0 := n0_; have HK := n1_; have HB := n2_; have BK203 := n3_; have GW203 := n4_; have GE203 := n5_; have NB0_203 := n6_; have NB203_0 := n7_; clear n0_ n1_ n2_ n3_ n4_ n5_ n6_ n7_; clear hb hbox hg) | ((with_reducible refine gate_callee (f := 21) rfl ?_); refine goesL_ (some 5) rfl rfl Try.func21 (by kernel_rfl) rfl #[.pointer (some ⟨g, 0, none⟩), .int .i64 6] rfl (by (try simp only [List.map_toArray, List.map_cons, List.map_nil]); first | done | rfl | (simp only [List.length_drop, List.length_take]; rfl)) ?_; (with_reducible refine (minecontroldraw_Codes_Next.calls k g s0_0 s0_1 6 t204 t205 w0 _ ?side1 ?side2 A2.out).mono ?_); (case side1 => repeat (first | (with_reducible first | exact HI0.out | apply IsS48.alloc | apply IsS48.drewN | apply IsS48.drew | apply IsS48.set_1 | refine IsS48.far ?_ NB0_203.out _) | exact HI0.out)); (case side2 => repeat (first | (with_reducible first | exact HB.out | apply below_alloc | apply pw_below_drewN | apply below_drew1 | refine below_set ?_ (IsS48.ge HI0.out) | refine below_set ?_ GE203.out) | exact HB.out)); rintro e w8 ⟨rfl, hi, hb, hk⟩; refine ⟨_, rfl, ?_⟩; have n0_ := Aside0.mk (KeepBut.blk hk (g' := gb203) (o := .cells #[.int .i64 0, .int .i64 0, .slice none 0 0] 24 (0, 0)) (by (with_reducible repeat (first | refine blk_drewN ?_ _ | refine blk_drew ?_ | refine blk_alloc ?_ _)); exact BK203.out) NB203_0.out (by simp)); have n1_ := Aside0.mk (KeepBut.trans (by repeat (first | (with_reducible first | exact HK.out | apply KeepBut.set_ | apply keep_drewN | apply keep_drew | apply keep_alloc | refine keep_far ?_ GW203.out _) | exact HK.out)) hk (.inl rfl)); have n2_ := Aside0.mk (hb); have n3_ := Aside0.mk (hi); clear BK203; clear HK; clear HB; clear HI0; have BK203 := n0_; have HK := n1_; have HB := n2_; have HI0 := n3_; clear n0_ n1_ n2_ n3_; (try clear hb); (try clear hb2); (try clear hge); (try clear hk); (try clear hi)) | ((with_reducible refine gate_callee (f := 21) rfl ?_); refine goesL_ (some 7) rfl rfl Try.func21 (by kernel_rfl) rfl #[.pointer (some ⟨g, 0, none⟩), .int .i64 2] rfl (by (try simp only [List.map_toArray, List.map_cons, List.map_nil]); first | done | rfl | (simp only [List.length_drop, List.length_take]; rfl)) ?_; (with_reducible refine (minecontroldraw_Codes_Next.calls k g s0_0 t205 2 t206 t207 w0 _ ?side1 ?side2 A3.out).mono ?_); (case side1 => repeat (first | (with_reducible first | exact HI0.out | apply IsS48.alloc | apply IsS48.drewN | apply IsS48.drew | apply IsS48.set_1 | refine IsS48.far ?_ NB0_203.out _) | exact HI0.out)); (case side2 => repeat (first | (with_reducible first | exact HB.out | apply below_alloc | apply pw_below_drewN | apply below_drew1 | refine below_set ?_ (IsS48.ge HI0.out) | refine below_set ?_ GE203.out) | exact HB.out)); rintro e w9 ⟨rfl, hi, hb, hk⟩; refine ⟨_, rfl, ?_⟩; have n0_ := Aside0.mk (KeepBut.blk hk (g' := gb203) (o := .cells #[.int .i64 0, .int .i64 0, .slice none 0 0] 24 (0, 0)) (by (with_reducible repeat (first | refine blk_drewN ?_ _ | refine blk_drew ?_ | refine blk_alloc ?_ _)); exact BK203.out) NB203_0.out (by simp)); have n1_ := Aside0.mk (KeepBut.trans (by repeat (first | (with_reducible first | exact HK.out | apply KeepBut.set_ | apply keep_drewN | apply keep_drew | apply keep_alloc | refine keep_far ?_ GW203.out _) | exact HK.out)) hk (.inl rfl)); have n2_ := Aside0.mk (hb); have n3_ := Aside0.mk (hi); clear BK203; clear HK; clear HB; clear HI0; have BK203 := n0_; have HK := n1_; have HB := n2_; have HI0 := n3_; clear n0_ n1_ n2_ n3_; (try clear hb); (try clear hb2); (try clear hge); (try clear hk); (try clear hi)) | ((with_reducible refine gate_callee (f := 21) rfl ?_); refine goesL_ (some 10) rfl rfl Try.func21 (by kernel_rfl) rfl #[.pointer (some ⟨g, 0, none⟩), .int .i64 256] rfl (by (try simp only [List.map_toArray, List.map_cons, List.map_nil]); first | done | rfl | (simp only [List.length_drop, List.length_take]; rfl)) ?_; (with_reducible refine (minecontroldraw_Codes_Next.calls k g s0_0 t207 256 t208 t209 w0 _ ?side1 ?side2 A4.out).mono ?_); (case side1 => repeat (first | (with_reducible first | exact HI0.out | apply IsS48.alloc | apply IsS48.drewN | apply IsS48.drew | apply IsS48.set_1 | refine IsS48.far ?_ NB0_203.out _) | exact HI0.out)); (case side2 => repeat (first | (with_reducible first | exact HB.out | apply below_alloc | apply pw_below_drewN | apply below_drew1 | refine below_set ?_ (IsS48.ge HI0.out) | refine below_set ?_ GE203.out) | exact HB.out)); rintro e w10 ⟨rfl, hi, hb, hk⟩; refine ⟨_, rfl, ?_⟩; have n0_ := Aside0.mk (KeepBut.blk hk (g' := gb203) (o := .cells #[.int .i64 0, .int .i64 0, .slice none 0 0] 24 (0, 0)) (by (with_reducible repeat (first | refine blk_drewN ?_ _ | refine blk_drew ?_ | refine blk_alloc ?_ _)); exact BK203.out) NB203_0.out (by simp)); have n1_ := Aside0.mk (KeepBut.trans (by repeat (first | (with_reducible first | exact HK.out | apply KeepBut.set_ | apply keep_drewN | apply keep_drew | apply keep_alloc | refine keep_far ?_ GW203.out _) | exact HK.out)) hk (.inl rfl)); have n2_ := Aside0.mk (hb); have n3_ := Aside0.mk (hi); clear BK203; clear HK; clear HB; clear HI0; have BK203 := n0_; have HK := n1_; have HB := n2_; have HI0 := n3_; clear n0_ n1_ n2_ n3_; (try clear hb); (try clear hb2); (try clear hge); (try clear hk); (try clear hi)) | ((with_reducible refine gate_dst (N := 12) rfl ?_); refine Kd.R_lit (Kd.int .u8) _ 5 ?hg (N := 12) ?hd (xs := ([(t206) % 256, (t208) % 256] : List Int)) (inner := [.int .u8 ((t206) % 256), .int .u8 ((t208) % 256)]) (ok := fun _ => True) (okp := fun _ => True) ?hr ?hp (fun _ hk => hk) trivial (Below.refl _ _) (Nat.le_refl _) (by simp) ?_; (case hd => rfl); (case hg => rfl); (case hr => first | (go_simp; done) | (go_simp; rfl)); (case hp => exact (Reps.one (show Kd.M (Kd.int .u8) _ _ _ ((t206) % 256) [.int .u8 ((t206) % 256)] from rfl) (Reps.one (show Kd.M (Kd.int .u8) _ _ _ ((t208) % 256) [.int .u8 ((t208) % 256)] from rfl) (Reps.none _ _)))); intro v211 w11 ho12 hb hg_ hnew_; clear hg_ hnew_; (first | rw [← Ny210.out] at ho12 | (simp only [Int.reduceToNat] at ho12; rw [← Ny210.out] at ho12)); have n0_ := Aside0.mk (Kd.R_lower ho12 (keep_size (w := w) (g := g) (row := none) (by repeat (first | (with_reducible first | exact HK.out | apply KeepBut.set_ | apply keep_drewN | apply keep_drew | apply keep_alloc | refine keep_far ?_ GW203.out _) | exact HK.out)))); have n1_ := Aside0.mk (IsS48.below (by repeat (first | (with_reducible first | exact HI0.out | apply IsS48.alloc | apply IsS48.drewN | apply IsS48.drew | apply IsS48.set_1 | refine IsS48.far ?_ NB0_203.out _) | exact HI0.out)) hb); have n2_ := Aside0.mk (blk_below (g := gb203) (o := .cells #[.int .i64 0, .int .i64 0, .slice none 0 0] 24 (0, 0)) (by (with_reducible repeat (first | refine blk_drewN ?_ _ | refine blk_drew ?_ | refine blk_alloc ?_ _)); exact BK203.out) hb); have n3_ := Aside0.mk (KeepBut.trans (by repeat (first | (with_reducible first | exact HK.out | apply KeepBut.set_ | apply keep_drewN | apply keep_drew | apply keep_alloc | refine keep_far ?_ GW203.out _) | exact HK.out)) (KeepBut.of_below hb g none) (.inl rfl)); have n4_ := Aside0.mk (below_step (by repeat (first | (with_reducible first | exact HB.out | apply below_alloc | apply pw_below_drewN | apply below_drew1 | refine below_set ?_ (IsS48.ge HI0.out) | refine below_set ?_ GE203.out) | exact HB.out)) hb); clear HI0; clear BK203; clear HK; clear HB; have HO212 := n0_; have HI0 := n1_; have BK203 := n2_; have HK := n3_; have HB := n4_; clear n0_ n1_ n2_ n3_ n4_; clear hb ho12; obtain ⟨Ao13, co13, eo13⟩ := Kd.R_slice HO212.out; subst eo13) | ((with_reducible refine gate_dst (N := 3) rfl ?_); refine box_event ?hg (N := 3) ?hd (cs := #[.int .i64 0, .int .i64 0, .slice none 0 0]) (t := 24) ?hr ?_; (case hd => rfl); (case hg => rfl); (case hr => first | (go_simp; done) | (go_simp; rfl)); intro gb213 hg w14 hbox hb; have n0_ := Aside0.mk (Kd.R_below (by (with_reducible repeat (first | apply Kd.R_alloc | apply Kd.R_drewN | apply Kd.R_drew)); exact HO212.out) hb); have n1_ := Aside0.mk (IsS48.below (by repeat (first | (with_reducible first | exact HI0.out | apply IsS48.alloc | apply IsS48.drewN | apply IsS48.drew | apply IsS48.set_1 | refine IsS48.far ?_ NB0_203.out _) | exact HI0.out)) hb); have n2_ := Aside0.mk (blk_below (g := gb203) (o := .cells #[.int .i64 0, .int .i64 0, .slice none 0 0] 24 (0, 0)) (by (with_reducible repeat (first | refine blk_drewN ?_ _ | refine blk_drew ?_ | refine blk_alloc ?_ _)); exact BK203.out) hb); have n3_ := Aside0.mk (KeepBut.trans (by repeat (first | (with_reducible first | exact HK.out | apply KeepBut.set_ | apply keep_drewN | apply keep_drew | apply keep_alloc | refine keep_far ?_ GW203.out _) | exact HK.out)) (KeepBut.of_below hb g none) (.inl rfl)); have n4_ := Aside0.mk (below_step (by repeat (first | (with_reducible first | exact HB.out | apply below_alloc | apply pw_below_drewN | apply below_drew1 | refine below_set ?_ (IsS48.ge HI0.out) | refine below_set ?_ GE203.out) | exact HB.out)) hb); have n5_ := Aside0.mk (hbox); have n6_ := Aside0.mk ((by rw [hg]; exact (keep_size (w := w) (g := g) (row := none) (by repeat (first | (with_reducible first | exact HK.out | apply KeepBut.set_ | apply keep_drewN | apply keep_drew | apply keep_alloc | refine keep_far ?_ GW203.out _) | exact HK.out))) : w.heap.size ≤ gb213)); have n7_ := Aside0.mk ((Nat.le_trans HW0.out (by rw [hg]; exact (keep_size (w := w) (g := g) (row := none) (by repeat (first | (with_reducible first | exact HK.out | apply KeepBut.set_ | apply keep_drewN | apply keep_drew | apply keep_alloc | refine keep_far ?_ GW203.out _) | exact HK.out))) : w.heap.size ≤ gb213) : w0.heap.size ≤ gb213)); have n8_ := Aside0.mk ((by rw [hg]; exact Nat.ne_of_lt (blk_lt (g := gb203) (o := .cells #[.int .i64 0, .int .i64 0, .slice none 0 0] 24 (0, 0)) (by (with_reducible repeat (first | refine blk_drewN ?_ _ | refine blk_drew ?_ | refine blk_alloc ?_ _)); exact BK203.out)) : gb203 ≠ gb213)); have n9_ := Aside0.mk ((by rw [hg]; exact Nat.ne_of_gt (blk_lt (g := gb203) (o := .cells #[.int .i64 0, .int .i64 0, .slice none 0 0] 24 (0, 0)) (by (with_reducible repeat (first | refine blk_drewN ?_ _ | refine blk_drew ?_ | refine blk_alloc ?_ _)); exact BK203.out)) : gb213 ≠ gb203)); have n10_ := Aside0.mk ((by rw [hg]; exact Nat.ne_of_lt (IsS48.lt (show IsS48 w0 _ g s0_0 t209 from by repeat (first | (with_reducible first | exact HI0.out | apply IsS48.alloc | apply IsS48.drewN | apply IsS48.drew | apply IsS48.set_1 | refine IsS48.far ?_ NB0_203.out _) | exact HI0.out))) : g ≠ gb213)); have n11_ := Aside0.mk ((by rw [hg]; exact Nat.ne_of_gt (IsS48.lt (show IsS48 w0 _ g s0_0 t209 from by repeat (first | (with_reducible first | exact HI0.out | apply IsS48.alloc | apply IsS48.drewN | apply IsS48.drew | apply IsS48.set_1 | refine IsS48.far ?_ NB0_203.out _) | exact HI0.out))) : gb213 ≠ g)); clear HO212; clear HI0; clear BK203; clear HK; clear HB; have HO212 := n0_; have HI0 := n1_; have BK203 := n2_; have HK := n3_; have HB := n4_; have BK213 := n5_; have GW213 := n6_; have GE213 := n7_; have NB203_213 := n8_; have NB213_203 := n9_; have NB0_213 := n10_; have NB213_0 := n11_; clear n0_ n1_ n2_ n3_ n4_ n5_ n6_ n7_ n8_ n9_ n10_ n11_; clear hb hbox hg; have hnb15 := NB213_203.out; have hnc15 := NB203_213.out; have hnb16 := NB213_0.out; have hnc16 := NB0_213.out; have hcz17_0 : w14.cell? ⟨gb213, 0, none⟩ = some (.int .i64 0) := (blk_cell BK213.out 0).trans rfl; have hcz17_1 : w14.cell? ⟨gb213, 1, none⟩ = some (.int .i64 0) := (blk_cell BK213.out 1).trans rfl; have hcz17_2 : w14.cell? ⟨gb213, 2, none⟩ = some (.slice none 0 0) := (blk_cell BK213.out 2).trans rfl; have hfz17_0 := blk_frozen BK213.out 0; have hfz17_1 := blk_frozen BK213.out 1; have hfz17_2 := blk_frozen BK213.out 2) | ((with_reducible refine gate_callee (f := 21) rfl ?_); refine goesL_ (some 15) rfl rfl Try.func21 (by kernel_rfl) rfl #[.pointer (some ⟨g, 0, none⟩), .int .i64 8] rfl (by (try simp only [List.map_toArray, List.map_cons, List.map_nil]); first | done | rfl | (simp only [List.length_drop, List.length_take]; rfl)) ?_; (with_reducible refine (minecontroldraw_Codes_Next.calls k g s0_0 t209 8 t214 t215 w0 _ ?side1 ?side2 A5.out).mono ?_); (case side1 => repeat (first | (with_reducible first | exact HI0.out | apply IsS48.alloc | apply IsS48.drewN | apply IsS48.drew | apply IsS48.set_1 | refine IsS48.far ?_ NB0_203.out _ | refine IsS48.far ?_ NB0_213.out _) | exact HI0.out)); (case side2 => repeat (first | (with_reducible first | exact HB.out | apply below_alloc | apply pw_below_drewN | apply below_drew1 | refine below_set ?_ (IsS48.ge HI0.out) | refine below_set ?_ GE203.out | refine below_set ?_ GE213.out) | exact HB.out)); rintro e w18 ⟨rfl, hi, hb, hk⟩; refine ⟨_, rfl, ?_⟩; have n0_ := Aside0.mk (KeepBut.blk hk (g' := gb203) (o := .cells #[.int .i64 0, .int .i64 0, .slice none 0 0] 24 (0, 0)) (by (with_reducible repeat (first | refine blk_drewN ?_ _ | refine blk_drew ?_ | refine blk_alloc ?_ _)); refine blk_far ?_ NB203_213.out _; (with_reducible repeat (first | refine blk_drewN ?_ _ | refine blk_drew ?_ | refine blk_alloc ?_ _)); refine blk_far ?_ NB203_213.out _; (with_reducible repeat (first | refine blk_drewN ?_ _ | refine blk_drew ?_ | refine blk_alloc ?_ _)); refine blk_far ?_ NB203_213.out _; (with_reducible repeat (first | refine blk_drewN ?_ _ | refine blk_drew ?_ | refine blk_alloc ?_ _)); exact BK203.out) NB203_0.out (by simp)); have n1_ := Aside0.mk (Kd.R_mono (Kd.R_keep (IsS48.apart (show IsS48 w0 _ g s0_0 t209 from by repeat (first | (with_reducible first | exact HI0.out | apply IsS48.alloc | apply IsS48.drewN | apply IsS48.drew | apply IsS48.set_1 | refine IsS48.far ?_ NB0_203.out _ | refine IsS48.far ?_ NB0_213.out _) | exact HI0.out)) (by (with_reducible repeat (first | apply Kd.R_alloc | apply Kd.R_drewN | apply Kd.R_drew)); exact (Kd.R_mono (Kd.R_far (p := ⟨gb213, 2, none⟩) (Kd.R_far (p := ⟨gb213, 1, none⟩) (Kd.R_far (p := ⟨gb213, 0, none⟩) (Kd.R_types HO212.out BK213.out (by decide)) (fun _ hk => hk.2) (.int .i64 t204)) (fun _ hk => hk.2) (.int .i64 1)) (fun _ hk => hk.2) (.slice Ao13 y210.length co13)) (fun _ h_ => h_.1))) (by decide)) hk (fun _ h => h.2)) (fun _ h => h.1)); have n2_ := Aside0.mk (KeepBut.blk hk (g' := gb213) (o := .cells #[.int .i64 t204, .int .i64 1, .slice Ao13 y210.length co13] 24 (0, 0)) (by (with_reducible repeat (first | refine blk_drewN ?_ _ | refine blk_drew ?_ | refine blk_alloc ?_ _)); refine blk_put (cs := #[.int .i64 t204, .int .i64 1, .slice none 0 0]) ?_ 2 _ rfl; (with_reducible repeat (first | refine blk_drewN ?_ _ | refine blk_drew ?_ | refine blk_alloc ?_ _)); refine blk_put (cs := #[.int .i64 t204, .int .i64 0, .slice none 0 0]) ?_ 1 _ rfl; (with_reducible repeat (first | refine blk_drewN ?_ _ | refine blk_drew ?_ | refine blk_alloc ?_ _)); refine blk_put (cs := #[.int .i64 0, .int .i64 0, .slice none 0 0]) ?_ 0 _ rfl; (with_reducible repeat (first | refine blk_drewN ?_ _ | refine blk_drew ?_ | refine blk_alloc ?_ _)); exact BK213.out) NB213_0.out (by simp)); have n3_ := Aside0.mk (KeepBut.trans (by repeat (first | (with_reducible first | exact HK.out | apply KeepBut.set_ | apply keep_drewN | apply keep_drew | apply keep_alloc | refine keep_far ?_ GW203.out _ | refine keep_far ?_ GW213.out _) | exact HK.out)) hk (.inl rfl)); have n4_ := Aside0.mk (hb); have n5_ := Aside0.mk (hi); clear BK203; clear HO212; clear BK213; clear HK; clear HB; clear HI0; have BK203 := n0_; have HO212 := n1_; have BK213 := n2_; have HK := n3_; have HB := n4_; have HI0 := n5_; clear n0_ n1_ n2_ n3_ n4_ n5_; (try clear hb); (try clear hb2); (try clear hge); (try clear hk); (try clear hi); have hcz19_0 : w18.cell? ⟨gb213, 0, none⟩ = some (.int .i64 t204) := (blk_cell BK213.out 0).trans rfl; have hcz19_1 : w18.cell? ⟨gb213, 1, none⟩ = some (.int .i64 1) := (blk_cell BK213.out 1).trans rfl; have hcz19_2 : w18.cell? ⟨gb213, 2, none⟩ = some (.slice Ao13 y210.length co13) := (blk_cell BK213.out 2).trans rfl; have hfz19_0 := blk_frozen BK213.out 0; have hfz19_1 := blk_frozen BK213.out 1; have hfz19_2 := blk_frozen BK213.out 2; have hnb20 := NB203_0.out; have hnc20 := NB0_203.out; have hcz21_0 : w18.cell? ⟨gb203, 0, none⟩ = some (.int .i64 0) := (blk_cell BK203.out 0).trans rfl; have hcz21_1 : w18.cell? ⟨gb203, 1, none⟩ = some (.int .i64 0) := (blk_cell BK203.out 1).trans rfl; have hcz21_2 : w18.cell? ⟨gb203, 2, none⟩ = some (.slice none 0 0) := (blk_cell BK203.out 2).trans rfl; have hfz21_0 := blk_frozen BK203.out 0; have hfz21_1 := blk_frozen BK203.out 1; have hfz21_2 := blk_frozen BK203.out 2))
  refine bodyPost_ret (results_cell_row rfl _ _ gb203 24 #[.int .i64 t204, .int .i64 2, .slice none 0 0] (0, 0) _ rfl (by (with_reducible repeat (first | refine blk_drewN ?_ _ | refine blk_drew ?_ | refine blk_alloc ?_ _)); refine blk_put (cs := #[.int .i64 t204, .int .i64 2, .slice none 0 0]) ?_ 2 _ rfl; (with_reducible repeat (first | refine blk_drewN ?_ _ | refine blk_drew ?_ | refine blk_alloc ?_ _)); refine blk_put (cs := #[.int .i64 t204, .int .i64 0, .slice none 0 0]) ?_ 1 _ rfl; (with_reducible repeat (first | refine blk_drewN ?_ _ | refine blk_drew ?_ | refine blk_alloc ?_ _)); refine blk_put (cs := #[.int .i64 0, .int .i64 0, .slice none 0 0]) ?_ 0 _ rfl; (with_reducible repeat (first | refine blk_drewN ?_ _ | refine blk_drew ?_ | refine blk_alloc ?_ _)); refine blk_far ?_ NB203_213.out _; (with_reducible repeat (first | refine blk_drewN ?_ _ | refine blk_drew ?_ | refine blk_alloc ?_ _)); refine blk_far ?_ NB203_213.out _; (with_reducible repeat (first | refine blk_drewN ?_ _ | refine blk_drew ?_ | refine blk_alloc ?_ _)); exact BK203.out) Try.underlying24 rfl (by kernel_rfl)) rfl ?_
  exact ⟨_, by first | rfl | (simp [errW_none, errW_some] <;> rfl) | (simp [*, errW_none, errW_some] <;> rfl), by first | exact Kd.R_nil _ _ _ _ _ | exact Kd.N_nil _ _ _ _ _ | exact Kd.V_nil _ _ _ _ _ | exact Kd.Q_nil _ _ _ _ _ | exact Kd.S_nil _ _ _ _ _, by repeat (first | (with_reducible first | exact HI0.out | apply IsS48.alloc | apply IsS48.drewN | apply IsS48.drew | apply IsS48.set_1 | refine IsS48.far ?_ NB0_203.out _ | refine IsS48.far ?_ NB0_213.out _) | exact HI0.out), by repeat (first | (with_reducible first | exact HB.out | apply below_alloc | apply pw_below_drewN | apply below_drew1 | refine below_set ?_ (IsS48.ge HI0.out) | refine below_set ?_ GE203.out | refine below_set ?_ GE213.out) | exact HB.out), by repeat (first | (with_reducible first | exact HK.out | apply KeepBut.set_ | apply keep_drewN | apply keep_drew | apply keep_alloc | refine keep_far ?_ GW203.out _ | refine keep_far ?_ GW213.out _) | exact HK.out)⟩
 ·
  rw [if_neg c6] at H
  have c6b0 : (t214 == 5) = false := beq_eq_false_iff_ne.mpr c6
  have c6b1 : (t214 != 5) = true := bne_iff_ne.mpr c6
  by_cases c22 : t214 = 6
  ·
   rw [if_pos c22] at H
   have c22b0 : (t214 == 6) = true := beq_iff_eq.mpr c22
   have c22b1 : (t214 != 6) = false := bne_eq_false_iff_eq.mpr c22
   clear c22
   replace H := Option.bind_eq_some_iff.mp H
   obtain ⟨⟨t216, t217⟩, A230, H⟩ := H
   replace H : (some (t204, t216, y210, t217)) = some (r1, r2, r3, r4) := H
   have A23 := Aside0.mk A230
   clear A230
   simp only [Option.some.injEq, Prod.mk.injEq] at H
   obtain ⟨rfl, rfl, rfl, rfl⟩ := H
   go_enter Try.func11, Try.ntmps11
   go_wp2_with (first | ((with_reducible refine gate_dst (N := 2) rfl ?_); refine box_event ?hg (N := 2) ?hd (cs := #[.int .i64 0, .int .i64 0, .slice none 0 0]) (t := 24) ?hr ?_; (case hd => rfl); (case hg => rfl); (case hr => first | (go_simp; done) | (go_simp; rfl)); intro gb203 hg w24 hbox hb; have n0_ := Aside0.mk (IsS48.below (by repeat (first | (with_reducible first | exact HI0.out | apply IsS48.alloc | apply IsS48.drewN | apply IsS48.drew | apply IsS48.set_1) | exact HI0.out)) hb); have n1_ := Aside0.mk (KeepBut.trans (by repeat (first | (with_reducible first | exact HK.out | apply KeepBut.set_ | apply keep_drewN | apply keep_drew | apply keep_alloc) | exact HK.out)) (KeepBut.of_below hb g none) (.inl rfl)); have n2_ := Aside0.mk (below_step (by repeat (first | (with_reducible first | exact HB.out | apply below_alloc | apply pw_below_drewN | apply below_drew1 | refine below_set ?_ (IsS48.ge HI0.out)) | exact HB.out)) hb); have n3_ := Aside0.mk (hbox); have n4_ := Aside0.mk ((by rw [hg]; exact (keep_size (w := w) (g := g) (row := none) (by repeat (first | (with_reducible first | exact HK.out | apply KeepBut.set_ | apply keep_drewN | apply keep_drew | apply keep_alloc) | exact HK.out))) : w.heap.size ≤ gb203)); have n5_ := Aside0.mk ((Nat.le_trans HW0.out (by rw [hg]; exact (keep_size (w := w) (g := g) (row := none) (by repeat (first | (with_reducible first | exact HK.out | apply KeepBut.set_ | apply keep_drewN | apply keep_drew | apply keep_alloc) | exact HK.out))) : w.heap.size ≤ gb203) : w0.heap.size ≤ gb203)); have n6_ := Aside0.mk ((by rw [hg]; exact Nat.ne_of_lt (IsS48.lt (show IsS48 w0 _ g s0_0 s0_1 from by repeat (first | (with_reducible first | exact HI0.out | apply IsS48.alloc | apply IsS48.drewN | apply IsS48.drew | apply IsS48.set_1) | exact HI0.out))) : g ≠ gb203)); have n7_ := Aside0.mk ((by rw [hg]; exact Nat.ne_of_gt (IsS48.lt (show IsS48 w0 _ g s0_0 s0_1 from by repeat (first | (with_reducible first | exact HI0.out | apply IsS48.alloc | apply IsS48.drewN | apply IsS48.drew | apply IsS48.set_1) | exact HI0.out))) : gb203 ≠ g)); clear HI0; clear HK; clear HB; have HI0 := n0_; have HK := n1_; have HB := n2_; have BK203 := n3_; have GW203 := n4_; have GE203 := n5_; have NB0_203 := n6_; have NB203_0 := n7_; clear n0_ n1_ n2_ n3_ n4_ n5_ n6_ n7_; clear hb hbox hg) | ((with_reducible refine gate_callee (f := 21) rfl ?_); refine goesL_ (some 5) rfl rfl Try.func21 (by kernel_rfl) rfl #[.pointer (some ⟨g, 0, none⟩), .int .i64 6] rfl (by (try simp only [List.map_toArray, List.map_cons, List.map_nil]); first | done | rfl | (simp only [List.length_drop, List.length_take]; rfl)) ?_; (with_reducible refine (minecontroldraw_Codes_Next.calls k g s0_0 s0_1 6 t204 t205 w0 _ ?side1 ?side2 A2.out).mono ?_); (case side1 => repeat (first | (with_reducible first | exact HI0.out | apply IsS48.alloc | apply IsS48.drewN | apply IsS48.drew | apply IsS48.set_1 | refine IsS48.far ?_ NB0_203.out _) | exact HI0.out)); (case side2 => repeat (first | (with_reducible first | exact HB.out | apply below_alloc | apply pw_below_drewN | apply below_drew1 | refine below_set ?_ (IsS48.ge HI0.out) | refine below_set ?_ GE203.out) | exact HB.out)); rintro e w25 ⟨rfl, hi, hb, hk⟩; refine ⟨_, rfl, ?_⟩; have n0_ := Aside0.mk (KeepBut.blk hk (g' := gb203) (o := .cells #[.int .i64 0, .int .i64 0, .slice none 0 0] 24 (0, 0)) (by (with_reducible repeat (first | refine blk_drewN ?_ _ | refine blk_drew ?_ | refine blk_alloc ?_ _)); exact BK203.out) NB203_0.out (by simp)); have n1_ := Aside0.mk (KeepBut.trans (by repeat (first | (with_reducible first | exact HK.out | apply KeepBut.set_ | apply keep_drewN | apply keep_drew | apply keep_alloc | refine keep_far ?_ GW203.out _) | exact HK.out)) hk (.inl rfl)); have n2_ := Aside0.mk (hb); have n3_ := Aside0.mk (hi); clear BK203; clear HK; clear HB; clear HI0; have BK203 := n0_; have HK := n1_; have HB := n2_; have HI0 := n3_; clear n0_ n1_ n2_ n3_; (try clear hb); (try clear hb2); (try clear hge); (try clear hk); (try clear hi)) | ((with_reducible refine gate_callee (f := 21) rfl ?_); refine goesL_ (some 7) rfl rfl Try.func21 (by kernel_rfl) rfl #[.pointer (some ⟨g, 0, none⟩), .int .i64 2] rfl (by (try simp only [List.map_toArray, List.map_cons, List.map_nil]); first | done | rfl | (simp only [List.length_drop, List.length_take]; rfl)) ?_; (with_reducible refine (minecontroldraw_Codes_Next.calls k g s0_0 t205 2 t206 t207 w0 _ ?side1 ?side2 A3.out).mono ?_); (case side1 => repeat (first | (with_reducible first | exact HI0.out | apply IsS48.alloc | apply IsS48.drewN | apply IsS48.drew | apply IsS48.set_1 | refine IsS48.far ?_ NB0_203.out _) | exact HI0.out)); (case side2 => repeat (first | (with_reducible first | exact HB.out | apply below_alloc | apply pw_below_drewN | apply below_drew1 | refine below_set ?_ (IsS48.ge HI0.out) | refine below_set ?_ GE203.out) | exact HB.out)); rintro e w26 ⟨rfl, hi, hb, hk⟩; refine ⟨_, rfl, ?_⟩; have n0_ := Aside0.mk (KeepBut.blk hk (g' := gb203) (o := .cells #[.int .i64 0, .int .i64 0, .slice none 0 0] 24 (0, 0)) (by (with_reducible repeat (first | refine blk_drewN ?_ _ | refine blk_drew ?_ | refine blk_alloc ?_ _)); exact BK203.out) NB203_0.out (by simp)); have n1_ := Aside0.mk (KeepBut.trans (by repeat (first | (with_reducible first | exact HK.out | apply KeepBut.set_ | apply keep_drewN | apply keep_drew | apply keep_alloc | refine keep_far ?_ GW203.out _) | exact HK.out)) hk (.inl rfl)); have n2_ := Aside0.mk (hb); have n3_ := Aside0.mk (hi); clear BK203; clear HK; clear HB; clear HI0; have BK203 := n0_; have HK := n1_; have HB := n2_; have HI0 := n3_; clear n0_ n1_ n2_ n3_; (try clear hb); (try clear hb2); (try clear hge); (try clear hk); (try clear hi)) | ((with_reducible refine gate_callee (f := 21) rfl ?_); refine goesL_ (some 10) rfl rfl Try.func21 (by kernel_rfl) rfl #[.pointer (some ⟨g, 0, none⟩), .int .i64 256] rfl (by (try simp only [List.map_toArray, List.map_cons, List.map_nil]); first | done | rfl | (simp only [List.length_drop, List.length_take]; rfl)) ?_; (with_reducible refine (minecontroldraw_Codes_Next.calls k g s0_0 t207 256 t208 t209 w0 _ ?side1 ?side2 A4.out).mono ?_); (case side1 => repeat (first | (with_reducible first | exact HI0.out | apply IsS48.alloc | apply IsS48.drewN | apply IsS48.drew | apply IsS48.set_1 | refine IsS48.far ?_ NB0_203.out _) | exact HI0.out)); (case side2 => repeat (first | (with_reducible first | exact HB.out | apply below_alloc | apply pw_below_drewN | apply below_drew1 | refine below_set ?_ (IsS48.ge HI0.out) | refine below_set ?_ GE203.out) | exact HB.out)); rintro e w27 ⟨rfl, hi, hb, hk⟩; refine ⟨_, rfl, ?_⟩; have n0_ := Aside0.mk (KeepBut.blk hk (g' := gb203) (o := .cells #[.int .i64 0, .int .i64 0, .slice none 0 0] 24 (0, 0)) (by (with_reducible repeat (first | refine blk_drewN ?_ _ | refine blk_drew ?_ | refine blk_alloc ?_ _)); exact BK203.out) NB203_0.out (by simp)); have n1_ := Aside0.mk (KeepBut.trans (by repeat (first | (with_reducible first | exact HK.out | apply KeepBut.set_ | apply keep_drewN | apply keep_drew | apply keep_alloc | refine keep_far ?_ GW203.out _) | exact HK.out)) hk (.inl rfl)); have n2_ := Aside0.mk (hb); have n3_ := Aside0.mk (hi); clear BK203; clear HK; clear HB; clear HI0; have BK203 := n0_; have HK := n1_; have HB := n2_; have HI0 := n3_; clear n0_ n1_ n2_ n3_; (try clear hb); (try clear hb2); (try clear hge); (try clear hk); (try clear hi)) | ((with_reducible refine gate_dst (N := 12) rfl ?_); refine Kd.R_lit (Kd.int .u8) _ 5 ?hg (N := 12) ?hd (xs := ([(t206) % 256, (t208) % 256] : List Int)) (inner := [.int .u8 ((t206) % 256), .int .u8 ((t208) % 256)]) (ok := fun _ => True) (okp := fun _ => True) ?hr ?hp (fun _ hk => hk) trivial (Below.refl _ _) (Nat.le_refl _) (by simp) ?_; (case hd => rfl); (case hg => rfl); (case hr => first | (go_simp; done) | (go_simp; rfl)); (case hp => exact (Reps.one (show Kd.M (Kd.int .u8) _ _ _ ((t206) % 256) [.int .u8 ((t206) % 256)] from rfl) (Reps.one (show Kd.M (Kd.int .u8) _ _ _ ((t208) % 256) [.int .u8 ((t208) % 256)] from rfl) (Reps.none _ _)))); intro v211 w28 ho29 hb hg_ hnew_; clear hg_ hnew_; (first | rw [← Ny210.out] at ho29 | (simp only [Int.reduceToNat] at ho29; rw [← Ny210.out] at ho29)); have n0_ := Aside0.mk (Kd.R_lower ho29 (keep_size (w := w) (g := g) (row := none) (by repeat (first | (with_reducible first | exact HK.out | apply KeepBut.set_ | apply keep_drewN | apply keep_drew | apply keep_alloc | refine keep_far ?_ GW203.out _) | exact HK.out)))); have n1_ := Aside0.mk (IsS48.below (by repeat (first | (with_reducible first | exact HI0.out | apply IsS48.alloc | apply IsS48.drewN | apply IsS48.drew | apply IsS48.set_1 | refine IsS48.far ?_ NB0_203.out _) | exact HI0.out)) hb); have n2_ := Aside0.mk (blk_below (g := gb203) (o := .cells #[.int .i64 0, .int .i64 0, .slice none 0 0] 24 (0, 0)) (by (with_reducible repeat (first | refine blk_drewN ?_ _ | refine blk_drew ?_ | refine blk_alloc ?_ _)); exact BK203.out) hb); have n3_ := Aside0.mk (KeepBut.trans (by repeat (first | (with_reducible first | exact HK.out | apply KeepBut.set_ | apply keep_drewN | apply keep_drew | apply keep_alloc | refine keep_far ?_ GW203.out _) | exact HK.out)) (KeepBut.of_below hb g none) (.inl rfl)); have n4_ := Aside0.mk (below_step (by repeat (first | (with_reducible first | exact HB.out | apply below_alloc | apply pw_below_drewN | apply below_drew1 | refine below_set ?_ (IsS48.ge HI0.out) | refine below_set ?_ GE203.out) | exact HB.out)) hb); clear HI0; clear BK203; clear HK; clear HB; have HO212 := n0_; have HI0 := n1_; have BK203 := n2_; have HK := n3_; have HB := n4_; clear n0_ n1_ n2_ n3_ n4_; clear hb ho29; obtain ⟨Ao30, co30, eo30⟩ := Kd.R_slice HO212.out; subst eo30) | ((with_reducible refine gate_dst (N := 3) rfl ?_); refine box_event ?hg (N := 3) ?hd (cs := #[.int .i64 0, .int .i64 0, .slice none 0 0]) (t := 24) ?hr ?_; (case hd => rfl); (case hg => rfl); (case hr => first | (go_simp; done) | (go_simp; rfl)); intro gb213 hg w31 hbox hb; have n0_ := Aside0.mk (Kd.R_below (by (with_reducible repeat (first | apply Kd.R_alloc | apply Kd.R_drewN | apply Kd.R_drew)); exact HO212.out) hb); have n1_ := Aside0.mk (IsS48.below (by repeat (first | (with_reducible first | exact HI0.out | apply IsS48.alloc | apply IsS48.drewN | apply IsS48.drew | apply IsS48.set_1 | refine IsS48.far ?_ NB0_203.out _) | exact HI0.out)) hb); have n2_ := Aside0.mk (blk_below (g := gb203) (o := .cells #[.int .i64 0, .int .i64 0, .slice none 0 0] 24 (0, 0)) (by (with_reducible repeat (first | refine blk_drewN ?_ _ | refine blk_drew ?_ | refine blk_alloc ?_ _)); exact BK203.out) hb); have n3_ := Aside0.mk (KeepBut.trans (by repeat (first | (with_reducible first | exact HK.out | apply KeepBut.set_ | apply keep_drewN | apply keep_drew | apply keep_alloc | refine keep_far ?_ GW203.out _) | exact HK.out)) (KeepBut.of_below hb g none) (.inl rfl)); have n4_ := Aside0.mk (below_step (by repeat (first | (with_reducible first | exact HB.out | apply below_alloc | apply pw_below_drewN | apply below_drew1 | refine below_set ?_ (IsS48.ge HI0.out) | refine below_set ?_ GE203.out) | exact HB.out)) hb); have n5_ := Aside0.mk (hbox); have n6_ := Aside0.mk ((by rw [hg]; exact (keep_size (w := w) (g := g) (row := none) (by repeat (first | (with_reducible first | exact HK.out | apply KeepBut.set_ | apply keep_drewN | apply keep_drew | apply keep_alloc | refine keep_far ?_ GW203.out _) | exact HK.out))) : w.heap.size ≤ gb213)); have n7_ := Aside0.mk ((Nat.le_trans HW0.out (by rw [hg]; exact (keep_size (w := w) (g := g) (row := none) (by repeat (first | (with_reducible first | exact HK.out | apply KeepBut.set_ | apply keep_drewN | apply keep_drew | apply keep_alloc | refine keep_far ?_ GW203.out _) | exact HK.out))) : w.heap.size ≤ gb213) : w0.heap.size ≤ gb213)); have n8_ := Aside0.mk ((by rw [hg]; exact Nat.ne_of_lt (blk_lt (g := gb203) (o := .cells #[.int .i64 0, .int .i64 0, .slice none 0 0] 24 (0, 0)) (by (with_reducible repeat (first | refine blk_drewN ?_ _ | refine blk_drew ?_ | refine blk_alloc ?_ _)); exact BK203.out)) : gb203 ≠ gb213)); have n9_ := Aside0.mk ((by rw [hg]; exact Nat.ne_of_gt (blk_lt (g := gb203) (o := .cells #[.int .i64 0, .int .i64 0, .slice none 0 0] 24 (0, 0)) (by (with_reducible repeat (first | refine blk_drewN ?_ _ | refine blk_drew ?_ | refine blk_alloc ?_ _)); exact BK203.out)) : gb213 ≠ gb203)); have n10_ := Aside0.mk ((by rw [hg]; exact Nat.ne_of_lt (IsS48.lt (show IsS48 w0 _ g s0_0 t209 from by repeat (first | (with_reducible first | exact HI0.out | apply IsS48.alloc | apply IsS48.drewN | apply IsS48.drew | apply IsS48.set_1 | refine IsS48.far ?_ NB0_203.out _) | exact HI0.out))) : g ≠ gb213)); have n11_ := Aside0.mk ((by rw [hg]; exact Nat.ne_of_gt (IsS48.lt (show IsS48 w0 _ g s0_0 t209 from by repeat (first | (with_reducible first | exact HI0.out | apply IsS48.alloc | apply IsS48.drewN | apply IsS48.drew | apply IsS48.set_1 | refine IsS48.far ?_ NB0_203.out _) | exact HI0.out))) : gb213 ≠ g)); clear HO212; clear HI0; clear BK203; clear HK; clear HB; have HO212 := n0_; have HI0 := n1_; have BK203 := n2_; have HK := n3_; have HB := n4_; have BK213 := n5_; have GW213 := n6_; have GE213 := n7_; have NB203_213 := n8_; have NB213_203 := n9_; have NB0_213 := n10_; have NB213_0 := n11_; clear n0_ n1_ n2_ n3_ n4_ n5_ n6_ n7_ n8_ n9_ n10_ n11_; clear hb hbox hg; have hnb32 := NB213_203.out; have hnc32 := NB203_213.out; have hnb33 := NB213_0.out; have hnc33 := NB0_213.out; have hcz34_0 : w31.cell? ⟨gb213, 0, none⟩ = some (.int .i64 0) := (blk_cell BK213.out 0).trans rfl; have hcz34_1 : w31.cell? ⟨gb213, 1, none⟩ = some (.int .i64 0) := (blk_cell BK213.out 1).trans rfl; have hcz34_2 : w31.cell? ⟨gb213, 2, none⟩ = some (.slice none 0 0) := (blk_cell BK213.out 2).trans rfl; have hfz34_0 := blk_frozen BK213.out 0; have hfz34_1 := blk_frozen BK213.out 1; have hfz34_2 := blk_frozen BK213.out 2) | ((with_reducible refine gate_callee (f := 21) rfl ?_); refine goesL_ (some 15) rfl rfl Try.func21 (by kernel_rfl) rfl #[.pointer (some ⟨g, 0, none⟩), .int .i64 8] rfl (by (try simp only [List.map_toArray, List.map_cons, List.map_nil]); first | done | rfl | (simp only [List.length_drop, List.length_take]; rfl)) ?_; (with_reducible refine (minecontroldraw_Codes_Next.calls k g s0_0 t209 8 t214 t215 w0 _ ?side1 ?side2 A5.out).mono ?_); (case side1 => repeat (first | (with_reducible first | exact HI0.out | apply IsS48.alloc | apply IsS48.drewN | apply IsS48.drew | apply IsS48.set_1 | refine IsS48.far ?_ NB0_203.out _ | refine IsS48.far ?_ NB0_213.out _) | exact HI0.out)); (case side2 => repeat (first | (with_reducible first | exact HB.out | apply below_alloc | apply pw_below_drewN | apply below_drew1 | refine below_set ?_ (IsS48.ge HI0.out) | refine below_set ?_ GE203.out | refine below_set ?_ GE213.out) | exact HB.out)); rintro e w35 ⟨rfl, hi, hb, hk⟩; refine ⟨_, rfl, ?_⟩; have n0_ := Aside0.mk (KeepBut.blk hk (g' := gb203) (o := .cells #[.int .i64 0, .int .i64 0, .slice none 0 0] 24 (0, 0)) (by (with_reducible repeat (first | refine blk_drewN ?_ _ | refine blk_drew ?_ | refine blk_alloc ?_ _)); refine blk_far ?_ NB203_213.out _; (with_reducible repeat (first | refine blk_drewN ?_ _ | refine blk_drew ?_ | refine blk_alloc ?_ _)); refine blk_far ?_ NB203_213.out _; (with_reducible repeat (first | refine blk_drewN ?_ _ | refine blk_drew ?_ | refine blk_alloc ?_ _)); refine blk_far ?_ NB203_213.out _; (with_reducible repeat (first | refine blk_drewN ?_ _ | refine blk_drew ?_ | refine blk_alloc ?_ _)); exact BK203.out) NB203_0.out (by simp)); have n1_ := Aside0.mk (Kd.R_mono (Kd.R_keep (IsS48.apart (show IsS48 w0 _ g s0_0 t209 from by repeat (first | (with_reducible first | exact HI0.out | apply IsS48.alloc | apply IsS48.drewN | apply IsS48.drew | apply IsS48.set_1 | refine IsS48.far ?_ NB0_203.out _ | refine IsS48.far ?_ NB0_213.out _) | exact HI0.out)) (by (with_reducible repeat (first | apply Kd.R_alloc | apply Kd.R_drewN | apply Kd.R_drew)); exact (Kd.R_mono (Kd.R_far (p := ⟨gb213, 2, none⟩) (Kd.R_far (p := ⟨gb213, 1, none⟩) (Kd.R_far (p := ⟨gb213, 0, none⟩) (Kd.R_types HO212.out BK213.out (by decide)) (fun _ hk => hk.2) (.int .i64 t204)) (fun _ hk => hk.2) (.int .i64 1)) (fun _ hk => hk.2) (.slice Ao30 y210.length co30)) (fun _ h_ => h_.1))) (by decide)) hk (fun _ h => h.2)) (fun _ h => h.1)); have n2_ := Aside0.mk (KeepBut.blk hk (g' := gb213) (o := .cells #[.int .i64 t204, .int .i64 1, .slice Ao30 y210.length co30] 24 (0, 0)) (by (with_reducible repeat (first | refine blk_drewN ?_ _ | refine blk_drew ?_ | refine blk_alloc ?_ _)); refine blk_put (cs := #[.int .i64 t204, .int .i64 1, .slice none 0 0]) ?_ 2 _ rfl; (with_reducible repeat (first | refine blk_drewN ?_ _ | refine blk_drew ?_ | refine blk_alloc ?_ _)); refine blk_put (cs := #[.int .i64 t204, .int .i64 0, .slice none 0 0]) ?_ 1 _ rfl; (with_reducible repeat (first | refine blk_drewN ?_ _ | refine blk_drew ?_ | refine blk_alloc ?_ _)); refine blk_put (cs := #[.int .i64 0, .int .i64 0, .slice none 0 0]) ?_ 0 _ rfl; (with_reducible repeat (first | refine blk_drewN ?_ _ | refine blk_drew ?_ | refine blk_alloc ?_ _)); exact BK213.out) NB213_0.out (by simp)); have n3_ := Aside0.mk (KeepBut.trans (by repeat (first | (with_reducible first | exact HK.out | apply KeepBut.set_ | apply keep_drewN | apply keep_drew | apply keep_alloc | refine keep_far ?_ GW203.out _ | refine keep_far ?_ GW213.out _) | exact HK.out)) hk (.inl rfl)); have n4_ := Aside0.mk (hb); have n5_ := Aside0.mk (hi); clear BK203; clear HO212; clear BK213; clear HK; clear HB; clear HI0; have BK203 := n0_; have HO212 := n1_; have BK213 := n2_; have HK := n3_; have HB := n4_; have HI0 := n5_; clear n0_ n1_ n2_ n3_ n4_ n5_; (try clear hb); (try clear hb2); (try clear hge); (try clear hk); (try clear hi)) | ((with_reducible refine gate_callee (f := 21) rfl ?_); refine goesL_ (some 23) rfl rfl Try.func21 (by kernel_rfl) rfl #[.pointer (some ⟨g, 0, none⟩), .int .i64 4] rfl (by (try simp only [List.map_toArray, List.map_cons, List.map_nil]); first | done | rfl | (simp only [List.length_drop, List.length_take]; rfl)) ?_; (with_reducible refine (minecontroldraw_Codes_Next.calls k g s0_0 t215 4 t216 t217 w0 _ ?side1 ?side2 A23.out).mono ?_); (case side1 => repeat (first | (with_reducible first | exact HI0.out | apply IsS48.alloc | apply IsS48.drewN | apply IsS48.drew | apply IsS48.set_1 | refine IsS48.far ?_ NB0_203.out _ | refine IsS48.far ?_ NB0_213.out _) | exact HI0.out)); (case side2 => repeat (first | (with_reducible first | exact HB.out | apply below_alloc | apply pw_below_drewN | apply below_drew1 | refine below_set ?_ (IsS48.ge HI0.out) | refine below_set ?_ GE203.out | refine below_set ?_ GE213.out) | exact HB.out)); rintro e w36 ⟨rfl, hi, hb, hk⟩; refine ⟨_, rfl, ?_⟩; have n0_ := Aside0.mk (KeepBut.blk hk (g' := gb203) (o := .cells #[.int .i64 0, .int .i64 0, .slice none 0 0] 24 (0, 0)) (by (with_reducible repeat (first | refine blk_drewN ?_ _ | refine blk_drew ?_ | refine blk_alloc ?_ _)); exact BK203.out) NB203_0.out (by simp)); have n1_ := Aside0.mk (Kd.R_mono (Kd.R_keep (IsS48.apart (show IsS48 w0 _ g s0_0 t215 from by repeat (first | (with_reducible first | exact HI0.out | apply IsS48.alloc | apply IsS48.drewN | apply IsS48.drew | apply IsS48.set_1 | refine IsS48.far ?_ NB0_203.out _ | refine IsS48.far ?_ NB0_213.out _) | exact HI0.out)) (by (with_reducible repeat (first | apply Kd.R_alloc | apply Kd.R_drewN | apply Kd.R_drew)); exact HO212.out) (by decide)) hk (fun _ h => h.2)) (fun _ h => h.1)); have n2_ := Aside0.mk (KeepBut.blk hk (g' := gb213) (o := .cells #[.int .i64 t204, .int .i64 1, .slice Ao30 y210.length co30] 24 (0, 0)) (by (with_reducible repeat (first | refine blk_drewN ?_ _ | refine blk_drew ?_ | refine blk_alloc ?_ _)); exact BK213.out) NB213_0.out (by simp)); have n3_ := Aside0.mk (KeepBut.trans (by repeat (first | (with_reducible first | exact HK.out | apply KeepBut.set_ | apply keep_drewN | apply keep_drew | apply keep_alloc | refine keep_far ?_ GW203.out _ | refine keep_far ?_ GW213.out _) | exact HK.out)) hk (.inl rfl)); have n4_ := Aside0.mk (hb); have n5_ := Aside0.mk (hi); clear BK203; clear HO212; clear BK213; clear HK; clear HB; clear HI0; have BK203 := n0_; have HO212 := n1_; have BK213 := n2_; have HK := n3_; have HB := n4_; have HI0 := n5_; clear n0_ n1_ n2_ n3_ n4_ n5_; (try clear hb); (try clear hb2); (try clear hge); (try clear hk); (try clear hi); have hcz37_0 : w36.cell? ⟨gb213, 0, none⟩ = some (.int .i64 t204) := (blk_cell BK213.out 0).trans rfl; have hcz37_1 : w36.cell? ⟨gb213, 1, none⟩ = some (.int .i64 1) := (blk_cell BK213.out 1).trans rfl; have hcz37_2 : w36.cell? ⟨gb213, 2, none⟩ = some (.slice Ao30 y210.length co30) := (blk_cell BK213.out 2).trans rfl; have hfz37_0 := blk_frozen BK213.out 0; have hfz37_1 := blk_frozen BK213.out 1; have hfz37_2 := blk_frozen BK213.out 2; have hnb38 := NB203_0.out; have hnc38 := NB0_203.out; have hcz39_0 : w36.cell? ⟨gb203, 0, none⟩ = some (.int .i64 0) := (blk_cell BK203.out 0).trans rfl; have hcz39_1 : w36.cell? ⟨gb203, 1, none⟩ = some (.int .i64 0) := (blk_cell BK203.out 1).trans rfl; have hcz39_2 : w36.cell? ⟨gb203, 2, none⟩ = some (.slice none 0 0) := (blk_cell BK203.out 2).trans rfl; have hfz39_0 := blk_frozen BK203.out 0; have hfz39_1 := blk_frozen BK203.out 1; have hfz39_2 := blk_frozen BK203.out 2))
   refine bodyPost_ret (results_cell_row rfl _ _ gb203 24 #[.int .i64 t204, .int .i64 t216, .slice Ao30 y210.length co30] (0, 0) _ rfl (by (with_reducible repeat (first | refine blk_drewN ?_ _ | refine blk_drew ?_ | refine blk_alloc ?_ _)); refine blk_put (cs := #[.int .i64 t204, .int .i64 t216, .slice none 0 0]) ?_ 2 _ rfl; (with_reducible repeat (first | refine blk_drewN ?_ _ | refine blk_drew ?_ | refine blk_alloc ?_ _)); refine blk_put (cs := #[.int .i64 t204, .int .i64 0, .slice none 0 0]) ?_ 1 _ rfl; (with_reducible repeat (first | refine blk_drewN ?_ _ | refine blk_drew ?_ | refine blk_alloc ?_ _)); refine blk_put (cs := #[.int .i64 0, .int .i64 0, .slice none 0 0]) ?_ 0 _ rfl; (with_reducible repeat (first | refine blk_drewN ?_ _ | refine blk_drew ?_ | refine blk_alloc ?_ _)); refine blk_far ?_ NB203_213.out _; (with_reducible repeat (first | refine blk_drewN ?_ _ | refine blk_drew ?_ | refine blk_alloc ?_ _)); exact BK203.out) Try.underlying24 rfl (by kernel_rfl)) rfl ?_
   exact ⟨_, by first | rfl | (simp [errW_none, errW_some] <;> rfl) | (simp [*, errW_none, errW_some] <;> rfl), by (with_reducible repeat (first | apply Kd.R_alloc | apply Kd.R_drewN | apply Kd.R_drew)); exact Kd.R_mono (Kd.R_far (p := ⟨gb203, 2, none⟩) (Kd.R_far (p := ⟨gb203, 1, none⟩) (Kd.R_far (p := ⟨gb203, 0, none⟩) (Kd.R_far (p := ⟨gb213, 1, none⟩) (Kd.R_types (Kd.R_types HO212.out BK213.out (by decide)) BK203.out (by decide)) (fun _ hk => hk.1.2) (.int .i64 t216)) (fun _ hk => hk.2) (.int .i64 t204)) (fun _ hk => hk.2) (.int .i64 t216)) (fun _ hk => hk.2) (.slice Ao30 y210.length co30)) (fun _ hk => trivial), by repeat (first | (with_reducible first | exact HI0.out | apply IsS48.alloc | apply IsS48.drewN | apply IsS48.drew | apply IsS48.set_1 | refine IsS48.far ?_ NB0_203.out _ | refine IsS48.far ?_ NB0_213.out _) | exact HI0.out), by repeat (first | (with_reducible first | exact HB.out | apply below_alloc | apply pw_below_drewN | apply below_drew1 | refine below_set ?_ (IsS48.ge HI0.out) | refine below_set ?_ GE203.out | refine below_set ?_ GE213.out) | exact HB.out), by repeat (first | (with_reducible first | exact HK.out | apply KeepBut.set_ | apply keep_drewN | apply keep_drew | apply keep_alloc | refine keep_far ?_ GW203.out _ | refine keep_far ?_ GW213.out _) | exact HK.out)⟩
  ·
   rw [if_neg c22] at H
   have c22b0 : (t214 == 6) = false := beq_eq_false_iff_ne.mpr c22
   have c22b1 : (t214 != 6) = true := bne_iff_ne.mpr c22
   by_cases c40 : t214 = 7
   ·
    rw [if_pos c40] at H
    have c40b0 : (t214 == 7) = true := beq_iff_eq.mpr c40
    have c40b1 : (t214 != 7) = false := bne_eq_false_iff_eq.mpr c40
    clear c40
    replace H := Option.bind_eq_some_iff.mp H
    obtain ⟨⟨t218, t219⟩, A410, H⟩ := H
    replace H : (if 0 ≤ t218 then (if t218 ≤ (y210.length : Int) then (some (t204, 1, (y210.take (t218 : Int).toNat), t219)) else (none)) else (none)) = some (r1, r2, r3, r4) := H
    have A41 := Aside0.mk A410
    clear A410
    by_cases c42 : 0 ≤ t218
    rotate_left
    ·
     rw [if_neg c42] at H
     exact absurd H (by simp)
    rw [if_pos c42] at H
    have c42b0 := eq_true c42
    have c42b1 : decide (0 ≤ t218) = true := decide_eq_true c42
    clear c42
    by_cases c43 : t218 ≤ (y210.length : Int)
    rotate_left
    ·
     rw [if_neg c43] at H
     exact absurd H (by simp)
    rw [if_pos c43] at H
    have c43b0 := eq_true c43
    have c43b1 : decide (t218 ≤ (y210.length : Int)) = true := decide_eq_true c43
    clear c43
    obtain ⟨y220, hy220⟩ : ∃ y_ : List Int, y_ = (y210.take (t218 : Int).toNat) := ⟨_, rfl⟩
    replace H : (some (t204, 1, y220, t219)) = some (r1, r2, r3, r4) := by first | (rw [hy220]; with_reducible exact H) | (have H2_ := (Option.bind_some _ _).symm.trans H; rw [hy220]; with_reducible exact H2_) | (have H2_ := (Option.bind_some _ _).symm.trans H; with_reducible exact H2_) | with_reducible exact H | (rw [hy220]; exact H) | exact H
    have Ny220 := Aside0.mk hy220
    clear hy220
    simp only [Option.some.injEq, Prod.mk.injEq] at H
    obtain ⟨rfl, rfl, rfl, rfl⟩ := H
    go_enter Try.func11, Try.ntmps11
    try go_wp2_with (first | ((with_reducible refine gate_dst (N := 2) rfl ?_); refine box_event ?hg (N := 2) ?hd (cs := #[.int .i64 0, .int .i64 0, .slice none 0 0]) (t := 24) ?hr ?_; (case hd => rfl); (case hg => rfl); (case hr => first | (go_simp; done) | (go_simp; rfl)); intro gb203 hg w44 hbox hb; have n0_ := Aside0.mk (IsS48.below (by repeat (first | (with_reducible first | exact HI0.out | apply IsS48.alloc | apply IsS48.drewN | apply IsS48.drew | apply IsS48.set_1) | exact HI0.out)) hb); have n1_ := Aside0.mk (KeepBut.trans (by repeat (first | (with_reducible first | exact HK.out | apply KeepBut.set_ | apply keep_drewN | apply keep_drew | apply keep_alloc) | exact HK.out)) (KeepBut.of_below hb g none) (.inl rfl)); have n2_ := Aside0.mk (below_step (by repeat (first | (with_reducible first | exact HB.out | apply below_alloc | apply pw_below_drewN | apply below_drew1 | refine below_set ?_ (IsS48.ge HI0.out)) | exact HB.out)) hb); have n3_ := Aside0.mk (hbox); have n4_ := Aside0.mk ((by rw [hg]; exact (keep_size (w := w) (g := g) (row := none) (by repeat (first | (with_reducible first | exact HK.out | apply KeepBut.set_ | apply keep_drewN | apply keep_drew | apply keep_alloc) | exact HK.out))) : w.heap.size ≤ gb203)); have n5_ := Aside0.mk ((Nat.le_trans HW0.out (by rw [hg]; exact (keep_size (w := w) (g := g) (row := none) (by repeat (first | (with_reducible first | exact HK.out | apply KeepBut.set_ | apply keep_drewN | apply keep_drew | apply keep_alloc) | exact HK.out))) : w.heap.size ≤ gb203) : w0.heap.size ≤ gb203)); have n6_ := Aside0.mk ((by rw [hg]; exact Nat.ne_of_lt (IsS48.lt (show IsS48 w0 _ g s0_0 s0_1 from by repeat (first | (with_reducible first | exact HI0.out | apply IsS48.alloc | apply IsS48.drewN | apply IsS48.drew | apply IsS48.set_1) | exact HI0.out))) : g ≠ gb203)); have n7_ := Aside0.mk ((by rw [hg]; exact Nat.ne_of_gt (IsS48.lt (show IsS48 w0 _ g s0_0 s0_1 from by repeat (first | (with_reducible first | exact HI0.out | apply IsS48.alloc | apply IsS48.drewN | apply IsS48.drew | apply IsS48.set_1) | exact HI0.out))) : gb203 ≠ g)); clear HI0; clear HK; clear HB; have HI0 := n0_; have HK := n1_; have HB := n2_; have BK203 := n3_; have GW203 := n4_; have GE203 := n5_; have NB0_203 := n6_; have NB203_0 := n7_; clear n0_ n1_ n2_ n3_ n4_ n5_ n6_ n7_; clear hb hbox hg) | ((with_reducible refine gate_callee (f := 21) rfl ?_); refine goesL_ (some 5) rfl rfl Try.func21 (by kernel_rfl) rfl #[.pointer (some ⟨g, 0, none⟩), .int .i64 6] rfl (by (try simp only [List.map_toArray, List.map_cons, List.map_nil]); first | done | rfl | (simp only [List.length_drop, List.length_take]; rfl)) ?_; (with_reducible refine (minecontroldraw_Codes_Next.calls k g s0_0 s0_1 6 t204 t205 w0 _ ?side1 ?side2 A2.out).mono ?_); (case side1 => repeat (first | (with_reducible first | exact HI0.out | apply IsS48.alloc | apply IsS48.drewN | apply IsS48.drew | apply IsS48.set_1 | refine IsS48.far ?_ NB0_203.out _) | exact HI0.out)); (case side2 => repeat (first | (with_reducible first | exact HB.out | apply below_alloc | apply pw_below_drewN | apply below_drew1 | refine below_set ?_ (IsS48.ge HI0.out) | refine below_set ?_ GE203.out) | exact HB.out)); rintro e w45 ⟨rfl, hi, hb, hk⟩; refine ⟨_, rfl, ?_⟩; have n0_ := Aside0.mk (KeepBut.blk hk (g' := gb203) (o := .cells #[.int .i64 0, .int .i64 0, .slice none 0 0] 24 (0, 0)) (by (with_reducible repeat (first | refine blk_drewN ?_ _ | refine blk_drew ?_ | refine blk_alloc ?_ _)); exact BK203.out) NB203_0.out (by simp)); have n1_ := Aside0.mk (KeepBut.trans (by repeat (first | (with_reducible first | exact HK.out | apply KeepBut.set_ | apply keep_drewN | apply keep_drew | apply keep_alloc | refine keep_far ?_ GW203.out _) | exact HK.out)) hk (.inl rfl)); have n2_ := Aside0.mk (hb); have n3_ := Aside0.mk (hi); clear BK203; clear HK; clear HB; clear HI0; have BK203 := n0_; have HK := n1_; have HB := n2_; have HI0 := n3_; clear n0_ n1_ n2_ n3_; (try clear hb); (try clear hb2); (try clear hge); (try clear hk); (try clear hi)) | ((with_reducible refine gate_callee (f := 21) rfl ?_); refine goesL_ (some 7) rfl rfl Try.func21 (by kernel_rfl) rfl #[.pointer (some ⟨g, 0, none⟩), .int .i64 2] rfl (by (try simp only [List.map_toArray, List.map_cons, List.map_nil]); first | done | rfl | (simp only [List.length_drop, List.length_take]; rfl)) ?_; (with_reducible refine (minecontroldraw_Codes_Next.calls k g s0_0 t205 2 t206 t207 w0 _ ?side1 ?side2 A3.out).mono ?_); (case side1 => repeat (first | (with_reducible first | exact HI0.out | apply IsS48.alloc | apply IsS48.drewN | apply IsS48.drew | apply IsS48.set_1 | refine IsS48.far ?_ NB0_203.out _) | exact HI0.out)); (case side2 => repeat (first | (with_reducible first | exact HB.out | apply below_alloc | apply pw_below_drewN | apply below_drew1 | refine below_set ?_ (IsS48.ge HI0.out) | refine below_set ?_ GE203.out) | exact HB.out)); rintro e w46 ⟨rfl, hi, hb, hk⟩; refine ⟨_, rfl, ?_⟩; have n0_ := Aside0.mk (KeepBut.blk hk (g' := gb203) (o := .cells #[.int .i64 0, .int .i64 0, .slice none 0 0] 24 (0, 0)) (by (with_reducible repeat (first | refine blk_drewN ?_ _ | refine blk_drew ?_ | refine blk_alloc ?_ _)); exact BK203.out) NB203_0.out (by simp)); have n1_ := Aside0.mk (KeepBut.trans (by repeat (first | (with_reducible first | exact HK.out | apply KeepBut.set_ | apply keep_drewN | apply keep_drew | apply keep_alloc | refine keep_far ?_ GW203.out _) | exact HK.out)) hk (.inl rfl)); have n2_ := Aside0.mk (hb); have n3_ := Aside0.mk (hi); clear BK203; clear HK; clear HB; clear HI0; have BK203 := n0_; have HK := n1_; have HB := n2_; have HI0 := n3_; clear n0_ n1_ n2_ n3_; (try clear hb); (try clear hb2); (try clear hge); (try clear hk); (try clear hi)) | ((with_reducible refine gate_callee (f := 21) rfl ?_); refine goesL_ (some 10) rfl rfl Try.func21 (by kernel_rfl) rfl #[.pointer (some ⟨g, 0, none⟩), .int .i64 256] rfl (by (try simp only [List.map_toArray, List.map_cons, List.map_nil]); first | done | rfl | (simp only [List.length_drop, List.length_take]; rfl)) ?_; (with_reducible refine (minecontroldraw_Codes_Next.calls k g s0_0 t207 256 t208 t209 w0 _ ?side1 ?side2 A4.out).mono ?_); (case side1 => repeat (first | (with_reducible first | exact HI0.out | apply IsS48.alloc | apply IsS48.drewN | apply IsS48.drew | apply IsS48.set_1 | refine IsS48.far ?_ NB0_203.out _) | exact HI0.out)); (case side2 => repeat (first | (with_reducible first | exact HB.out | apply below_alloc | apply pw_below_drewN | apply below_drew1 | refine below_set ?_ (IsS48.ge HI0.out) | refine below_set ?_ GE203.out) | exact HB.out)); rintro e w47 ⟨rfl, hi, hb, hk⟩; refine ⟨_, rfl, ?_⟩; have n0_ := Aside0.mk (KeepBut.blk hk (g' := gb203) (o := .cells #[.int .i64 0, .int .i64 0, .slice none 0 0] 24 (0, 0)) (by (with_reducible repeat (first | refine blk_drewN ?_ _ | refine blk_drew ?_ | refine blk_alloc ?_ _)); exact BK203.out) NB203_0.out (by simp)); have n1_ := Aside0.mk (KeepBut.trans (by repeat (first | (with_reducible first | exact HK.out | apply KeepBut.set_ | apply keep_drewN | apply keep_drew | apply keep_alloc | refine keep_far ?_ GW203.out _) | exact HK.out)) hk (.inl rfl)); have n2_ := Aside0.mk (hb); have n3_ := Aside0.mk (hi); clear BK203; clear HK; clear HB; clear HI0; have BK203 := n0_; have HK := n1_; have HB := n2_; have HI0 := n3_; clear n0_ n1_ n2_ n3_; (try clear hb); (try clear hb2); (try clear hge); (try clear hk); (try clear hi)) | ((with_reducible refine gate_dst (N := 12) rfl ?_); refine Kd.R_lit (Kd.int .u8) _ 5 ?hg (N := 12) ?hd (xs := ([(t206) % 256, (t208) % 256] : List Int)) (inner := [.int .u8 ((t206) % 256), .int .u8 ((t208) % 256)]) (ok := fun _ => True) (okp := fun _ => True) ?hr ?hp (fun _ hk => hk) trivial (Below.refl _ _) (Nat.le_refl _) (by simp) ?_; (case hd => rfl); (case hg => rfl); (case hr => first | (go_simp; done) | (go_simp; rfl)); (case hp => exact (Reps.one (show Kd.M (Kd.int .u8) _ _ _ ((t206) % 256) [.int .u8 ((t206) % 256)] from rfl) (Reps.one (show Kd.M (Kd.int .u8) _ _ _ ((t208) % 256) [.int .u8 ((t208) % 256)] from rfl) (Reps.none _ _)))); intro v211 w48 ho49 hb hg_ hnew_; clear hg_ hnew_; (first | rw [← Ny210.out] at ho49 | (simp only [Int.reduceToNat] at ho49; rw [← Ny210.out] at ho49)); have n0_ := Aside0.mk (Kd.R_lower ho49 (keep_size (w := w) (g := g) (row := none) (by repeat (first | (with_reducible first | exact HK.out | apply KeepBut.set_ | apply keep_drewN | apply keep_drew | apply keep_alloc | refine keep_far ?_ GW203.out _) | exact HK.out)))); have n1_ := Aside0.mk (IsS48.below (by repeat (first | (with_reducible first | exact HI0.out | apply IsS48.alloc | apply IsS48.drewN | apply IsS48.drew | apply IsS48.set_1 | refine IsS48.far ?_ NB0_203.out _) | exact HI0.out)) hb); have n2_ := Aside0.mk (blk_below (g := gb203) (o := .cells #[.int .i64 0, .int .i64 0, .slice none 0 0] 24 (0, 0)) (by (with_reducible repeat (first | refine blk_drewN ?_ _ | refine blk_drew ?_ | refine blk_alloc ?_ _)); exact BK203.out) hb); have n3_ := Aside0.mk (KeepBut.trans (by repeat (first | (with_reducible first | exact HK.out | apply KeepBut.set_ | apply keep_drewN | apply keep_drew | apply keep_alloc | refine keep_far ?_ GW203.out _) | exact HK.out)) (KeepBut.of_below hb g none) (.inl rfl)); have n4_ := Aside0.mk (below_step (by repeat (first | (with_reducible first | exact HB.out | apply below_alloc | apply pw_below_drewN | apply below_drew1 | refine below_set ?_ (IsS48.ge HI0.out) | refine below_set ?_ GE203.out) | exact HB.out)) hb); clear HI0; clear BK203; clear HK; clear HB; have HO212 := n0_; have HI0 := n1_; have BK203 := n2_; have HK := n3_; have HB := n4_; clear n0_ n1_ n2_ n3_ n4_; clear hb ho49; obtain ⟨Ao50, co50, eo50⟩ := Kd.R_slice HO212.out; subst eo50) | ((with_reducible refine gate_dst (N := 3) rfl ?_); refine box_event ?hg (N := 3) ?hd (cs := #[.int .i64 0, .int .i64 0, .slice none 0 0]) (t := 24) ?hr ?_; (case hd => rfl); (case hg => rfl); (case hr => first | (go_simp; done) | (go_simp; rfl)); intro gb213 hg w51 hbox hb; have n0_ := Aside0.mk (Kd.R_below (by (with_reducible repeat (first | apply Kd.R_alloc | apply Kd.R_drewN | apply Kd.R_drew)); exact HO212.out) hb); have n1_ := Aside0.mk (IsS48.below (by repeat (first | (with_reducible first | exact HI0.out | apply IsS48.alloc | apply IsS48.drewN | apply IsS48.drew | apply IsS48.set_1 | refine IsS48.far ?_ NB0_203.out _) | exact HI0.out)) hb); have n2_ := Aside0.mk (blk_below (g := gb203) (o := .cells #[.int .i64 0, .int .i64 0, .slice none 0 0] 24 (0, 0)) (by (with_reducible repeat (first | refine blk_drewN ?_ _ | refine blk_drew ?_ | refine blk_alloc ?_ _)); exact BK203.out) hb); have n3_ := Aside0.mk (KeepBut.trans (by repeat (first | (with_reducible first | exact HK.out | apply KeepBut.set_ | apply keep_drewN | apply keep_drew | apply keep_alloc | refine keep_far ?_ GW203.out _) | exact HK.out)) (KeepBut.of_below hb g none) (.inl rfl)); have n4_ := Aside0.mk (below_step (by repeat (first | (with_reducible first | exact HB.out | apply below_alloc | apply pw_below_drewN | apply below_drew1 | refine below_set ?_ (IsS48.ge HI0.out) | refine below_set ?_ GE203.out) | exact HB.out)) hb); have n5_ := Aside0.mk (hbox); have n6_ := Aside0.mk ((by rw [hg]; exact (keep_size (w := w) (g := g) (row := none) (by repeat (first | (with_reducible first | exact HK.out | apply KeepBut.set_ | apply keep_drewN | apply keep_drew | apply keep_alloc | refine keep_far ?_ GW203.out _) | exact HK.out))) : w.heap.size ≤ gb213)); have n7_ := Aside0.mk ((Nat.le_trans HW0.out (by rw [hg]; exact (keep_size (w := w) (g := g) (row := none) (by repeat (first | (with_reducible first | exact HK.out | apply KeepBut.set_ | apply keep_drewN | apply keep_drew | apply keep_alloc | refine keep_far ?_ GW203.out _) | exact HK.out))) : w.heap.size ≤ gb213) : w0.heap.size ≤ gb213)); have n8_ := Aside0.mk ((by rw [hg]; exact Nat.ne_of_lt (blk_lt (g := gb203) (o := .cells #[.int .i64 0, .int .i64 0, .slice none 0 0] 24 (0, 0)) (by (with_reducible repeat (first | refine blk_drewN ?_ _ | refine blk_drew ?_ | refine blk_alloc ?_ _)); exact BK203.out)) : gb203 ≠ gb213)); have n9_ := Aside0.mk ((by rw [hg]; exact Nat.ne_of_gt (blk_lt (g := gb203) (o := .cells #[.int .i64 0, .int .i64 0, .slice none 0 0] 24 (0, 0)) (by (with_reducible repeat (first | refine blk_drewN ?_ _ | refine blk_drew ?_ | refine blk_alloc ?_ _)); exact BK203.out)) : gb213 ≠ gb203)); have n10_ := Aside0.mk ((by rw [hg]; exact Nat.ne_of_lt (IsS48.lt (show IsS48 w0 _ g s0_0 t209 from by repeat (first | (with_reducible first | exact HI0.out | apply IsS48.alloc | apply IsS48.drewN | apply IsS48.drew | apply IsS48.set_1 | refine IsS48.far ?_ NB0_203.out _) | exact HI0.out))) : g ≠ gb213)); have n11_ := Aside0.mk ((by rw [hg]; exact Nat.ne_of_gt (IsS48.lt (show IsS48 w0 _ g s0_0 t209 from by repeat (first | (with_reducible first | exact HI0.out | apply IsS48.alloc | apply IsS48.drewN | apply IsS48.drew | apply IsS48.set_1 | refine IsS48.far ?_ NB0_203.out _) | exact HI0.out))) : gb213 ≠ g)); clear HO212; clear HI0; clear BK203; clear HK; clear HB; have HO212 := n0_; have HI0 := n1_; have BK203 := n2_; have HK := n3_; have HB := n4_; have BK213 := n5_; have GW213 := n6_; have GE213 := n7_; have NB203_213 := n8_; have NB213_203 := n9_; have NB0_213 := n10_; have NB213_0 := n11_; clear n0_ n1_ n2_ n3_ n4_ n5_ n6_ n7_ n8_ n9_ n10_ n11_; clear hb hbox hg; have hnb52 := NB213_203.out; have hnc52 := NB203_213.out; have hnb53 := NB213_0.out; have hnc53 := NB0_213.out; have hcz54_0 : w51.cell? ⟨gb213, 0, none⟩ = some (.int .i64 0) := (blk_cell BK213.out 0).trans rfl; have hcz54_1 : w51.cell? ⟨gb213, 1, none⟩ = some (.int .i64 0) := (blk_cell BK213.out 1).trans rfl; have hcz54_2 : w51.cell? ⟨gb213, 2, none⟩ = some (.slice none 0 0) := (blk_cell BK213.out 2).trans rfl; have hfz54_0 := blk_frozen BK213.out 0; have hfz54_1 := blk_frozen BK213.out 1; have hfz54_2 := blk_frozen BK213.out 2) | ((with_reducible refine gate_callee (f := 21) rfl ?_); refine goesL_ (some 15) rfl rfl Try.func21 (by kernel_rfl) rfl #[.pointer (some ⟨g, 0, none⟩), .int .i64 8] rfl (by (try simp only [List.map_toArray, List.map_cons, List.map_nil]); first | done | rfl | (simp only [List.length_drop, List.length_take]; rfl)) ?_; (with_reducible refine (minecontroldraw_Codes_Next.calls k g s0_0 t209 8 t214 t215 w0 _ ?side1 ?side2 A5.out).mono ?_); (case side1 => repeat (first | (with_reducible first | exact HI0.out | apply IsS48.alloc | apply IsS48.drewN | apply IsS48.drew | apply IsS48.set_1 | refine IsS48.far ?_ NB0_203.out _ | refine IsS48.far ?_ NB0_213.out _) | exact HI0.out)); (case side2 => repeat (first | (with_reducible first | exact HB.out | apply below_alloc | apply pw_below_drewN | apply below_drew1 | refine below_set ?_ (IsS48.ge HI0.out) | refine below_set ?_ GE203.out | refine below_set ?_ GE213.out) | exact HB.out)); rintro e w55 ⟨rfl, hi, hb, hk⟩; refine ⟨_, rfl, ?_⟩; have n0_ := Aside0.mk (KeepBut.blk hk (g' := gb203) (o := .cells #[.int .i64 0, .int .i64 0, .slice none 0 0] 24 (0, 0)) (by (with_reducible repeat (first | refine blk_drewN ?_ _ | refine blk_drew ?_ | refine blk_alloc ?_ _)); refine blk_far ?_ NB203_213.out _; (with_reducible repeat (first | refine blk_drewN ?_ _ | refine blk_drew ?_ | refine blk_alloc ?_ _)); refine blk_far ?_ NB203_213.out _; (with_reducible repeat (first | refine blk_drewN ?_ _ | refine blk_drew ?_ | refine blk_alloc ?_ _)); refine blk_far ?_ NB203_213.out _; (with_reducible repeat (first | refine blk_drewN ?_ _ | refine blk_drew ?_ | refine blk_alloc ?_ _)); exact BK203.out) NB203_0.out (by simp)); have n1_ := Aside0.mk (Kd.R_mono (Kd.R_keep (IsS48.apart (show IsS48 w0 _ g s0_0 t209 from by repeat (first | (with_reducible first | exact HI0.out | apply IsS48.alloc | apply IsS48.drewN | apply IsS48.drew | apply IsS48.set_1 | refine IsS48.far ?_ NB0_203.out _ | refine IsS48.far ?_ NB0_213.out _) | exact HI0.out)) (by (with_reducible repeat (first | apply Kd.R_alloc | apply Kd.R_drewN | apply Kd.R_drew)); exact (Kd.R_mono (Kd.R_far (p := ⟨gb213, 2, none⟩) (Kd.R_far (p := ⟨gb213, 1, none⟩) (Kd.R_far (p := ⟨gb213, 0, none⟩) (Kd.R_types HO212.out BK213.out (by decide)) (fun _ hk => hk.2) (.int .i64 t204)) (fun _ hk => hk.2) (.int .i64 1)) (fun _ hk => hk.2) (.slice Ao50 y210.length co50)) (fun _ h_ => h_.1))) (by decide)) hk (fun _ h => h.2)) (fun _ h => h.1)); have n2_ := Aside0.mk (KeepBut.blk hk (g' := gb213) (o := .cells #[.int .i64 t204, .int .i64 1, .slice Ao50 y210.length co50] 24 (0, 0)) (by (with_reducible repeat (first | refine blk_drewN ?_ _ | refine blk_drew ?_ | refine blk_alloc ?_ _)); refine blk_put (cs := #[.int .i64 t204, .int .i64 1, .slice none 0 0]) ?_ 2 _ rfl; (with_reducible repeat (first | refine blk_drewN ?_ _ | refine blk_drew ?_ | refine blk_alloc ?_ _)); refine blk_put (cs := #[.int .i64 t204, .int .i64 0, .slice none 0 0]) ?_ 1 _ rfl; (with_reducible repeat (first | refine blk_drewN ?_ _ | refine blk_drew ?_ | refine blk_alloc ?_ _)); refine blk_put (cs := #[.int .i64 0, .int .i64 0, .slice none 0 0]) ?_ 0 _ rfl; (with_reducible repeat (first | refine blk_drewN ?_ _ | refine blk_drew ?_ | refine blk_alloc ?_ _)); exact BK213.out) NB213_0.out (by simp)); have n3_ := Aside0.mk (KeepBut.trans (by repeat (first | (with_reducible first | exact HK.out | apply KeepBut.set_ | apply keep_drewN | apply keep_drew | apply keep_alloc | refine keep_far ?_ GW203.out _ | refine keep_far ?_ GW213.out _) | exact HK.out)) hk (.inl rfl)); have n4_ := Aside0.mk (hb); have n5_ := Aside0.mk (hi); clear BK203; clear HO212; clear BK213; clear HK; clear HB; clear HI0; have BK203 := n0_; have HO212 := n1_; have BK213 := n2_; have HK := n3_; have HB := n4_; have HI0 := n5_; clear n0_ n1_ n2_ n3_ n4_ n5_; (try clear hb); (try clear hb2); (try clear hge); (try clear hk); (try clear hi)))
    have n0_ := Aside0.mk (Kd.R_drew HO212.out)
    have n1_ := Aside0.mk (blk_drew BK203.out)
    have n2_ := Aside0.mk (blk_drew BK213.out)
    have n3_ := Aside0.mk (IsS48.drew HI0.out)
    have n4_ := Aside0.mk (keep_drew HK.out)
    have n5_ := Aside0.mk (below_drew1 HB.out)
    clear HO212
    clear BK203
    clear BK213
    clear HI0
    clear HK
    clear HB
    have HO212 := n0_
    have BK203 := n1_
    have BK213 := n2_
    have HI0 := n3_
    have HK := n4_
    have HB := n5_
    clear n0_ n1_ n2_ n3_ n4_ n5_
    refine start_ (n := 7) (S := fun w' => w'.cell? ⟨gb213, 0, none⟩ = some (.int .i64 t204) ∧ w'.cell? ⟨gb213, 1, none⟩ = some (.int .i64 1) ∧ w'.cell? ⟨gb213, 2, none⟩ = some (.slice Ao50 y210.length co50)) (ds := [6]) #[false, false, false, false, false, false, false] (by kernel_rfl) rfl rfl ⟨(blk_cell BK213.out 0).trans rfl, (blk_cell BK213.out 1).trans rfl, (blk_cell BK213.out 2).trans rfl⟩ (fun hHeld => ?_)
    generalize w55.drew = w56 at HO212 BK203 BK213 HI0 HK HB hHeld ⊢
    refine pure_ (i := 0) (N := some 27) (v := ?_) (a' := ?_) #[true, false, false, false, false, false, false] rfl rfl (by kernel_rfl) (fun _ _ _ h => h) (Or.inl ⟨by rfl, ?_⟩) ?_ ?_
    rotate_left
    ·
     intro w'
     go_simp
     with_reducible rfl
    rotate_left
    ·
     simp only [Act.put, List.setIfInBounds_toArray, List.set_cons_zero, List.set_cons_succ, i64_w, i32_w]
     rfl
    refine pure_ (i := 2) (N := some 29) (v := ?_) (a' := ?_) #[true, false, true, false, false, false, false] rfl rfl (by kernel_rfl) (fun _ _ _ h => h) (Or.inl ⟨by rfl, ?_⟩) ?_ ?_
    rotate_left
    ·
     intro w'
     go_simp
     with_reducible rfl
    rotate_left
    ·
     simp only [Act.put, List.setIfInBounds_toArray, List.set_cons_zero, List.set_cons_succ, i64_w, i32_w]
     rfl
    refine take_ (i := 1) (N := some 28) (v := ?_) (a' := ?_) #[true, true, true, false, false, false, false] rfl rfl (by kernel_rfl) (fun _ _ _ h => h) (Or.inl ⟨by rfl, ?_⟩) hHeld ?_ ?_
    rotate_left
    ·
     rintro w' ⟨s0, s1, s2⟩
     go_simp
     with_reducible rfl
    rotate_left
    ·
     simp only [Act.put, List.setIfInBounds_toArray, List.set_cons_zero, List.set_cons_succ, i64_w, i32_w]
     rfl
    refine one_ (i := 3) (N := some 30) #[true, true, true, true, false, false, false] rfl rfl (by kernel_rfl) (by decide) (fun K hK => ?_)
    refine goes_ Try.func21 (by kernel_rfl) rfl #[.pointer (some ⟨g, 0, none⟩), .int .i64 3] (by rfl) rfl rfl (by (try simp only [List.map_toArray, List.map_cons, List.map_nil]); first | done | rfl | (simp only [List.length_drop, List.length_take]; rfl)) ?_
    with_reducible refine (minecontroldraw_Codes_Next.calls k g s0_0 t215 3 t218 t219 w0 _ ?side1 ?side2 A41.out).mono ?_
    (case side1 => repeat (first | (with_reducible first | exact HI0.out | apply IsS48.alloc | apply IsS48.drewN | apply IsS48.drew | apply IsS48.set_1 | refine IsS48.far ?_ NB0_203.out _ | refine IsS48.far ?_ NB0_213.out _) | exact HI0.out))
    (case side2 => repeat (first | (with_reducible first | exact HB.out | apply below_alloc | apply pw_below_drewN | apply below_drew1 | refine below_set ?_ (IsS48.ge HI0.out) | refine below_set ?_ GE203.out | refine below_set ?_ GE213.out) | exact HB.out))
    rintro e w57 ⟨rfl, hi, hb, hk⟩
    refine ⟨_, rfl, ?_⟩
    have n0_ := Aside0.mk (KeepBut.blk hk (g' := gb203) (o := .cells #[.int .i64 0, .int .i64 0, .slice none 0 0] 24 (0, 0)) (by (with_reducible repeat (first | refine blk_drewN ?_ _ | refine blk_drew ?_ | refine blk_alloc ?_ _)); exact BK203.out) NB203_0.out (by simp))
    have n1_ := Aside0.mk (Kd.R_mono (Kd.R_keep (IsS48.apart (show IsS48 w0 _ g s0_0 t215 from by repeat (first | (with_reducible first | exact HI0.out | apply IsS48.alloc | apply IsS48.drewN | apply IsS48.drew | apply IsS48.set_1 | refine IsS48.far ?_ NB0_203.out _ | refine IsS48.far ?_ NB0_213.out _) | exact HI0.out)) (by (with_reducible repeat (first | apply Kd.R_alloc | apply Kd.R_drewN | apply Kd.R_drew)); exact HO212.out) (by decide)) hk (fun _ h => h.2)) (fun _ h => h.1))
    have n2_ := Aside0.mk (KeepBut.blk hk (g' := gb213) (o := .cells #[.int .i64 t204, .int .i64 1, .slice Ao50 y210.length co50] 24 (0, 0)) (by (with_reducible repeat (first | refine blk_drewN ?_ _ | refine blk_drew ?_ | refine blk_alloc ?_ _)); exact BK213.out) NB213_0.out (by simp))
    have n3_ := Aside0.mk (KeepBut.trans (by repeat (first | (with_reducible first | exact HK.out | apply KeepBut.set_ | apply keep_drewN | apply keep_drew | apply keep_alloc | refine keep_far ?_ GW203.out _ | refine keep_far ?_ GW213.out _) | exact HK.out)) hk (.inl rfl))
    have n4_ := Aside0.mk (hb)
    have n5_ := Aside0.mk (hi)
    clear BK203
    clear HO212
    clear BK213
    clear HK
    clear HB
    clear HI0
    have BK203 := n0_
    have HO212 := n1_
    have BK213 := n2_
    have HK := n3_
    have HB := n4_
    have HI0 := n5_
    clear n0_ n1_ n2_ n3_ n4_ n5_
    (try clear hb)
    (try clear hb2)
    (try clear hge)
    (try clear hk)
    (try clear hi)
    have q58 : (t218 : Int) ≤ ((y210.length : Int) : Int) := of_decide_eq_true (by first | (with_reducible assumption) | assumption)
    obtain ⟨i058, hi058, _, hsz58, _⟩ := info_parts info5
    have hcut58 := cut_to (P := Try.prog) 22 5 .i64 Try.underlying22 hi058 Ao50 y210.length co50 t218 (of_decide_eq_true (by first | (with_reducible assumption) | assumption)) q58 (Kd.R_reads' HO212.out).2.1
    have hr58 := Kd.R_take (m := (t218 : Int).toNat) HO212.out (by omega)
    have hy58 : y220.length = (t218 : Int).toNat := (by rw [Ny220.out, List.length_take]; omega)
    rw [← Ny220.out] at hr58
    rw [← hy58] at hr58 hcut58
    clear hy58 hi058 hsz58 HO212
    have HO222 := Aside0.mk hr58
    clear hr58
    replace q58 := eq_true q58
    refine hK.out _ _ ⟨(blk_cell BK213.out 0).trans rfl, (blk_cell BK213.out 1).trans rfl, (blk_cell BK213.out 2).trans rfl⟩ (fun hHeld => ?_)
    clear hK K
    refine norm_ (a' := ?_) ?_ ?_
    rotate_left
    ·
     show Act.put _ (some 30) _ = _
     simp only [Act.put, List.setIfInBounds_toArray, List.set_cons_zero, List.set_cons_succ, i64_w, i32_w]
     rfl
    refine pure_ (i := 4) (N := some 31) (v := ?_) (a' := ?_) #[true, true, true, true, true, false, false] rfl rfl (by kernel_rfl) (fun _ _ _ h => h) (Or.inl ⟨by rfl, ?_⟩) ?_ ?_
    rotate_left
    ·
     intro w'
     go_simp
     with_reducible rfl
    rotate_left
    ·
     simp only [Act.put, List.setIfInBounds_toArray, List.set_cons_zero, List.set_cons_succ, i64_w, i32_w]
     rfl
    refine pure_ (i := 5) (N := some 32) (v := ?_) (a' := ?_) #[true, true, true, true, true, true, false] rfl rfl (by kernel_rfl) (fun _ _ _ h => h) (Or.inl ⟨by rfl, ?_⟩) ?_ ?_
    rotate_left
    ·
     intro w'
     go_simp
     with_reducible rfl
    rotate_left
    ·
     simp only [Act.put, List.setIfInBounds_toArray, List.set_cons_zero, List.set_cons_succ, i64_w, i32_w]
     rfl
    refine last_ (i := 6) (N := none) #[true, true, true, true, true, true, true] rfl rfl (by kernel_rfl) (by decide) (fun K hK => ?_)
    have hs59 : w57.cell? ⟨gb213, 2, none⟩ = some (.slice Ao50 y210.length co50) := (blk_cell BK213.out 2).trans rfl
    have hfs59 := blk_frozen BK213.out 2
    have hns59_0 := NB203_213.out
    have hms59_0 := NB213_203.out
    refine skip_ (w1 := ?_) (by rfl) rfl ?_ ?_
    rotate_left
    ·
     go_simp
     rfl
    refine hK.out _ _ ?_
    clear hK K
    refine done_ (by kernel_rfl) ?_
    have hcz60_0 : w57.cell? ⟨gb213, 0, none⟩ = some (.int .i64 t204) := (blk_cell BK213.out 0).trans rfl
    have hcz60_1 : w57.cell? ⟨gb213, 1, none⟩ = some (.int .i64 1) := (blk_cell BK213.out 1).trans rfl
    have hcz60_2 : w57.cell? ⟨gb213, 2, none⟩ = some (.slice Ao50 y210.length co50) := (blk_cell BK213.out 2).trans rfl
    have hfz60_0 := blk_frozen BK213.out 0
    have hfz60_1 := blk_frozen BK213.out 1
    have hfz60_2 := blk_frozen BK213.out 2
    have hnb61 := NB203_0.out
    have hnc61 := NB0_203.out
    have hcz62_0 : w57.cell? ⟨gb203, 0, none⟩ = some (.int .i64 0) := (blk_cell BK203.out 0).trans rfl
    have hcz62_1 : w57.cell? ⟨gb203, 1, none⟩ = some (.int .i64 0) := (blk_cell BK203.out 1).trans rfl
    have hcz62_2 : w57.cell? ⟨gb203, 2, none⟩ = some (.slice none 0 0) := (blk_cell BK203.out 2).trans rfl
    have hfz62_0 := blk_frozen BK203.out 0
    have hfz62_1 := blk_frozen BK203.out 1
    have hfz62_2 := blk_frozen BK203.out 2
    try go_wp2
    refine bodyPost_ret (results_cell_row rfl _ _ gb203 24 #[.int .i64 t204, .int .i64 1, .slice Ao50 y220.length co50] (0, 0) _ rfl (by (with_reducible repeat (first | refine blk_drewN ?_ _ | refine blk_drew ?_ | refine blk_alloc ?_ _)); refine blk_put (cs := #[.int .i64 t204, .int .i64 1, .slice none 0 0]) ?_ 2 _ rfl; (with_reducible repeat (first | refine blk_drewN ?_ _ | refine blk_drew ?_ | refine blk_alloc ?_ _)); refine blk_put (cs := #[.int .i64 t204, .int .i64 0, .slice none 0 0]) ?_ 1 _ rfl; (with_reducible repeat (first | refine blk_drewN ?_ _ | refine blk_drew ?_ | refine blk_alloc ?_ _)); refine blk_put (cs := #[.int .i64 0, .int .i64 0, .slice none 0 0]) ?_ 0 _ rfl; (with_reducible repeat (first | refine blk_drewN ?_ _ | refine blk_drew ?_ | refine blk_alloc ?_ _)); refine blk_far ?_ NB203_213.out _; (with_reducible repeat (first | refine blk_drewN ?_ _ | refine blk_drew ?_ | refine blk_alloc ?_ _)); exact BK203.out) Try.underlying24 rfl (by kernel_rfl)) rfl ?_
    exact ⟨_, by first | rfl | (simp [errW_none, errW_some] <;> rfl) | (simp [*, errW_none, errW_some] <;> rfl), by (with_reducible repeat (first | apply Kd.R_alloc | apply Kd.R_drewN | apply Kd.R_drew)); exact Kd.R_mono (Kd.R_far (p := ⟨gb203, 2, none⟩) (Kd.R_far (p := ⟨gb203, 1, none⟩) (Kd.R_far (p := ⟨gb203, 0, none⟩) (Kd.R_far (p := ⟨gb213, 2, none⟩) (Kd.R_types (Kd.R_types HO222.out BK213.out (by decide)) BK203.out (by decide)) (fun _ hk => hk.1.2) (.slice Ao50 y220.length co50)) (fun _ hk => hk.2) (.int .i64 t204)) (fun _ hk => hk.2) (.int .i64 1)) (fun _ hk => hk.2) (.slice Ao50 y220.length co50)) (fun _ hk => trivial), by repeat (first | (with_reducible first | exact HI0.out | apply IsS48.alloc | apply IsS48.drewN | apply IsS48.drew | apply IsS48.set_1 | refine IsS48.far ?_ NB0_203.out _ | refine IsS48.far ?_ NB0_213.out _) | exact HI0.out), by repeat (first | (with_reducible first | exact HB.out | apply below_alloc | apply pw_below_drewN | apply below_drew1 | refine below_set ?_ (IsS48.ge HI0.out) | refine below_set ?_ GE203.out | refine below_set ?_ GE213.out) | exact HB.out), by repeat (first | (with_reducible first | exact HK.out | apply KeepBut.set_ | apply keep_drewN | apply keep_drew | apply keep_alloc | refine keep_far ?_ GW203.out _ | refine keep_far ?_ GW213.out _) | exact HK.out)⟩
   ·
    rw [if_neg c40] at H
    have c40b0 : (t214 == 7) = false := beq_eq_false_iff_ne.mpr c40
    have c40b1 : (t214 != 7) = true := bne_iff_ne.mpr c40
    simp only [Option.some.injEq, Prod.mk.injEq] at H
    obtain ⟨rfl, rfl, rfl, rfl⟩ := H
    go_enter Try.func11, Try.ntmps11
    go_wp2_with (first | ((with_reducible refine gate_dst (N := 2) rfl ?_); refine box_event ?hg (N := 2) ?hd (cs := #[.int .i64 0, .int .i64 0, .slice none 0 0]) (t := 24) ?hr ?_; (case hd => rfl); (case hg => rfl); (case hr => first | (go_simp; done) | (go_simp; rfl)); intro gb203 hg w63 hbox hb; have n0_ := Aside0.mk (IsS48.below (by repeat (first | (with_reducible first | exact HI0.out | apply IsS48.alloc | apply IsS48.drewN | apply IsS48.drew | apply IsS48.set_1) | exact HI0.out)) hb); have n1_ := Aside0.mk (KeepBut.trans (by repeat (first | (with_reducible first | exact HK.out | apply KeepBut.set_ | apply keep_drewN | apply keep_drew | apply keep_alloc) | exact HK.out)) (KeepBut.of_below hb g none) (.inl rfl)); have n2_ := Aside0.mk (below_step (by repeat (first | (with_reducible first | exact HB.out | apply below_alloc | apply pw_below_drewN | apply below_drew1 | refine below_set ?_ (IsS48.ge HI0.out)) | exact HB.out)) hb); have n3_ := Aside0.mk (hbox); have n4_ := Aside0.mk ((by rw [hg]; exact (keep_size (w := w) (g := g) (row := none) (by repeat (first | (with_reducible first | exact HK.out | apply KeepBut.set_ | apply keep_drewN | apply keep_drew | apply keep_alloc) | exact HK.out))) : w.heap.size ≤ gb203)); have n5_ := Aside0.mk ((Nat.le_trans HW0.out (by rw [hg]; exact (keep_size (w := w) (g := g) (row := none) (by repeat (first | (with_reducible first | exact HK.out | apply KeepBut.set_ | apply keep_drewN | apply keep_drew | apply keep_alloc) | exact HK.out))) : w.heap.size ≤ gb203) : w0.heap.size ≤ gb203)); have n6_ := Aside0.mk ((by rw [hg]; exact Nat.ne_of_lt (IsS48.lt (show IsS48 w0 _ g s0_0 s0_1 from by repeat (first | (with_reducible first | exact HI0.out | apply IsS48.alloc | apply IsS48.drewN | apply IsS48.drew | apply IsS48.set_1) | exact HI0.out))) : g ≠ gb203)); have n7_ := Aside0.mk ((by rw [hg]; exact Nat.ne_of_gt (IsS48.lt (show IsS48 w0 _ g s0_0 s0_1 from by repeat (first | (with_reducible first | exact HI0.out | apply IsS48.alloc | apply IsS48.drewN | apply IsS48.drew | apply IsS48.set_1) | exact HI0.out))) : gb203 ≠ g)); clear HI0; clear HK; clear HB; have HI0 := n0_; have HK := n1_; have HB := n2_; have BK203 := n3_; have GW203 := n4_; have GE203 := n5_; have NB0_203 := n6_; have NB203_0 := n7_; clear n0_ n1_ n2_ n3_ n4_ n5_ n6_ n7_; clear hb hbox hg) | ((with_reducible refine gate_callee (f := 21) rfl ?_); refine goesL_ (some 5) rfl rfl Try.func21 (by kernel_rfl) rfl #[.pointer (some ⟨g, 0, none⟩), .int .i64 6] rfl (by (try simp only [List.map_toArray, List.map_cons, List.map_nil]); first | done | rfl | (simp only [List.length_drop, List.length_take]; rfl)) ?_; (with_reducible refine (minecontroldraw_Codes_Next.calls k g s0_0 s0_1 6 t204 t205 w0 _ ?side1 ?side2 A2.out).mono ?_); (case side1 => repeat (first | (with_reducible first | exact HI0.out | apply IsS48.alloc | apply IsS48.drewN | apply IsS48.drew | apply IsS48.set_1 | refine IsS48.far ?_ NB0_203.out _) | exact HI0.out)); (case side2 => repeat (first | (with_reducible first | exact HB.out | apply below_alloc | apply pw_below_drewN | apply below_drew1 | refine below_set ?_ (IsS48.ge HI0.out) | refine below_set ?_ GE203.out) | exact HB.out)); rintro e w64 ⟨rfl, hi, hb, hk⟩; refine ⟨_, rfl, ?_⟩; have n0_ := Aside0.mk (KeepBut.blk hk (g' := gb203) (o := .cells #[.int .i64 0, .int .i64 0, .slice none 0 0] 24 (0, 0)) (by (with_reducible repeat (first | refine blk_drewN ?_ _ | refine blk_drew ?_ | refine blk_alloc ?_ _)); exact BK203.out) NB203_0.out (by simp)); have n1_ := Aside0.mk (KeepBut.trans (by repeat (first | (with_reducible first | exact HK.out | apply KeepBut.set_ | apply keep_drewN | apply keep_drew | apply keep_alloc | refine keep_far ?_ GW203.out _) | exact HK.out)) hk (.inl rfl)); have n2_ := Aside0.mk (hb); have n3_ := Aside0.mk (hi); clear BK203; clear HK; clear HB; clear HI0; have BK203 := n0_; have HK := n1_; have HB := n2_; have HI0 := n3_; clear n0_ n1_ n2_ n3_; (try clear hb); (try clear hb2); (try clear hge); (try clear hk); (try clear hi)) | ((with_reducible refine gate_callee (f := 21) rfl ?_); refine goesL_ (some 7) rfl rfl Try.func21 (by kernel_rfl) rfl #[.pointer (some ⟨g, 0, none⟩), .int .i64 2] rfl (by (try simp only [List.map_toArray, List.map_cons, List.map_nil]); first | done | rfl | (simp only [List.length_drop, List.length_take]; rfl)) ?_; (with_reducible refine (minecontroldraw_Codes_Next.calls k g s0_0 t205 2 t206 t207 w0 _ ?side1 ?side2 A3.out).mono ?_); (case side1 => repeat (first | (with_reducible first | exact HI0.out | apply IsS48.alloc | apply IsS48.drewN | apply IsS48.drew | apply IsS48.set_1 | refine IsS48.far ?_ NB0_203.out _) | exact HI0.out)); (case side2 => repeat (first | (with_reducible first | exact HB.out | apply below_alloc | apply pw_below_drewN | apply below_drew1 | refine below_set ?_ (IsS48.ge HI0.out) | refine below_set ?_ GE203.out) | exact HB.out)); rintro e w65 ⟨rfl, hi, hb, hk⟩; refine ⟨_, rfl, ?_⟩; have n0_ := Aside0.mk (KeepBut.blk hk (g' := gb203) (o := .cells #[.int .i64 0, .int .i64 0, .slice none 0 0] 24 (0, 0)) (by (with_reducible repeat (first | refine blk_drewN ?_ _ | refine blk_drew ?_ | refine blk_alloc ?_ _)); exact BK203.out) NB203_0.out (by simp)); have n1_ := Aside0.mk (KeepBut.trans (by repeat (first | (with_reducible first | exact HK.out | apply KeepBut.set_ | apply keep_drewN | apply keep_drew | apply keep_alloc | refine keep_far ?_ GW203.out _) | exact HK.out)) hk (.inl rfl)); have n2_ := Aside0.mk (hb); have n3_ := Aside0.mk (hi); clear BK203; clear HK; clear HB; clear HI0; have BK203 := n0_; have HK := n1_; have HB := n2_; have HI0 := n3_; clear n0_ n1_ n2_ n3_; (try clear hb); (try clear hb2); (try clear hge); (try clear hk); (try clear hi)) | ((with_reducible refine gate_callee (f := 21) rfl ?_); refine goesL_ (some 10) rfl rfl Try.func21 (by kernel_rfl) rfl #[.pointer (some ⟨g, 0, none⟩), .int .i64 256] rfl (by (try simp only [List.map_toArray, List.map_cons, List.map_nil]); first | done | rfl | (simp only [List.length_drop, List.length_take]; rfl)) ?_; (with_reducible refine (minecontroldraw_Codes_Next.calls k g s0_0 t207 256 t208 t209 w0 _ ?side1 ?side2 A4.out).mono ?_); (case side1 => repeat (first | (with_reducible first | exact HI0.out | apply IsS48.alloc | apply IsS48.drewN | apply IsS48.drew | apply IsS48.set_1 | refine IsS48.far ?_ NB0_203.out _) | exact HI0.out)); (case side2 => repeat (first | (with_reducible first | exact HB.out | apply below_alloc | apply pw_below_drewN | apply below_drew1 | refine below_set ?_ (IsS48.ge HI0.out) | refine below_set ?_ GE203.out) | exact HB.out)); rintro e w66 ⟨rfl, hi, hb, hk⟩; refine ⟨_, rfl, ?_⟩; have n0_ := Aside0.mk (KeepBut.blk hk (g' := gb203) (o := .cells #[.int .i64 0, .int .i64 0, .slice none 0 0] 24 (0, 0)) (by (with_reducible repeat (first | refine blk_drewN ?_ _ | refine blk_drew ?_ | refine blk_alloc ?_ _)); exact BK203.out) NB203_0.out (by simp)); have n1_ := Aside0.mk (KeepBut.trans (by repeat (first | (with_reducible first | exact HK.out | apply KeepBut.set_ | apply keep_drewN | apply keep_drew | apply keep_alloc | refine keep_far ?_ GW203.out _) | exact HK.out)) hk (.inl rfl)); have n2_ := Aside0.mk (hb); have n3_ := Aside0.mk (hi); clear BK203; clear HK; clear HB; clear HI0; have BK203 := n0_; have HK := n1_; have HB := n2_; have HI0 := n3_; clear n0_ n1_ n2_ n3_; (try clear hb); (try clear hb2); (try clear hge); (try clear hk); (try clear hi)) | ((with_reducible refine gate_dst (N := 12) rfl ?_); refine Kd.R_lit (Kd.int .u8) _ 5 ?hg (N := 12) ?hd (xs := ([(t206) % 256, (t208) % 256] : List Int)) (inner := [.int .u8 ((t206) % 256), .int .u8 ((t208) % 256)]) (ok := fun _ => True) (okp := fun _ => True) ?hr ?hp (fun _ hk => hk) trivial (Below.refl _ _) (Nat.le_refl _) (by simp) ?_; (case hd => rfl); (case hg => rfl); (case hr => first | (go_simp; done) | (go_simp; rfl)); (case hp => exact (Reps.one (show Kd.M (Kd.int .u8) _ _ _ ((t206) % 256) [.int .u8 ((t206) % 256)] from rfl) (Reps.one (show Kd.M (Kd.int .u8) _ _ _ ((t208) % 256) [.int .u8 ((t208) % 256)] from rfl) (Reps.none _ _)))); intro v211 w67 ho68 hb hg_ hnew_; clear hg_ hnew_; (first | rw [← Ny210.out] at ho68 | (simp only [Int.reduceToNat] at ho68; rw [← Ny210.out] at ho68)); have n0_ := Aside0.mk (Kd.R_lower ho68 (keep_size (w := w) (g := g) (row := none) (by repeat (first | (with_reducible first | exact HK.out | apply KeepBut.set_ | apply keep_drewN | apply keep_drew | apply keep_alloc | refine keep_far ?_ GW203.out _) | exact HK.out)))); have n1_ := Aside0.mk (IsS48.below (by repeat (first | (with_reducible first | exact HI0.out | apply IsS48.alloc | apply IsS48.drewN | apply IsS48.drew | apply IsS48.set_1 | refine IsS48.far ?_ NB0_203.out _) | exact HI0.out)) hb); have n2_ := Aside0.mk (blk_below (g := gb203) (o := .cells #[.int .i64 0, .int .i64 0, .slice none 0 0] 24 (0, 0)) (by (with_reducible repeat (first | refine blk_drewN ?_ _ | refine blk_drew ?_ | refine blk_alloc ?_ _)); exact BK203.out) hb); have n3_ := Aside0.mk (KeepBut.trans (by repeat (first | (with_reducible first | exact HK.out | apply KeepBut.set_ | apply keep_drewN | apply keep_drew | apply keep_alloc | refine keep_far ?_ GW203.out _) | exact HK.out)) (KeepBut.of_below hb g none) (.inl rfl)); have n4_ := Aside0.mk (below_step (by repeat (first | (with_reducible first | exact HB.out | apply below_alloc | apply pw_below_drewN | apply below_drew1 | refine below_set ?_ (IsS48.ge HI0.out) | refine below_set ?_ GE203.out) | exact HB.out)) hb); clear HI0; clear BK203; clear HK; clear HB; have HO212 := n0_; have HI0 := n1_; have BK203 := n2_; have HK := n3_; have HB := n4_; clear n0_ n1_ n2_ n3_ n4_; clear hb ho68; obtain ⟨Ao69, co69, eo69⟩ := Kd.R_slice HO212.out; subst eo69) | ((with_reducible refine gate_dst (N := 3) rfl ?_); refine box_event ?hg (N := 3) ?hd (cs := #[.int .i64 0, .int .i64 0, .slice none 0 0]) (t := 24) ?hr ?_; (case hd => rfl); (case hg => rfl); (case hr => first | (go_simp; done) | (go_simp; rfl)); intro gb213 hg w70 hbox hb; have n0_ := Aside0.mk (Kd.R_below (by (with_reducible repeat (first | apply Kd.R_alloc | apply Kd.R_drewN | apply Kd.R_drew)); exact HO212.out) hb); have n1_ := Aside0.mk (IsS48.below (by repeat (first | (with_reducible first | exact HI0.out | apply IsS48.alloc | apply IsS48.drewN | apply IsS48.drew | apply IsS48.set_1 | refine IsS48.far ?_ NB0_203.out _) | exact HI0.out)) hb); have n2_ := Aside0.mk (blk_below (g := gb203) (o := .cells #[.int .i64 0, .int .i64 0, .slice none 0 0] 24 (0, 0)) (by (with_reducible repeat (first | refine blk_drewN ?_ _ | refine blk_drew ?_ | refine blk_alloc ?_ _)); exact BK203.out) hb); have n3_ := Aside0.mk (KeepBut.trans (by repeat (first | (with_reducible first | exact HK.out | apply KeepBut.set_ | apply keep_drewN | apply keep_drew | apply keep_alloc | refine keep_far ?_ GW203.out _) | exact HK.out)) (KeepBut.of_below hb g none) (.inl rfl)); have n4_ := Aside0.mk (below_step (by repeat (first | (with_reducible first | exact HB.out | apply below_alloc | apply pw_below_drewN | apply below_drew1 | refine below_set ?_ (IsS48.ge HI0.out) | refine below_set ?_ GE203.out) | exact HB.out)) hb); have n5_ := Aside0.mk (hbox); have n6_ := Aside0.mk ((by rw [hg]; exact (keep_size (w := w) (g := g) (row := none) (by repeat (first | (with_reducible first | exact HK.out | apply KeepBut.set_ | apply keep_drewN | apply keep_drew | apply keep_alloc | refine keep_far ?_ GW203.out _) | exact HK.out))) : w.heap.size ≤ gb213)); have n7_ := Aside0.mk ((Nat.le_trans HW0.out (by rw [hg]; exact (keep_size (w := w) (g := g) (row := none) (by repeat (first | (with_reducible first | exact HK.out | apply KeepBut.set_ | apply keep_drewN | apply keep_drew | apply keep_alloc | refine keep_far ?_ GW203.out _) | exact HK.out))) : w.heap.size ≤ gb213) : w0.heap.size ≤ gb213)); have n8_ := Aside0.mk ((by rw [hg]; exact Nat.ne_of_lt (blk_lt (g := gb203) (o := .cells #[.int .i64 0, .int .i64 0, .slice none 0 0] 24 (0, 0)) (by (with_reducible repeat (first | refine blk_drewN ?_ _ | refine blk_drew ?_ | refine blk_alloc ?_ _)); exact BK203.out)) : gb203 ≠ gb213)); have n9_ := Aside0.mk ((by rw [hg]; exact Nat.ne_of_gt (blk_lt (g := gb203) (o := .cells #[.int .i64 0, .int .i64 0, .slice none 0 0] 24 (0, 0)) (by (with_reducible repeat (first | refine blk_drewN ?_ _ | refine blk_drew ?_ | refine blk_alloc ?_ _)); exact BK203.out)) : gb213 ≠ gb203)); have n10_ := Aside0.mk ((by rw [hg]; exact Nat.ne_of_lt (IsS48.lt (show IsS48 w0 _ g s0_0 t209 from by repeat (first | (with_reducible first | exact HI0.out | apply IsS48.alloc | apply IsS48.drewN | apply IsS48.drew | apply IsS48.set_1 | refine IsS48.far ?_ NB0_203.out _) | exact HI0.out))) : g ≠ gb213)); have n11_ := Aside0.mk ((by rw [hg]; exact Nat.ne_of_gt (IsS48.lt (show IsS48 w0 _ g s0_0 t209 from by repeat (first | (with_reducible first | exact HI0.out | apply IsS48.alloc | apply IsS48.drewN | apply IsS48.drew | apply IsS48.set_1 | refine IsS48.far ?_ NB0_203.out _) | exact HI0.out))) : gb213 ≠ g)); clear HO212; clear HI0; clear BK203; clear HK; clear HB; have HO212 := n0_; have HI0 := n1_; have BK203 := n2_; have HK := n3_; have HB := n4_; have BK213 := n5_; have GW213 := n6_; have GE213 := n7_; have NB203_213 := n8_; have NB213_203 := n9_; have NB0_213 := n10_; have NB213_0 := n11_; clear n0_ n1_ n2_ n3_ n4_ n5_ n6_ n7_ n8_ n9_ n10_ n11_; clear hb hbox hg; have hnb71 := NB213_203.out; have hnc71 := NB203_213.out; have hnb72 := NB213_0.out; have hnc72 := NB0_213.out; have hcz73_0 : w70.cell? ⟨gb213, 0, none⟩ = some (.int .i64 0) := (blk_cell BK213.out 0).trans rfl; have hcz73_1 : w70.cell? ⟨gb213, 1, none⟩ = some (.int .i64 0) := (blk_cell BK213.out 1).trans rfl; have hcz73_2 : w70.cell? ⟨gb213, 2, none⟩ = some (.slice none 0 0) := (blk_cell BK213.out 2).trans rfl; have hfz73_0 := blk_frozen BK213.out 0; have hfz73_1 := blk_frozen BK213.out 1; have hfz73_2 := blk_frozen BK213.out 2) | ((with_reducible refine gate_callee (f := 21) rfl ?_); refine goesL_ (some 15) rfl rfl Try.func21 (by kernel_rfl) rfl #[.pointer (some ⟨g, 0, none⟩), .int .i64 8] rfl (by (try simp only [List.map_toArray, List.map_cons, List.map_nil]); first | done | rfl | (simp only [List.length_drop, List.length_take]; rfl)) ?_; (with_reducible refine (minecontroldraw_Codes_Next.calls k g s0_0 t209 8 t214 t215 w0 _ ?side1 ?side2 A5.out).mono ?_); (case side1 => repeat (first | (with_reducible first | exact HI0.out | apply IsS48.alloc | apply IsS48.drewN | apply IsS48.drew | apply IsS48.set_1 | refine IsS48.far ?_ NB0_203.out _ | refine IsS48.far ?_ NB0_213.out _) | exact HI0.out)); (case side2 => repeat (first | (with_reducible first | exact HB.out | apply below_alloc | apply pw_below_drewN | apply below_drew1 | refine below_set ?_ (IsS48.ge HI0.out) | refine below_set ?_ GE203.out | refine below_set ?_ GE213.out) | exact HB.out)); rintro e w74 ⟨rfl, hi, hb, hk⟩; refine ⟨_, rfl, ?_⟩; have n0_ := Aside0.mk (KeepBut.blk hk (g' := gb203) (o := .cells #[.int .i64 0, .int .i64 0, .slice none 0 0] 24 (0, 0)) (by (with_reducible repeat (first | refine blk_drewN ?_ _ | refine blk_drew ?_ | refine blk_alloc ?_ _)); refine blk_far ?_ NB203_213.out _; (with_reducible repeat (first | refine blk_drewN ?_ _ | refine blk_drew ?_ | refine blk_alloc ?_ _)); refine blk_far ?_ NB203_213.out _; (with_reducible repeat (first | refine blk_drewN ?_ _ | refine blk_drew ?_ | refine blk_alloc ?_ _)); refine blk_far ?_ NB203_213.out _; (with_reducible repeat (first | refine blk_drewN ?_ _ | refine blk_drew ?_ | refine blk_alloc ?_ _)); exact BK203.out) NB203_0.out (by simp)); have n1_ := Aside0.mk (Kd.R_mono (Kd.R_keep (IsS48.apart (show IsS48 w0 _ g s0_0 t209 from by repeat (first | (with_reducible first | exact HI0.out | apply IsS48.alloc | apply IsS48.drewN | apply IsS48.drew | apply IsS48.set_1 | refine IsS48.far ?_ NB0_203.out _ | refine IsS48.far ?_ NB0_213.out _) | exact HI0.out)) (by (with_reducible repeat (first | apply Kd.R_alloc | apply Kd.R_drewN | apply Kd.R_drew)); exact (Kd.R_mono (Kd.R_far (p := ⟨gb213, 2, none⟩) (Kd.R_far (p := ⟨gb213, 1, none⟩) (Kd.R_far (p := ⟨gb213, 0, none⟩) (Kd.R_types HO212.out BK213.out (by decide)) (fun _ hk => hk.2) (.int .i64 t204)) (fun _ hk => hk.2) (.int .i64 1)) (fun _ hk => hk.2) (.slice Ao69 y210.length co69)) (fun _ h_ => h_.1))) (by decide)) hk (fun _ h => h.2)) (fun _ h => h.1)); have n2_ := Aside0.mk (KeepBut.blk hk (g' := gb213) (o := .cells #[.int .i64 t204, .int .i64 1, .slice Ao69 y210.length co69] 24 (0, 0)) (by (with_reducible repeat (first | refine blk_drewN ?_ _ | refine blk_drew ?_ | refine blk_alloc ?_ _)); refine blk_put (cs := #[.int .i64 t204, .int .i64 1, .slice none 0 0]) ?_ 2 _ rfl; (with_reducible repeat (first | refine blk_drewN ?_ _ | refine blk_drew ?_ | refine blk_alloc ?_ _)); refine blk_put (cs := #[.int .i64 t204, .int .i64 0, .slice none 0 0]) ?_ 1 _ rfl; (with_reducible repeat (first | refine blk_drewN ?_ _ | refine blk_drew ?_ | refine blk_alloc ?_ _)); refine blk_put (cs := #[.int .i64 0, .int .i64 0, .slice none 0 0]) ?_ 0 _ rfl; (with_reducible repeat (first | refine blk_drewN ?_ _ | refine blk_drew ?_ | refine blk_alloc ?_ _)); exact BK213.out) NB213_0.out (by simp)); have n3_ := Aside0.mk (KeepBut.trans (by repeat (first | (with_reducible first | exact HK.out | apply KeepBut.set_ | apply keep_drewN | apply keep_drew | apply keep_alloc | refine keep_far ?_ GW203.out _ | refine keep_far ?_ GW213.out _) | exact HK.out)) hk (.inl rfl)); have n4_ := Aside0.mk (hb); have n5_ := Aside0.mk (hi); clear BK203; clear HO212; clear BK213; clear HK; clear HB; clear HI0; have BK203 := n0_; have HO212 := n1_; have BK213 := n2_; have HK := n3_; have HB := n4_; have HI0 := n5_; clear n0_ n1_ n2_ n3_ n4_ n5_; (try clear hb); (try clear hb2); (try clear hge); (try clear hk); (try clear hi); have hcz75_0 : w74.cell? ⟨gb213, 0, none⟩ = some (.int .i64 t204) := (blk_cell BK213.out 0).trans rfl; have hcz75_1 : w74.cell? ⟨gb213, 1, none⟩ = some (.int .i64 1) := (blk_cell BK213.out 1).trans rfl; have hcz75_2 : w74.cell? ⟨gb213, 2, none⟩ = some (.slice Ao69 y210.length co69) := (blk_cell BK213.out 2).trans rfl; have hfz75_0 := blk_frozen BK213.out 0; have hfz75_1 := blk_frozen BK213.out 1; have hfz75_2 := blk_frozen BK213.out 2; have hnb76 := NB203_0.out; have hnc76 := NB0_203.out; have hcz77_0 : w74.cell? ⟨gb203, 0, none⟩ = some (.int .i64 0) := (blk_cell BK203.out 0).trans rfl; have hcz77_1 : w74.cell? ⟨gb203, 1, none⟩ = some (.int .i64 0) := (blk_cell BK203.out 1).trans rfl; have hcz77_2 : w74.cell? ⟨gb203, 2, none⟩ = some (.slice none 0 0) := (blk_cell BK203.out 2).trans rfl; have hfz77_0 := blk_frozen BK203.out 0; have hfz77_1 := blk_frozen BK203.out 1; have hfz77_2 := blk_frozen BK203.out 2))
    refine bodyPost_ret (results_cell_row rfl _ _ gb203 24 #[.int .i64 t204, .int .i64 1, .slice Ao69 y210.length co69] (0, 0) _ rfl (by (with_reducible repeat (first | refine blk_drewN ?_ _ | refine blk_drew ?_ | refine blk_alloc ?_ _)); refine blk_put (cs := #[.int .i64 t204, .int .i64 1, .slice none 0 0]) ?_ 2 _ rfl; (with_reducible repeat (first | refine blk_drewN ?_ _ | refine blk_drew ?_ | refine blk_alloc ?_ _)); refine blk_put (cs := #[.int .i64 t204, .int .i64 0, .slice none 0 0]) ?_ 1 _ rfl; (with_reducible repeat (first | refine blk_drewN ?_ _ | refine blk_drew ?_ | refine blk_alloc ?_ _)); refine blk_put (cs := #[.int .i64 0, .int .i64 0, .slice none 0 0]) ?_ 0 _ rfl; (with_reducible repeat (first | refine blk_drewN ?_ _ | refine blk_drew ?_ | refine blk_alloc ?_ _)); exact BK203.out) Try.underlying24 rfl (by kernel_rfl)) rfl ?_
    exact ⟨_, by first | rfl | (simp [errW_none, errW_some] <;> rfl) | (simp [*, errW_none, errW_some] <;> rfl), by (with_reducible repeat (first | apply Kd.R_alloc | apply Kd.R_drewN | apply Kd.R_drew)); exact Kd.R_mono (Kd.R_far (p := ⟨gb203, 2, none⟩) (Kd.R_far (p := ⟨gb203, 1, none⟩) (Kd.R_far (p := ⟨gb203, 0, none⟩) (Kd.R_types HO212.out BK203.out (by decide)) (fun _ hk => hk.2) (.int .i64 t204)) (fun _ hk => hk.2) (.int .i64 1)) (fun _ hk => hk.2) (.slice Ao69 y210.length co69)) (fun _ hk => trivial), by repeat (first | (with_reducible first | exact HI0.out | apply IsS48.alloc | apply IsS48.drewN | apply IsS48.drew | apply IsS48.set_1 | refine IsS48.far ?_ NB0_203.out _ | refine IsS48.far ?_ NB0_213.out _) | exact HI0.out), by repeat (first | (with_reducible first | exact HB.out | apply below_alloc | apply pw_below_drewN | apply below_drew1 | refine below_set ?_ (IsS48.ge HI0.out) | refine below_set ?_ GE203.out | refine below_set ?_ GE213.out) | exact HB.out), by repeat (first | (with_reducible first | exact HK.out | apply KeepBut.set_ | apply keep_drewN | apply keep_drew | apply keep_alloc | refine keep_far ?_ GW203.out _ | refine keep_far ?_ GW213.out _) | exact HK.out)⟩

/-! ### minecontrolref04_Check: function 15 -/
mutual
def minecontrolref04_Check.l0 : Nat → List Int → Int → Int → Option (Int)
 | 0, _, _, _ => none
 | k + 1, x0, x3, x4 => if x4 < (x0.length : Int) then (minecontrolref04_Check.l1 k x0 x3 x4 7) else (some x3)
def minecontrolref04_Check.l1 : Nat → List Int → Int → Int → Int → Option (Int)
 | 0, _, _, _, _ => none
 | k + 1, x0, x3, x4, x5 => if x5 ≥ 0 then (if 0 ≤ x4 then (if x4 < (x0.length : Int) then (if 0 ≤ (IntKind.u64.wrap (x5)) then (if (Go.bits .and .i64 (x3 / 32768) 1) = (wrap64 (Go.bits .and .u8 (shr .u8 (rd x0 x4) (IntKind.u64.wrap (x5))) 1)) then (minecontrolref04_Check.l1 k x0 (Go.bits .and .i64 (wrap64 (x3 * 2)) 65535) x4 (wrap64 (x5 - 1))) else (minecontrolref04_Check.l1 k x0 (Go.bits .xor .i64 (Go.bits .and .i64 (wrap64 (x3 * 2)) 65535) 4129) x4 (wrap64 (x5 - 1)))) else (none)) else (none)) else (none)) else (minecontrolref04_Check.l0 k x0 x3 (wrap64 (x4 + 1)))
end
def minecontrolref04_Check.f (k : Nat) (l0 : List Int) : Option (Int) := minecontrolref04_Check.l0 k l0 65535 0
theorem minecontrolref04_Check.mono_l : ∀ k, (∀ y0 y1 y2, LeO (minecontrolref04_Check.l0 k y0 y1 y2) (minecontrolref04_Check.l0 (k + 1) y0 y1 y2)) ∧ (∀ y0 y1 y2 y3, LeO (minecontrolref04_Check.l1 k y0 y1 y2 y3) (minecontrolref04_Check.l1 (k + 1) y0 y1 y2 y3))
 | 0 => ⟨fun _ _ _ r h => by simp [minecontrolref04_Check.l0] at h, fun _ _ _ _ r h => by simp [minecontrolref04_Check.l1] at h⟩
 | k + 1 => by
  obtain ⟨ih0, ih1⟩ := minecontrolref04_Check.mono_l k
  refine ⟨?_, ?_⟩
  ·
   intro y0 y1 y2
   unfold minecontrolref04_Check.l0
   repeat' first
   | (with_reducible exact ih0 _ _ _)
   | (with_reducible exact ih1 _ _ _ _)
   | (with_reducible exact LeO.refl _)
   | (with_reducible exact LeO.none _)
   | (with_reducible refine LeO.ite ?_ ?_)
   | (with_reducible refine LeO.bind ?_ (fun _ => ?_))
   | exact ih0 _ _ _
   | exact ih1 _ _ _ _
   | exact LeO.none _
   | refine LeO.ite ?_ ?_
   | refine LeO.bind ?_ (fun _ => ?_)
  ·
   intro y0 y1 y2 y3
   unfold minecontrolref04_Check.l1
   repeat' first
   | (with_reducible exact ih0 _ _ _)
   | (with_reducible exact ih1 _ _ _ _)
   | (with_reducible exact LeO.refl _)
   | (with_reducible exact LeO.none _)
   | (with_reducible refine LeO.ite ?_ ?_)
   | (with_reducible refine LeO.bind ?_ (fun _ => ?_))
   | exact ih0 _ _ _
   | exact ih1 _ _ _ _
   | exact LeO.none _
   | refine LeO.ite ?_ ?_
   | refine LeO.bind ?_ (fun _ => ?_)
theorem minecontrolref04_Check.mono : ∀ a0 k, LeO (minecontrolref04_Check.f k a0) (minecontrolref04_Check.f (k + 1) a0) := by
 intro a0 k
 obtain ⟨ih0, ih1⟩ := minecontrolref04_Check.mono_l k
 unfold minecontrolref04_Check.f
 repeat' first
   | (with_reducible exact ih0 _ _ _)
   | (with_reducible exact ih1 _ _ _ _)
   | (with_reducible exact LeO.refl _)
   | (with_reducible exact LeO.none _)
   | (with_reducible refine LeO.ite ?_ ?_)
   | (with_reducible refine LeO.bind ?_ (fun _ => ?_))
   | exact ih0 _ _ _
   | exact ih1 _ _ _ _
   | exact LeO.none _
   | refine LeO.ite ?_ ?_
   | refine LeO.bind ?_ (fun _ => ?_)
set_option maxHeartbeats 8000000 in
set_option maxRecDepth 100000 in
theorem minecontrolref04_Check.calls (k : Nat) (A0 : Option Addr) (c0 : Nat) (l0 : List Int) (r : Int) (w : World) (hr0 : Kd.C (Kd.int .u8) w A0 l0.length l0) (hc0 : l0.length ≤ c0) (h : minecontrolref04_Check.f k l0 = some r) :
  Calls Try.prog 15 #[.slice A0 l0.length c0] w fun e w' => e = .returned (.int .i64 r) ∧ Drawn0 w w' := by
 have HR0 := Aside0.mk hr0
 have HC0 := Aside0.mk hc0
 clear hr0 hc0
 have H : (minecontrolref04_Check.l0 k l0 65535 0) = some r := h
 clear h
 have H' := Aside0.mk H
 clear H
 go_enter Try.func15, Try.ntmps15
 go_wp2
 go_loopg [3, 4] k (fun kq v3 v4 w' => ∃ (x3_1 : Int) (x4_1 : Int), v3 = .int .i64 x3_1 ∧ v4 = .int .i64 x4_1 ∧ Aside0 (minecontrolref04_Check.l0 kq l0 x3_1 x4_1 = some r) ∧ Aside0 (kq ≤ k) ∧ Drawn0 w w')
 case atStart => exact ⟨(65535), (0), (by first | rfl | (simp; done) | (simp [*]; done)), (by first | rfl | (simp; done) | (simp [*]; done)), H', ⟨Nat.le_refl _⟩, by repeat (first | exact Drawn0.refl _ | apply Drawn0.step)⟩
 case round =>
  clear H'
  try clear c1
  obtain ⟨x3_1, x4_1, rfl, rfl, HA, HK1, ⟨m1, rfl⟩⟩ := hrel
  cases gk with
  | zero => exact absurd HA.out (by simp [minecontrolref04_Check.l0])
  | succ k1 =>
   have H := HA.out
   clear HA
   simp only [minecontrolref04_Check.l0] at H
   by_cases c2 : x4_1 < (l0.length : Int)
   ·
    rw [if_pos c2] at H
    have c2b0 : decide (x4_1 < (l0.length : Int)) = true := decide_eq_true c2
    clear c2
    have H' := Aside0.mk H
    clear H
    go_wp2
    go_loopg [3, 5] k1 (fun kq v3 v5 w' => ∃ (x3_2 : Int) (x5_2 : Int), v3 = .int .i64 x3_2 ∧ v5 = .int .i64 x5_2 ∧ Aside0 (minecontrolref04_Check.l1 kq l0 x3_2 x4_1 x5_2 = some r) ∧ Aside0 (kq ≤ k1) ∧ Drawn0 w w')
    case atStart => exact ⟨(x3_1), (7), (by first | rfl | (simp; done) | (simp [*]; done)), (by first | rfl | (simp; done) | (simp [*]; done)), H', ⟨Nat.le_refl _⟩, by repeat (first | exact Drawn0.refl _ | apply Drawn0.step)⟩
    case round =>
     clear H'
     try clear c1; try clear c2; try clear c2b0; try clear p2
     obtain ⟨x3_2, x5_2, rfl, rfl, HA, HK2, ⟨m2, rfl⟩⟩ := hrel
     cases gk with
     | zero => exact absurd HA.out (by simp [minecontrolref04_Check.l1])
     | succ k2 =>
      have H := HA.out
      clear HA
      simp only [minecontrolref04_Check.l1] at H
      by_cases c3 : x5_2 ≥ 0
      ·
       rw [if_pos c3] at H
       have c3b0 : decide (0 ≤ x5_2) = true := decide_eq_true c3
       clear c3
       by_cases c4 : 0 ≤ x4_1
       rotate_left
       ·
        rw [if_neg c4] at H
        exact absurd H (by simp)
       rw [if_pos c4] at H
       have c4b0 : decide (0 ≤ x4_1) = true := decide_eq_true c4
       clear c4
       by_cases c5 : x4_1 < (l0.length : Int)
       rotate_left
       ·
        rw [if_neg c5] at H
        exact absurd H (by simp)
       rw [if_pos c5] at H
       have c5b0 : decide (x4_1 < (l0.length : Int)) = true := decide_eq_true c5
       clear c5
       obtain ⟨ji6, hji6⟩ : ∃ j_ : Int, (IntKind.u64.wrap (x5_2)) = j_ := ⟨_, rfl⟩
       replace H : (if 0 ≤ (ji6) then (if (Go.bits .and .i64 (x3_2 / 32768) 1) = (wrap64 (Go.bits .and .u8 (shr .u8 (rd l0 x4_1) (ji6)) 1)) then (minecontrolref04_Check.l1 k2 l0 (Go.bits .and .i64 (wrap64 (x3_2 * 2)) 65535) x4_1 (wrap64 (x5_2 - 1))) else (minecontrolref04_Check.l1 k2 l0 (Go.bits .xor .i64 (Go.bits .and .i64 (wrap64 (x3_2 * 2)) 65535) 4129) x4_1 (wrap64 (x5_2 - 1)))) else (none)) = some r := by first | (rw [hji6] at H; exact H) | (simp only [hji6] at H ⊢; exact H)
       by_cases c7 : 0 ≤ (ji6)
       rotate_left
       ·
        rw [if_neg c7] at H
        exact absurd H (by simp)
       rw [if_pos c7] at H
       have c7b0 := eq_true c7
       have c7b1 : decide (0 ≤ (ji6)) = true := decide_eq_true c7
       clear c7
       obtain ⟨ji8, hji8⟩ : ∃ j_ : Int, (shr .u8 (rd l0 x4_1) (ji6)) = j_ := ⟨_, rfl⟩
       replace H : (if (Go.bits .and .i64 (x3_2 / 32768) 1) = (wrap64 (Go.bits .and .u8 (ji8) 1)) then (minecontrolref04_Check.l1 k2 l0 (Go.bits .and .i64 (wrap64 (x3_2 * 2)) 65535) x4_1 (wrap64 (x5_2 - 1))) else (minecontrolref04_Check.l1 k2 l0 (Go.bits .xor .i64 (Go.bits .and .i64 (wrap64 (x3_2 * 2)) 65535) 4129) x4_1 (wrap64 (x5_2 - 1)))) = some r := by first | (rw [hji8] at H; exact H) | (simp only [hji8] at H ⊢; exact H)
       have hji8_ : ((rd l0 x4_1) / 2 ^ min (ji6).toNat 8) = ji8 := hji8
       have hji8z : (ji6) ≤ 8 → ((rd l0 x4_1) / 2 ^ (ji6).toNat) = ji8 := shr_small hji8
       by_cases c9 : (Go.bits .and .i64 (x3_2 / 32768) 1) = (wrap64 (Go.bits .and .u8 (ji8) 1))
       ·
        rw [if_pos c9] at H
        have c9b0 : ((Go.bits .and .i64 (x3_2 / 32768) 1) == (wrap64 (Go.bits .and .u8 (ji8) 1))) = true := beq_iff_eq.mpr c9
        have c9b1 : ((Go.bits .and .i64 (x3_2 / 32768) 1) != (wrap64 (Go.bits .and .u8 (ji8) 1))) = false := bne_eq_false_iff_eq.mpr c9
        clear c9
        have H' := Aside0.mk H
        clear H
        have p223 : 0 ≤ (x4_1 : Int) := of_decide_eq_true (by first | (with_reducible assumption) | assumption)
        have q223 : x4_1 < (l0.length : Int) := of_decide_eq_true (by first | (with_reducible assumption) | assumption)
        obtain ⟨ad223, e223, hx223_0⟩ := Kd.at_int HR0.out x4_1 p223 q223
        cases e223
        replace p223 := eq_true p223
        replace q223 := eq_true q223
        go_wp2
        go_roundg k2
        case measure => have := HK1.out; have := HK2.out; omega
        case rel => exact ⟨(Go.bits .and .i64 (wrap64 (x3_2 * 2)) 65535), (wrap64 (x5_2 - 1)), (by first | rfl | (simp; done) | (simp [*]; done)), (by first | rfl | (simp; done) | (simp [*]; done)), H', ⟨by have := HK1.out; have := HK2.out; omega⟩, by repeat (first | exact Drawn0.refl _ | apply Drawn0.step)⟩
       ·
        rw [if_neg c9] at H
        have c9b0 : ((Go.bits .and .i64 (x3_2 / 32768) 1) == (wrap64 (Go.bits .and .u8 (ji8) 1))) = false := beq_eq_false_iff_ne.mpr c9
        have c9b1 : ((Go.bits .and .i64 (x3_2 / 32768) 1) != (wrap64 (Go.bits .and .u8 (ji8) 1))) = true := bne_iff_ne.mpr c9
        have H' := Aside0.mk H
        clear H
        have p223 : 0 ≤ (x4_1 : Int) := of_decide_eq_true (by first | (with_reducible assumption) | assumption)
        have q223 : x4_1 < (l0.length : Int) := of_decide_eq_true (by first | (with_reducible assumption) | assumption)
        obtain ⟨ad223, e223, hx223_0⟩ := Kd.at_int HR0.out x4_1 p223 q223
        cases e223
        replace p223 := eq_true p223
        replace q223 := eq_true q223
        go_wp2
        go_roundg k2
        case measure => have := HK1.out; have := HK2.out; omega
        case rel => exact ⟨(Go.bits .xor .i64 (Go.bits .and .i64 (wrap64 (x3_2 * 2)) 65535) 4129), (wrap64 (x5_2 - 1)), (by first | rfl | (simp; done) | (simp [*]; done)), (by first | rfl | (simp; done) | (simp [*]; done)), H', ⟨by have := HK1.out; have := HK2.out; omega⟩, by repeat (first | exact Drawn0.refl _ | apply Drawn0.step)⟩
      ·
       rw [if_neg c3] at H
       have c3b0 : decide (0 ≤ x5_2) = false := decide_eq_false c3
       clear c3
       have H' := Aside0.mk H
       clear H
       go_wp2
       go_roundg k2
       case measure => have := HK1.out; have := HK2.out; omega
       case rel => exact ⟨(x3_2), (wrap64 (x4_1 + 1)), (by first | rfl | (simp; done) | (simp [*]; done)), (by first | rfl | (simp; done) | (simp [*]; done)), H', ⟨by have := HK1.out; have := HK2.out; omega⟩, by repeat (first | exact Drawn0.refl _ | apply Drawn0.step)⟩
   ·
    rw [if_neg c2] at H
    have c2b0 : decide (x4_1 < (l0.length : Int)) = false := decide_eq_false c2
    clear c2
    obtain rfl := Option.some.inj H
    go_wp2
    go_ret
    exact ⟨by first | rfl | (simp; done) | (simp [*]; done), by repeat (first | exact Drawn0.refl _ | apply Drawn0.step)⟩

/-! ### minecontrolref04_Write: function 13 -/
def minecontrolref04_Write.j0 : Nat → Bool → Int → Int → List Int → Option (List Int × Int)
 | 0, _, _, _, _ => none
 | k + 1, x23, x225000, x225001, x225002 => if x23 = true then (some (([] : List Int), 1)) else (if (x225002.length : Int) > 64 then (some (([] : List Int), 2)) else ((some (([126, ((x225002.length : Int)) % 256, (x225000) % 256, (x225001) % 256] : List Int) : List Int)).bind fun y225 => (if y225.length + x225002.length < 140737488355328 then ((some (y225 ++ x225002 : List Int)).bind fun y228 => (if 1 ≤ (y228.length : Int) then ((minecontrolref04_Check.f k (y228.drop 1)).bind fun t235 => ((some (([(t235 / 256) % 256, (t235) % 256] : List Int) : List Int)).bind fun y236 => (if y228.length + y236.length < 140737488355328 then (some ((y228 ++ y236), 0)) else (none)))) else (none))) else (none))))
def minecontrolref04_Write.f (k : Nat) (a0_0 : Int) (a0_1 : Int) (l0_2 : List Int) : Option (List Int × Int) := if a0_0 < 0 then (minecontrolref04_Write.j0 k true a0_0 a0_1 l0_2) else (if a0_0 > 255 then (minecontrolref04_Write.j0 k true a0_0 a0_1 l0_2) else (if a0_1 < 0 then (minecontrolref04_Write.j0 k true a0_0 a0_1 l0_2) else (minecontrolref04_Write.j0 k (decide (a0_1 > 255)) a0_0 a0_1 l0_2)))
theorem minecontrolref04_Write.mono_l : ∀ k, (∀ y0 y1 y2 y3, LeO (minecontrolref04_Write.j0 k y0 y1 y2 y3) (minecontrolref04_Write.j0 (k + 1) y0 y1 y2 y3))
 | 0 => fun _ _ _ _ r h => by simp [minecontrolref04_Write.j0] at h
 | k + 1 => by
  have ih0 := minecontrolref04_Write.mono_l k
  ·
   intro y0 y1 y2 y3
   unfold minecontrolref04_Write.j0
   repeat' first
   | (with_reducible exact ih0 _ _ _ _)
   | (with_reducible exact minecontrolref04_Check.mono _ _)
   | (with_reducible exact LeO.refl _)
   | (with_reducible exact LeO.none _)
   | (with_reducible refine LeO.ite ?_ ?_)
   | (with_reducible refine LeO.bind ?_ (fun _ => ?_))
   | exact ih0 _ _ _ _
   | exact minecontrolref04_Check.mono _ _
   | exact LeO.none _
   | refine LeO.ite ?_ ?_
   | refine LeO.bind ?_ (fun _ => ?_)
theorem minecontrolref04_Write.mono : ∀ a0 a1 a2 k, LeO (minecontrolref04_Write.f k a0 a1 a2) (minecontrolref04_Write.f (k + 1) a0 a1 a2) := by
 intro a0 a1 a2 k
 have ih0 := minecontrolref04_Write.mono_l k
 unfold minecontrolref04_Write.f
 repeat' first
   | (with_reducible exact ih0 _ _ _ _)
   | (with_reducible exact minecontrolref04_Check.mono _ _)
   | (with_reducible exact LeO.refl _)
   | (with_reducible exact LeO.none _)
   | (with_reducible refine LeO.ite ?_ ?_)
   | (with_reducible refine LeO.bind ?_ (fun _ => ?_))
   | exact ih0 _ _ _ _
   | exact minecontrolref04_Check.mono _ _
   | exact LeO.none _
   | refine LeO.ite ?_ ?_
   | refine LeO.bind ?_ (fun _ => ?_)
set_option maxHeartbeats 8000000 in
set_option maxRecDepth 100000 in
theorem minecontrolref04_Write.calls (k : Nat) (a0_0 : Int) (a0_1 : Int) (A0_2 : Option Addr) (c0_2 : Nat) (l0_2 : List Int) (r1 : List Int) (r2 : Int) (w : World) (hr0_2 : Kd.C (Kd.int .u8) w A0_2 l0_2.length l0_2) (hc0_2 : l0_2.length ≤ c0_2) (h : minecontrolref04_Write.f k a0_0 a0_1 l0_2 = some (r1, r2)) :
  Calls Try.prog 13 #[.agg #[.int .i64 a0_0, .int .i64 a0_1, .slice A0_2 l0_2.length c0_2]] w fun e w' => ∃ v0_ : Value, e = .returned (.tuple #[v0_, .int .i64 r2]) ∧ Kd.R (Kd.int .u8) 5 w' w.heap.size (fun _ => True) v0_ r1 ∧ Below w.heap.size w w' := by
 have hu24 := Try.underlying24
 have HR0_2 := Aside0.mk hr0_2
 have HC0_2 := Aside0.mk hc0_2
 clear hr0_2 hc0_2
 have HB := Aside0.mk (Below.refl w.heap.size w)
 have H : (if a0_0 < 0 then (minecontrolref04_Write.j0 k true a0_0 a0_1 l0_2) else (if a0_0 > 255 then (minecontrolref04_Write.j0 k true a0_0 a0_1 l0_2) else (if a0_1 < 0 then (minecontrolref04_Write.j0 k true a0_0 a0_1 l0_2) else (minecontrolref04_Write.j0 k (decide (a0_1 > 255)) a0_0 a0_1 l0_2)))) = some (r1, r2) := h
 clear h
 have HC2 := Aside0.mk H
 clear H
 go_enter Try.func13, Try.ntmps13
 go_upto_region 1 with (first | ((with_reducible refine gate_dst (N := 1) rfl ?_); refine box_event ?hg (N := 1) ?hd (cs := #[.int .i64 a0_0, .int .i64 a0_1, .slice A0_2 l0_2.length c0_2]) (t := 24) ?hr ?_; (case hd => rfl); (case hg => rfl); (case hr => first | (go_simp; done) | (go_simp; rfl)); intro gb224 hg w3 hbox hb; have n0_ := Aside0.mk (below_step (by repeat (first | (with_reducible first | exact HB.out | apply below_alloc | apply pw_below_drewN | apply below_drew1) | exact HB.out)) hb); have n1_ := Aside0.mk (hbox); have n2_ := Aside0.mk ((by rw [hg]; exact (below_size (by repeat (first | (with_reducible first | exact HB.out | apply below_alloc | apply pw_below_drewN | apply below_drew1) | exact HB.out))) : w.heap.size ≤ gb224)); have n3_ := Aside0.mk ((by rw [hg]; exact (below_size (by repeat (first | (with_reducible first | exact HB.out | apply below_alloc | apply pw_below_drewN | apply below_drew1) | exact HB.out))) : w.heap.size ≤ gb224)); clear HB; have HB := n0_; have BK224 := n1_; have GW224 := n2_; have GE224 := n3_; clear n0_ n1_ n2_ n3_; clear hb hbox hg))
 (try simp only [Act.put, List.setIfInBounds_toArray, List.set_cons_zero, List.set_cons_succ])
 go_cut [23] (fun v23 wc => ∃ (kq : Nat) (x23_1 : Bool), v23 = .bool x23_1 ∧ Aside0 (minecontrolref04_Write.j0 kq x23_1 a0_0 a0_1 l0_2 = some (r1, r2)) ∧ Aside0 (kq ≤ k) ∧ Aside0 (wc.heap[gb224]? = some (.cells #[.int .i64 a0_0, .int .i64 a0_1, (.slice A0_2 l0_2.length c0_2)] 24 (0, 0))) ∧ Aside0 (Below w.heap.size w wc))
 case first =>
  have H := HC2.out
  clear HC2
  by_cases c4 : a0_0 < 0
  ·
   rw [if_pos c4] at H
   have c4b0 : decide (a0_0 < 0) = true := decide_eq_true c4
   clear c4
   (first | rw [c4b0] | (simp only [i64_w, i32_w]; rw [c4b0]) | skip)
   have H' := Aside0.mk H
   clear H
   have hcz5_0 : w3.cell? ⟨gb224, 0, none⟩ = some (.int .i64 a0_0) := (blk_cell BK224.out 0).trans rfl
   have hcz5_1 : w3.cell? ⟨gb224, 1, none⟩ = some (.int .i64 a0_1) := (blk_cell BK224.out 1).trans rfl
   have hcz5_2 : w3.cell? ⟨gb224, 2, none⟩ = some (.slice A0_2 l0_2.length c0_2) := (blk_cell BK224.out 2).trans rfl
   have hfz5_0 := blk_frozen BK224.out 0
   have hfz5_1 := blk_frozen BK224.out 1
   have hfz5_2 := blk_frozen BK224.out 2
   go_wp2
   go_meet
   case rel => exact ⟨_, (true), (by first | rfl | (simp; done) | (simp [*]; done)), H', ⟨by first | omega | exact Nat.le_refl _⟩, ⟨by (with_reducible repeat (first | refine blk_drewN ?_ _ | refine blk_drew ?_ | refine blk_alloc ?_ _)); exact BK224.out⟩, ⟨by repeat (first | (with_reducible first | exact HB.out | apply below_alloc | apply pw_below_drewN | apply below_drew1 | refine below_set ?_ GE224.out) | exact HB.out)⟩⟩
  ·
   rw [if_neg c4] at H
   have c4b0 : decide (a0_0 < 0) = false := decide_eq_false c4
   clear c4
   (first | rw [c4b0] | (simp only [i64_w, i32_w]; rw [c4b0]) | skip)
   by_cases c6 : a0_0 > 255
   ·
    rw [if_pos c6] at H
    have c6b0 : decide (255 < a0_0) = true := decide_eq_true c6
    clear c6
    have H' := Aside0.mk H
    clear H
    have hcz7_0 : w3.cell? ⟨gb224, 0, none⟩ = some (.int .i64 a0_0) := (blk_cell BK224.out 0).trans rfl
    have hcz7_1 : w3.cell? ⟨gb224, 1, none⟩ = some (.int .i64 a0_1) := (blk_cell BK224.out 1).trans rfl
    have hcz7_2 : w3.cell? ⟨gb224, 2, none⟩ = some (.slice A0_2 l0_2.length c0_2) := (blk_cell BK224.out 2).trans rfl
    have hfz7_0 := blk_frozen BK224.out 0
    have hfz7_1 := blk_frozen BK224.out 1
    have hfz7_2 := blk_frozen BK224.out 2
    go_wp2
    go_meet
    case rel => exact ⟨_, (true), (by first | rfl | (simp; done) | (simp [*]; done)), H', ⟨by first | omega | exact Nat.le_refl _⟩, ⟨by (with_reducible repeat (first | refine blk_drewN ?_ _ | refine blk_drew ?_ | refine blk_alloc ?_ _)); exact BK224.out⟩, ⟨by repeat (first | (with_reducible first | exact HB.out | apply below_alloc | apply pw_below_drewN | apply below_drew1 | refine below_set ?_ GE224.out) | exact HB.out)⟩⟩
   ·
    rw [if_neg c6] at H
    have c6b0 : decide (255 < a0_0) = false := decide_eq_false c6
    clear c6
    by_cases c8 : a0_1 < 0
    ·
     rw [if_pos c8] at H
     have c8b0 : decide (a0_1 < 0) = true := decide_eq_true c8
     clear c8
     have H' := Aside0.mk H
     clear H
     have hcz9_0 : w3.cell? ⟨gb224, 0, none⟩ = some (.int .i64 a0_0) := (blk_cell BK224.out 0).trans rfl
     have hcz9_1 : w3.cell? ⟨gb224, 1, none⟩ = some (.int .i64 a0_1) := (blk_cell BK224.out 1).trans rfl
     have hcz9_2 : w3.cell? ⟨gb224, 2, none⟩ = some (.slice A0_2 l0_2.length c0_2) := (blk_cell BK224.out 2).trans rfl
     have hfz9_0 := blk_frozen BK224.out 0
     have hfz9_1 := blk_frozen BK224.out 1
     have hfz9_2 := blk_frozen BK224.out 2
     go_wp2
     go_meet
     case rel => exact ⟨_, (true), (by first | rfl | (simp; done) | (simp [*]; done)), H', ⟨by first | omega | exact Nat.le_refl _⟩, ⟨by (with_reducible repeat (first | refine blk_drewN ?_ _ | refine blk_drew ?_ | refine blk_alloc ?_ _)); exact BK224.out⟩, ⟨by repeat (first | (with_reducible first | exact HB.out | apply below_alloc | apply pw_below_drewN | apply below_drew1 | refine below_set ?_ GE224.out) | exact HB.out)⟩⟩
    ·
     rw [if_neg c8] at H
     have c8b0 : decide (a0_1 < 0) = false := decide_eq_false c8
     clear c8
     have H' := Aside0.mk H
     clear H
     have hcz10_0 : w3.cell? ⟨gb224, 0, none⟩ = some (.int .i64 a0_0) := (blk_cell BK224.out 0).trans rfl
     have hcz10_1 : w3.cell? ⟨gb224, 1, none⟩ = some (.int .i64 a0_1) := (blk_cell BK224.out 1).trans rfl
     have hcz10_2 : w3.cell? ⟨gb224, 2, none⟩ = some (.slice A0_2 l0_2.length c0_2) := (blk_cell BK224.out 2).trans rfl
     have hfz10_0 := blk_frozen BK224.out 0
     have hfz10_1 := blk_frozen BK224.out 1
     have hfz10_2 := blk_frozen BK224.out 2
     go_wp2
     go_meet
     case rel => exact ⟨_, (decide (a0_1 > 255)), (by first | rfl | (simp; done) | (simp [*]; done)), H', ⟨by first | omega | exact Nat.le_refl _⟩, ⟨by (with_reducible repeat (first | refine blk_drewN ?_ _ | refine blk_drew ?_ | refine blk_alloc ?_ _)); exact BK224.out⟩, ⟨by repeat (first | (with_reducible first | exact HB.out | apply below_alloc | apply pw_below_drewN | apply below_drew1 | refine below_set ?_ GE224.out) | exact HB.out)⟩⟩
 case rest =>
  clear HC2
  try clear c1; try clear p2; try clear c4; try clear c4b0; try clear c6; try clear c6b0; try clear c8; try clear c8b0; try clear hcz10_0; try clear hcz10_1; try clear hcz10_2; try clear hcz5_0; try clear hcz5_1; try clear hcz5_2; try clear hcz7_0; try clear hcz7_1; try clear hcz7_2; try clear hcz9_0; try clear hcz9_1
  try clear hcz9_2; try clear hfz10_0; try clear hfz10_1; try clear hfz10_2; try clear hfz5_0; try clear hfz5_1; try clear hfz5_2; try clear hfz7_0; try clear hfz7_1; try clear hfz7_2; try clear hfz9_0; try clear hfz9_1; try clear hfz9_2
  obtain ⟨kq, x23_1, rfl, HA, HJ1, BK224, HB⟩ := hcut
  cases kq with
  | zero => exact absurd HA.out (by simp [minecontrolref04_Write.j0])
  | succ kj1 =>
   have H := HA.out
   clear HA
   simp only [minecontrolref04_Write.j0] at H
   by_cases c11 : x23_1 = true
   ·
    subst c11
    have H1 : (some (([] : List Int), 1)) = some (r1, r2) := by rw [if_pos rfl] at H; exact H
    clear H
    have H := H1
    clear H1
    simp only [Option.some.injEq, Prod.mk.injEq] at H
    obtain ⟨rfl, rfl⟩ := H
    go_wp2
    go_ret2
    exact ⟨_, by first | rfl | (simp [errW_none, errW_some] <;> rfl) | (simp [*, errW_none, errW_some] <;> rfl), by first | exact Kd.R_nil _ _ _ _ _ | exact Kd.N_nil _ _ _ _ _ | exact Kd.V_nil _ _ _ _ _ | exact Kd.Q_nil _ _ _ _ _ | exact Kd.S_nil _ _ _ _ _, by repeat (first | (with_reducible first | exact HB.out | apply below_alloc | apply pw_below_drewN | apply below_drew1 | refine below_set ?_ GE224.out) | exact HB.out)⟩
   ·
    replace c11 := Bool.eq_false_iff.mpr c11
    subst c11
    have H1 : (if (l0_2.length : Int) > 64 then (some (([] : List Int), 2)) else ((some (([126, ((l0_2.length : Int)) % 256, (a0_0) % 256, (a0_1) % 256] : List Int) : List Int)).bind fun y225 => (if y225.length + l0_2.length < 140737488355328 then ((some (y225 ++ l0_2 : List Int)).bind fun y228 => (if 1 ≤ (y228.length : Int) then ((minecontrolref04_Check.f kj1 (y228.drop 1)).bind fun t235 => ((some (([(t235 / 256) % 256, (t235) % 256] : List Int) : List Int)).bind fun y236 => (if y228.length + y236.length < 140737488355328 then (some ((y228 ++ y236), 0)) else (none)))) else (none))) else (none)))) = some (r1, r2) := by rw [if_neg (show ¬ (false = true) by decide)] at H; exact H
    clear H
    have H := H1
    clear H1
    by_cases c12 : (l0_2.length : Int) > 64
    ·
     rw [if_pos c12] at H
     have c12b0 : decide (64 < (l0_2.length : Int)) = true := decide_eq_true c12
     have c12b1 : decide (64 < l0_2.length) = true := decide_eq_true (by omega)
     clear c12
     simp only [Option.some.injEq, Prod.mk.injEq] at H
     obtain ⟨rfl, rfl⟩ := H
     have hcz13_0 : wc.cell? ⟨gb224, 0, none⟩ = some (.int .i64 a0_0) := (blk_cell BK224.out 0).trans rfl
     have hcz13_1 : wc.cell? ⟨gb224, 1, none⟩ = some (.int .i64 a0_1) := (blk_cell BK224.out 1).trans rfl
     have hcz13_2 : wc.cell? ⟨gb224, 2, none⟩ = some (.slice A0_2 l0_2.length c0_2) := (blk_cell BK224.out 2).trans rfl
     have hfz13_0 := blk_frozen BK224.out 0
     have hfz13_1 := blk_frozen BK224.out 1
     have hfz13_2 := blk_frozen BK224.out 2
     go_wp2
     go_ret2
     exact ⟨_, by first | rfl | (simp [errW_none, errW_some] <;> rfl) | (simp [*, errW_none, errW_some] <;> rfl), by first | exact Kd.R_nil _ _ _ _ _ | exact Kd.N_nil _ _ _ _ _ | exact Kd.V_nil _ _ _ _ _ | exact Kd.Q_nil _ _ _ _ _ | exact Kd.S_nil _ _ _ _ _, by repeat (first | (with_reducible first | exact HB.out | apply below_alloc | apply pw_below_drewN | apply below_drew1 | refine below_set ?_ GE224.out) | exact HB.out)⟩
    ·
     rw [if_neg c12] at H
     have c12b0 : decide (64 < (l0_2.length : Int)) = false := decide_eq_false c12
     have c12b1 : decide (64 < l0_2.length) = false := decide_eq_false (by omega)
     clear c12
     obtain ⟨y225, hy225⟩ : ∃ y_ : List Int, y_ = (([126, ((l0_2.length : Int)) % 256, (a0_0) % 256, (a0_1) % 256] : List Int)) := ⟨_, rfl⟩
     replace H : (if y225.length + l0_2.length < 140737488355328 then ((some (y225 ++ l0_2 : List Int)).bind fun y228 => (if 1 ≤ (y228.length : Int) then ((minecontrolref04_Check.f kj1 (y228.drop 1)).bind fun t235 => ((some (([(t235 / 256) % 256, (t235) % 256] : List Int) : List Int)).bind fun y236 => (if y228.length + y236.length < 140737488355328 then (some ((y228 ++ y236), 0)) else (none)))) else (none))) else (none)) = some (r1, r2) := by first | (rw [hy225]; with_reducible exact H) | (have H2_ := (Option.bind_some _ _).symm.trans H; rw [hy225]; with_reducible exact H2_) | (have H2_ := (Option.bind_some _ _).symm.trans H; with_reducible exact H2_) | with_reducible exact H | (rw [hy225]; exact H) | exact H
     have Ny225 := Aside0.mk hy225
     clear hy225
     by_cases c14 : y225.length + l0_2.length < 140737488355328
     rotate_left
     ·
      rw [if_neg c14] at H
      exact absurd H (by simp)
     rw [if_pos c14] at H
     have LMc14 := Aside0.mk c14
     clear c14
     obtain ⟨y228, hy228⟩ : ∃ y_ : List Int, y_ = (y225 ++ l0_2) := ⟨_, rfl⟩
     replace H : (if 1 ≤ (y228.length : Int) then ((minecontrolref04_Check.f kj1 (y228.drop 1)).bind fun t235 => ((some (([(t235 / 256) % 256, (t235) % 256] : List Int) : List Int)).bind fun y236 => (if y228.length + y236.length < 140737488355328 then (some ((y228 ++ y236), 0)) else (none)))) else (none)) = some (r1, r2) := by first | (rw [hy228]; with_reducible exact H) | (have H2_ := (Option.bind_some _ _).symm.trans H; rw [hy228]; with_reducible exact H2_) | (have H2_ := (Option.bind_some _ _).symm.trans H; with_reducible exact H2_) | with_reducible exact H | (rw [hy228]; exact H) | exact H
     have Ny228 := Aside0.mk hy228
     clear hy228
     by_cases c15 : 1 ≤ (y228.length : Int)
     rotate_left
     ·
      rw [if_neg c15] at H
      exact absurd H (by simp)
     rw [if_pos c15] at H
     have c15b0 := eq_true c15
     have c15b1 : decide (1 ≤ (y228.length : Int)) = true := decide_eq_true c15
     clear c15
     obtain ⟨y231, hy231⟩ : ∃ y_ : List Int, y_ = (y228.drop 1) := ⟨_, rfl⟩
     replace H : ((minecontrolref04_Check.f kj1 y231).bind fun t235 => ((some (([(t235 / 256) % 256, (t235) % 256] : List Int) : List Int)).bind fun y236 => (if y228.length + y236.length < 140737488355328 then (some ((y228 ++ y236), 0)) else (none)))) = some (r1, r2) := by first | (rw [hy231]; with_reducible exact H) | (have H2_ := (Option.bind_some _ _).symm.trans H; rw [hy231]; with_reducible exact H2_) | (have H2_ := (Option.bind_some _ _).symm.trans H; with_reducible exact H2_) | with_reducible exact H | (rw [hy231]; exact H) | exact H
     have Ny231 := Aside0.mk hy231
     clear hy231
     replace H := Option.bind_eq_some_iff.mp H
     obtain ⟨t235, A160, H⟩ := H
     replace H : ((some (([(t235 / 256) % 256, (t235) % 256] : List Int) : List Int)).bind fun y236 => (if y228.length + y236.length < 140737488355328 then (some ((y228 ++ y236), 0)) else (none))) = some (r1, r2) := H
     have A16 := Aside0.mk A160
     clear A160
     obtain ⟨y236, hy236⟩ : ∃ y_ : List Int, y_ = (([(t235 / 256) % 256, (t235) % 256] : List Int)) := ⟨_, rfl⟩
     replace H : (if y228.length + y236.length < 140737488355328 then (some ((y228 ++ y236), 0)) else (none)) = some (r1, r2) := by first | (rw [hy236]; with_reducible exact H) | (have H2_ := (Option.bind_some _ _).symm.trans H; rw [hy236]; with_reducible exact H2_) | (have H2_ := (Option.bind_some _ _).symm.trans H; with_reducible exact H2_) | with_reducible exact H | (rw [hy236]; exact H) | exact H
     have Ny236 := Aside0.mk hy236
     clear hy236
     by_cases c17 : y228.length + y236.length < 140737488355328
     rotate_left
     ·
      rw [if_neg c17] at H
      exact absurd H (by simp)
     rw [if_pos c17] at H
     have LMc17 := Aside0.mk c17
     clear c17
     obtain ⟨y239, hy239⟩ : ∃ y_ : List Int, y_ = (y228 ++ y236) := ⟨_, rfl⟩
     replace H : (some (y239, 0)) = some (r1, r2) := by first | (rw [hy239]; with_reducible exact H) | (have H2_ := (Option.bind_some _ _).symm.trans H; rw [hy239]; with_reducible exact H2_) | (have H2_ := (Option.bind_some _ _).symm.trans H; with_reducible exact H2_) | with_reducible exact H | (rw [hy239]; exact H) | exact H
     have Ny239 := Aside0.mk hy239
     clear hy239
     simp only [Option.some.injEq, Prod.mk.injEq] at H
     obtain ⟨rfl, rfl⟩ := H
     have hcz18_0 : wc.cell? ⟨gb224, 0, none⟩ = some (.int .i64 a0_0) := (blk_cell BK224.out 0).trans rfl
     have hcz18_1 : wc.cell? ⟨gb224, 1, none⟩ = some (.int .i64 a0_1) := (blk_cell BK224.out 1).trans rfl
     have hcz18_2 : wc.cell? ⟨gb224, 2, none⟩ = some (.slice A0_2 l0_2.length c0_2) := (blk_cell BK224.out 2).trans rfl
     have hfz18_0 := blk_frozen BK224.out 0
     have hfz18_1 := blk_frozen BK224.out 1
     have hfz18_2 := blk_frozen BK224.out 2
     go_wp2_with (first | ((with_reducible refine gate_dst (N := 38) rfl ?_); refine Kd.R_lit (Kd.int .u8) _ 5 ?hg (N := 38) ?hd (xs := ([126, ((l0_2.length : Int)) % 256, (a0_0) % 256, (a0_1) % 256] : List Int)) (inner := [.int .u8 126, .int .u8 (((l0_2.length : Int)) % 256), .int .u8 ((a0_0) % 256), .int .u8 ((a0_1) % 256)]) (ok := fun _ => True) (okp := fun _ => True) ?hr ?hp (fun _ hk => hk) trivial (Below.refl _ _) (Nat.le_refl _) (by simp) ?_; (case hd => rfl); (case hg => rfl); (case hr => first | (go_simp; done) | (go_simp; rfl)); (case hp => exact (Reps.one (show Kd.M (Kd.int .u8) _ _ _ 126 [.int .u8 126] from rfl) (Reps.one (show Kd.M (Kd.int .u8) _ _ _ (((l0_2.length : Int)) % 256) [.int .u8 (((l0_2.length : Int)) % 256)] from rfl) (Reps.one (show Kd.M (Kd.int .u8) _ _ _ ((a0_0) % 256) [.int .u8 ((a0_0) % 256)] from rfl) (Reps.one (show Kd.M (Kd.int .u8) _ _ _ ((a0_1) % 256) [.int .u8 ((a0_1) % 256)] from rfl) (Reps.none _ _)))))); intro v226 w19 ho20 hb hg_ hnew_; clear hg_ hnew_; (first | rw [← Ny225.out] at ho20 | (simp only [Int.reduceToNat] at ho20; rw [← Ny225.out] at ho20)); have n0_ := Aside0.mk (Kd.R_lower ho20 (below_size (by repeat (first | (with_reducible first | exact HB.out | apply below_alloc | apply pw_below_drewN | apply below_drew1 | refine below_set ?_ GE224.out) | exact HB.out)))); have n1_ := Aside0.mk (blk_below (g := gb224) (o := .cells #[.int .i64 a0_0, .int .i64 a0_1, .slice A0_2 l0_2.length c0_2] 24 (0, 0)) (by (with_reducible repeat (first | refine blk_drewN ?_ _ | refine blk_drew ?_ | refine blk_alloc ?_ _)); exact BK224.out) hb); have n2_ := Aside0.mk (below_step (by repeat (first | (with_reducible first | exact HB.out | apply below_alloc | apply pw_below_drewN | apply below_drew1 | refine below_set ?_ GE224.out) | exact HB.out)) hb); clear BK224; clear HB; have HO227 := n0_; have BK224 := n1_; have HB := n2_; clear n0_ n1_ n2_; clear hb ho20; have hcz21_0 : w19.cell? ⟨gb224, 0, none⟩ = some (.int .i64 a0_0) := (blk_cell BK224.out 0).trans rfl; have hcz21_1 : w19.cell? ⟨gb224, 1, none⟩ = some (.int .i64 a0_1) := (blk_cell BK224.out 1).trans rfl; have hcz21_2 : w19.cell? ⟨gb224, 2, none⟩ = some (.slice A0_2 l0_2.length c0_2) := (blk_cell BK224.out 2).trans rfl; have hfz21_0 := blk_frozen BK224.out 0; have hfz21_1 := blk_frozen BK224.out 1; have hfz21_2 := blk_frozen BK224.out 2) | ((with_reducible refine gate_builtin (b := .append) (xs := #[.tmp 38, .tmp 40]) rfl ?_); at_builtin; refine Kd.R_append_rows (Kd.int .u8) (w0 := w) w.heap.size rfl (.tmp 38) (.tmp 40) 22 5 (.int .u8 0) 1 rfl Try.underlying22 info5 rfl (by decide) (by omega) v226 y225 l0_2 _ _ _ (fun _ => True) (fun _ => False) rfl rfl ?aO ?aR (fun _ _ h => h) (fun _ h => h.elim) ?aF ?aB ?aS ?aL ?_; (case aR => repeat (first | exact (Kd.C_below HR0_2.out HB.out) | (with_reducible refine Kd.C_alloc ?_ _) | (with_reducible refine Kd.C_drewN ?_ _) | (with_reducible refine Kd.C_drew ?_))); (case aB => exact (by repeat (first | (with_reducible first | exact HB.out | apply below_alloc | apply pw_below_drewN | apply below_drew1 | refine below_set ?_ GE224.out) | exact HB.out))); (case aF => exact (fun _ _ => trivial)); (case aO => exact (by (with_reducible repeat (first | apply Kd.R_alloc | apply Kd.R_drewN | apply Kd.R_drew)); exact HO227.out)); (case aS => exact (below_size (by repeat (first | (with_reducible first | exact HB.out | apply below_alloc | apply pw_below_drewN | apply below_drew1 | refine below_set ?_ GE224.out) | exact HB.out)))); (case aL => have := LMc14.out; omega); intro v229 w22 ho hb hg hat; rw [← Ny228.out] at ho; have n0_ := Aside0.mk (blk_grown (g := gb224) (o := .cells #[.int .i64 a0_0, .int .i64 a0_1, .slice A0_2 l0_2.length c0_2] 24 (0, 0)) (by (with_reducible repeat (first | refine blk_drewN ?_ _ | refine blk_drew ?_ | refine blk_alloc ?_ _)); exact BK224.out) hg (Kd.R_ne HO227.out BK224.out (by decide))); have n1_ := Aside0.mk (hb); have n2_ := Aside0.mk (ho); clear BK224; clear HB; clear HO227; have BK224 := n0_; have HB := n1_; have HO230 := n2_; clear n0_ n1_ n2_; clear ho hb hg hat; obtain ⟨Ao24, co24, eo24⟩ := Kd.R_slice HO230.out; subst eo24; have q23 : (1 : Int) ≤ ((y228.length : Int) : Int) := of_decide_eq_true (by first | (with_reducible assumption) | assumption); obtain ⟨i023, hi023, _, hsz23, _⟩ := info_parts info5; have hroom23 : y228.length ≤ co24 := (Kd.R_reads' HO230.out).2.1; have hC23 : Kd.C (Kd.int .u8) _ Ao24 y228.length y228 := (Kd.R_reads' HO230.out).2.2; have hcut23 := cut_from (P := Try.prog) 22 5 .i64 Try.underlying22 hi023 1 hsz23 Ao24 y228.length co24 1 (by omega) q23; have hr23 := Kd.C_drop (m := (1 : Int).toNat) (c := co24) hC23 (by omega) hroom23; obtain ⟨A23, hA23⟩ : ∃ A1, A1 = (if co24 = (1 : Int).toNat then Ao24 else (Ao24 : Option Addr).map (·.add ((1 : Int).toNat * 1))) := ⟨_, rfl⟩; obtain ⟨c23, hc23⟩ : ∃ c1, c1 = co24 - (1 : Int).toNat := ⟨_, rfl⟩; have hy23 : y231.length = y228.length - (1 : Int).toNat := (by rw [Ny231.out, List.length_drop] <;> omega); rw [show (y228).drop (1 : Int).toNat = y231 from Ny231.out.symm] at hr23; replace hr23 : Kd.C (Kd.int .u8) _ A23 y231.length y231 := (by rw [hA23]; exact hr23); rw [← hy23, ← hA23, ← hc23] at hcut23; have HR234 := Aside0.mk hr23; have HC234 := Aside0.mk (show y231.length ≤ c23 from by rw [hy23, hc23]; exact Nat.sub_le_sub_right hroom23 _); clear hr23 hC23 hroom23 hi023 hsz23 hc23; have KY23 := Aside0.mk hy23; have KA23 := Aside0.mk hA23; clear hy23 hA23; have KL23 := Aside0.mk (show 1 ≤ y228.length from by omega); replace q23 := eq_true q23) | ((with_reducible refine gate_callee (f := 15) rfl ?_); refine goesL_ (some 44) rfl rfl Try.func15 (by kernel_rfl) rfl #[.slice A23 y231.length c23] rfl (by (try simp only [List.map_toArray, List.map_cons, List.map_nil]); first | done | rfl | (simp only [List.length_drop, List.length_take]; rfl)) ?_; (with_reducible refine (minecontrolref04_Check.calls kj1 _ _ y231 t235 _ ?side1 ?side2 A16.out).mono ?_); (case side1 => repeat (first | exact (by repeat (first | (with_reducible exact HR234.out) | (with_reducible refine Kd.C_alloc ?_ _) | (with_reducible refine Kd.C_drewN ?_ _) | (with_reducible refine Kd.C_drew ?_) | exact HR234.out)) | (with_reducible refine Kd.C_alloc ?_ _) | (with_reducible refine Kd.C_drewN ?_ _) | (with_reducible refine Kd.C_drew ?_))); (case side2 => exact HC234.out); rintro e w' ⟨rfl, ⟨nd, rfl⟩⟩; refine ⟨_, rfl, ?_⟩) | ((with_reducible refine gate_dst (N := 51) rfl ?_); refine Kd.R_lit (Kd.int .u8) _ 5 ?hg (N := 51) ?hd (xs := ([(t235 / 256) % 256, (t235) % 256] : List Int)) (inner := [.int .u8 ((t235 / 256) % 256), .int .u8 ((t235) % 256)]) (ok := fun _ => True) (okp := fun _ => True) ?hr ?hp (fun _ hk => hk) trivial (Below.refl _ _) (Nat.le_refl _) (by simp) ?_; (case hd => rfl); (case hg => rfl); (case hr => first | (go_simp; done) | (go_simp; rfl)); (case hp => exact (Reps.one (show Kd.M (Kd.int .u8) _ _ _ ((t235 / 256) % 256) [.int .u8 ((t235 / 256) % 256)] from rfl) (Reps.one (show Kd.M (Kd.int .u8) _ _ _ ((t235) % 256) [.int .u8 ((t235) % 256)] from rfl) (Reps.none _ _)))); intro v237 w25 ho26 hb hg_ hnew_; clear hg_ hnew_; (first | rw [← Ny236.out] at ho26 | (simp only [Int.reduceToNat] at ho26; rw [← Ny236.out] at ho26)); have n0_ := Aside0.mk (Kd.R_elder' (by (with_reducible repeat (first | apply Kd.R_alloc | apply Kd.R_drewN | apply Kd.R_drew)); exact HO230.out) (Kd.R_base ho26) hb); have n1_ := Aside0.mk (Kd.R_lower (Kd.R_new' ho26 (Kd.R_lt (by (with_reducible repeat (first | apply Kd.R_alloc | apply Kd.R_drewN | apply Kd.R_drew)); exact HO230.out))) (below_size (by repeat (first | (with_reducible first | exact HB.out | apply below_alloc | apply pw_below_drewN | apply below_drew1 | refine below_set ?_ GE224.out) | exact HB.out)))); have n2_ := Aside0.mk (blk_below (g := gb224) (o := .cells #[.int .i64 a0_0, .int .i64 a0_1, .slice A0_2 l0_2.length c0_2] 24 (0, 0)) (by (with_reducible repeat (first | refine blk_drewN ?_ _ | refine blk_drew ?_ | refine blk_alloc ?_ _)); exact BK224.out) hb); have n3_ := Aside0.mk (Kd.C_below (by repeat (first | (with_reducible exact HR234.out) | (with_reducible refine Kd.C_alloc ?_ _) | (with_reducible refine Kd.C_drewN ?_ _) | (with_reducible refine Kd.C_drew ?_) | exact HR234.out)) hb); have n4_ := Aside0.mk (below_step (by repeat (first | (with_reducible first | exact HB.out | apply below_alloc | apply pw_below_drewN | apply below_drew1 | refine below_set ?_ GE224.out) | exact HB.out)) hb); clear HO230; clear BK224; clear HR234; clear HB; have HO230 := n0_; have HO238 := n1_; have BK224 := n2_; have HR234 := n3_; have HB := n4_; clear n0_ n1_ n2_ n3_ n4_; clear hb ho26; obtain ⟨Ao28, co28, eo28⟩ := Kd.R_slice HO238.out; subst eo28) | ((with_reducible refine gate_builtin (b := .append) (xs := #[.tmp 45, .tmp 51]) rfl ?_); at_builtin; refine Kd.R_append_rows (Kd.int .u8) (w0 := w) w.heap.size rfl (.tmp 45) (.tmp 51) 22 5 (.int .u8 0) 1 rfl Try.underlying22 info5 rfl (by decide) (by omega) (.slice Ao24 y228.length co24) y228 y236 _ _ _ (fun k_ => some k_ ≠ (.slice Ao28 y236.length co28 : Value).ownBlock) (fun _ => False) rfl rfl ?aO ?aR (fun _ _ h => h) (fun _ h => h.elim) ?aF ?aB ?aS ?aL ?_; (case aR => repeat (first | exact (Kd.R_reads' HO238.out).2.2 | (with_reducible refine Kd.C_alloc ?_ _) | (with_reducible refine Kd.C_drewN ?_ _) | (with_reducible refine Kd.C_drew ?_))); (case aB => exact (by repeat (first | (with_reducible first | exact HB.out | apply below_alloc | apply pw_below_drewN | apply below_drew1 | refine below_set ?_ GE224.out) | exact HB.out))); (case aF => exact (fun k_ hk => Kd.fresh' (Kd.R_lt (by (with_reducible repeat (first | apply Kd.R_alloc | apply Kd.R_drewN | apply Kd.R_drew)); exact HO238.out)) k_ hk)); (case aO => exact (by (with_reducible repeat (first | apply Kd.R_alloc | apply Kd.R_drewN | apply Kd.R_drew)); exact Kd.R_mono HO230.out (fun _ hk => hk.2))); (case aS => exact (below_size (by repeat (first | (with_reducible first | exact HB.out | apply below_alloc | apply pw_below_drewN | apply below_drew1 | refine below_set ?_ GE224.out) | exact HB.out)))); (case aL => have := LMc17.out; omega); intro v240 w27 ho hb hg hat; rw [← Ny239.out] at ho; have n0_ := Aside0.mk (blk_grown (g := gb224) (o := .cells #[.int .i64 a0_0, .int .i64 a0_1, .slice A0_2 l0_2.length c0_2] 24 (0, 0)) (by (with_reducible repeat (first | refine blk_drewN ?_ _ | refine blk_drew ?_ | refine blk_alloc ?_ _)); exact BK224.out) hg (Kd.R_ne HO230.out BK224.out (by decide))); have n1_ := Aside0.mk (Kd.R_after (ok := (fun _ => True)) (by (with_reducible repeat (first | apply Kd.R_alloc | apply Kd.R_drewN | apply Kd.R_drew)); exact HO238.out) hg hat); have n2_ := Aside0.mk (hb); have n3_ := Aside0.mk (ho); clear BK224; clear HO238; clear HB; clear HO230; have BK224 := n0_; have HO238 := n1_; have HB := n2_; have HO241 := n3_; clear n0_ n1_ n2_ n3_; clear ho hb hg hat))
     go_ret2
     exact ⟨_, by first | rfl | (simp [errW_none, errW_some] <;> rfl) | (simp [*, errW_none, errW_some] <;> rfl), by (with_reducible repeat (first | apply Kd.R_alloc | apply Kd.R_drewN | apply Kd.R_drew)); exact Kd.R_mono HO241.out (fun _ hk => trivial), by repeat (first | (with_reducible first | exact HB.out | apply below_alloc | apply pw_below_drewN | apply below_drew1 | refine below_set ?_ GE224.out) | exact HB.out)⟩

end Go.Proofs.Ytacogcnckhgjbaa.PTer
