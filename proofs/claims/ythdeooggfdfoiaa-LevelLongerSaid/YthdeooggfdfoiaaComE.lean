/- Of two watches, one of which is told stricter or knows less: as long as it counts as exceeded wherever the other does, it still does behind one more step. -/
import Derived.Test.YthdeooggfdfoiaaComD
namespace Go.Proofs.Ythdeooggfdfoiaa.Com
open Go.RowKit Go.Proofs.Ythdeooggfdfoiaa.PLev Go.Proofs.YthdeooggfdfoiaaW.PrintWords Go.Proofs.YthdeooggfdfoiaaW.PrintLast Go.Proofs.YthdeooggfdfoiaaW.PrintMore

/-- The second one is the stricter one. -/
structure Stricter (oa : Bool) (sa : Int) (ob : Bool) (sb : Int) : Prop where
  o : oa = true → ob = true
  s : ob = true → sb ≠ -1 → oa = true → sa ≠ -1 ∧ sa ≤ sb

theorem stp_mono {cut clear delay lo hi cut' clear' delay' lo' hi' t sa la sb lb : Int} {oa ob : Bool} (hlow : low lo' hi' cut' = true → low lo hi cut = true)
    (hcl : low lo' hi' cut' = true → hi' ≤ clear' → hi ≤ clear) (hd : delay ≤ delay') (hd0 : 0 ≤ delay) (ha : Wt oa sa la) (hb : Wt ob sb lb) (hla : la ≤ t) (h : Stricter oa sa ob sb) :
    Stricter (stp cut clear delay oa sa lo hi t).1 (stp cut clear delay oa sa lo hi t).2.1 (stp cut' clear' delay' ob sb lo' hi' t).1 (stp cut' clear' delay' ob sb lo' hi' t).2.1 := by
  have := ha.l0; have := ha.s0; have := ha.s1; have := hb.l0; have := hb.s0; have := hb.s1
  obtain ⟨h1, h2⟩ := h
  unfold stp
  generalize low lo hi cut = p at *
  generalize low lo' hi' cut' = q at *
  constructor
  · cases p <;> cases q <;> cases oa <;> cases ob <;> simp_all <;> (repeat' split) <;> simp_all <;> omega
  · cases p <;> cases q <;> cases oa <;> cases ob <;> simp_all <;> (repeat' split) <;> simp_all <;> omega

end Go.Proofs.Ythdeooggfdfoiaa.Com
