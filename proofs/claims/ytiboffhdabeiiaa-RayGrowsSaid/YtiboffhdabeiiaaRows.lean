/-
  No cell of these rows narrows 'for every input' (looked for: loops, veiled, ifaces, maps, wideKeys, modest, calm, conditions, laid).
  DERIVED. THE GIVEN ROWS OF THIS SEAT. 18 by the template 'for every input the law returns true; each argument reads behind the call as it read before'; 0 by the template 'total and deterministic' (their statements: YtiboffhdabeiiaaTotals.lean).
  GIVEN WITH THE SEED: the statements are not yours to turn. If you find one false, say at which input.
  Laid BY PROGRAM, IN A SANDBOX (cutbox-rows.mjs): the forced cells as the released guide's own fill.sh prints them over the translation 5c23b1b1f46bce7c… (all of the seat's roots in one cut). By AI agents, Wed Nov 11 2026. No macro, syntax, notation, axiom, sorry.
-/
import Derived.Test.YtiboffhdabeiiaaChecked
import GoSem.Claim
import GoSem.ClaimJoined
import GoSem.ClaimMapViews
import Derived.JoinedTies
import Derived.KernelRfl
namespace Go.Proofs.Ytiboffhdabeiiaa
/- THE CELL 'sum', in the pinned program and in every row, IS THE sha256 OF THE DUMP (.gsa) THAT YtiboffhdabeiiaaProg.lean LOADS. Nothing in Lean hashes anything: it is a label: what it is worth is what the hold of that sum in a sandbox is worth. -/
noncomputable def Try.pinned : Pinned := { name := "ytiboffhdabeiiaa", sum := "5c23b1b1f46bce7cf287703adc212a55f5864c964a55b36aa8bc8da1657488f6", checked := Try.checked }
namespace Rows
def none {H : Type} : Left H := { results := [], args := [] }

/-- 'quittancelaw03.InstAsks': WHATEVER THE INPUT: true; the input reads as it did. -/
def instAsksSpec : ChangeSpec := { name := "instAsks", fn := fun _ => fun
  | [d1, d2, d3, d4, d5, d6, d7] => { results := [.lit (.bool true)], args := [d1, d2, d3, d4, d5, d6, d7] }
  | _ => none }
def instAsksRow : OpenClaim := { program := "ytiboffhdabeiiaa", sum := "5c23b1b1f46bce7cf287703adc212a55f5864c964a55b36aa8bc8da1657488f6", func := "quittance/quittancelaw03.InstAsks", spec := "instAsks", unfollowed := true, recurses := true, apart := false }
def InstAsksSaid : Prop := instAsksRow.holds Try.pinned (OpenSpec.ofChange instAsksSpec)

/-- ITS FALSE NEIGHBOUR: 'it returns false'. Refute it at one input. -/
def instAsksWrong : ChangeSpec := { name := "instAsks", fn := fun _ => fun
  | [d1, d2, d3, d4, d5, d6, d7] => { results := [.lit (.bool false)], args := [d1, d2, d3, d4, d5, d6, d7] }
  | _ => none }
def InstAsksWrongFalsely : Prop := instAsksRow.holds Try.pinned (OpenSpec.ofChange instAsksWrong)

/-- 'quittancelaw12.RayBegins': WHATEVER THE INPUT: true; the input reads as it did. -/
def rayBeginsSpec : ChangeSpec := { name := "rayBegins", fn := fun _ => fun
  | [d1, d2, d3] => { results := [.lit (.bool true)], args := [d1, d2, d3] }
  | _ => none }
def rayBeginsRow : OpenClaim := { program := "ytiboffhdabeiiaa", sum := "5c23b1b1f46bce7cf287703adc212a55f5864c964a55b36aa8bc8da1657488f6", func := "quittance/quittancelaw12.RayBegins", spec := "rayBegins", inPlace := ["math/bits.Add64"], unfollowed := true, recurses := true, apart := false }
def RayBeginsSaid : Prop := rayBeginsRow.holds Try.pinned (OpenSpec.ofChange rayBeginsSpec)

/-- ITS FALSE NEIGHBOUR: 'it returns false'. Refute it at one input. -/
def rayBeginsWrong : ChangeSpec := { name := "rayBegins", fn := fun _ => fun
  | [d1, d2, d3] => { results := [.lit (.bool false)], args := [d1, d2, d3] }
  | _ => none }
def RayBeginsWrongFalsely : Prop := rayBeginsRow.holds Try.pinned (OpenSpec.ofChange rayBeginsWrong)

/-- 'quittancelaw10.CutSides': WHATEVER THE INPUT: true; the input reads as it did. -/
def cutSidesSpec : ChangeSpec := { name := "cutSides", fn := fun _ => fun
  | [d1, d2, d3] => { results := [.lit (.bool true)], args := [d1, d2, d3] }
  | _ => none }
def cutSidesRow : OpenClaim := { program := "ytiboffhdabeiiaa", sum := "5c23b1b1f46bce7cf287703adc212a55f5864c964a55b36aa8bc8da1657488f6", func := "quittance/quittancelaw10.CutSides", spec := "cutSides", inPlace := ["math/bits.Sub64", "math/bits.Add64"], unfollowed := true, recurses := true, apart := false }
def CutSidesSaid : Prop := cutSidesRow.holds Try.pinned (OpenSpec.ofChange cutSidesSpec)

/-- ITS FALSE NEIGHBOUR: 'it returns false'. Refute it at one input. -/
def cutSidesWrong : ChangeSpec := { name := "cutSides", fn := fun _ => fun
  | [d1, d2, d3] => { results := [.lit (.bool false)], args := [d1, d2, d3] }
  | _ => none }
def CutSidesWrongFalsely : Prop := cutSidesRow.holds Try.pinned (OpenSpec.ofChange cutSidesWrong)

/-- 'quittancelaw12.RayNothing': WHATEVER THE INPUT: true; the input reads as it did. -/
def rayNothingSpec : ChangeSpec := { name := "rayNothing", fn := fun _ => fun
  | [d1, d2, d3, d4, d5] => { results := [.lit (.bool true)], args := [d1, d2, d3, d4, d5] }
  | _ => none }
def rayNothingRow : OpenClaim := { program := "ytiboffhdabeiiaa", sum := "5c23b1b1f46bce7cf287703adc212a55f5864c964a55b36aa8bc8da1657488f6", func := "quittance/quittancelaw12.RayNothing", spec := "rayNothing", inPlace := ["math/bits.Add64"], unfollowed := true, recurses := true, apart := false }
def RayNothingSaid : Prop := rayNothingRow.holds Try.pinned (OpenSpec.ofChange rayNothingSpec)

/-- ITS FALSE NEIGHBOUR: 'it returns false'. Refute it at one input. -/
def rayNothingWrong : ChangeSpec := { name := "rayNothing", fn := fun _ => fun
  | [d1, d2, d3, d4, d5] => { results := [.lit (.bool false)], args := [d1, d2, d3, d4, d5] }
  | _ => none }
def RayNothingWrongFalsely : Prop := rayNothingRow.holds Try.pinned (OpenSpec.ofChange rayNothingWrong)

/-- 'quittancelaw09.FlowFits': WHATEVER THE INPUT: true; the input reads as it did. -/
def flowFitsSpec : ChangeSpec := { name := "flowFits", fn := fun _ => fun
  | [d1, d2, d3] => { results := [.lit (.bool true)], args := [d1, d2, d3] }
  | _ => none }
def flowFitsRow : OpenClaim := { program := "ytiboffhdabeiiaa", sum := "5c23b1b1f46bce7cf287703adc212a55f5864c964a55b36aa8bc8da1657488f6", func := "quittance/quittancelaw09.FlowFits", spec := "flowFits", inPlace := ["math/bits.Add64", "math/bits.Sub64"], unfollowed := true, recurses := true, apart := false }
def FlowFitsSaid : Prop := flowFitsRow.holds Try.pinned (OpenSpec.ofChange flowFitsSpec)

/-- ITS FALSE NEIGHBOUR: 'it returns false'. Refute it at one input. -/
def flowFitsWrong : ChangeSpec := { name := "flowFits", fn := fun _ => fun
  | [d1, d2, d3] => { results := [.lit (.bool false)], args := [d1, d2, d3] }
  | _ => none }
def FlowFitsWrongFalsely : Prop := flowFitsRow.holds Try.pinned (OpenSpec.ofChange flowFitsWrong)

/-- 'quittancelaw09.FlowRound': WHATEVER THE INPUT: true; the input reads as it did. -/
def flowRoundSpec : ChangeSpec := { name := "flowRound", fn := fun _ => fun
  | [d1, d2, d3, d4, d5] => { results := [.lit (.bool true)], args := [d1, d2, d3, d4, d5] }
  | _ => none }
def flowRoundRow : OpenClaim := { program := "ytiboffhdabeiiaa", sum := "5c23b1b1f46bce7cf287703adc212a55f5864c964a55b36aa8bc8da1657488f6", func := "quittance/quittancelaw09.FlowRound", spec := "flowRound", inPlace := ["math/bits.Add64", "math/bits.Sub64"], unfollowed := true, recurses := true, apart := false }
def FlowRoundSaid : Prop := flowRoundRow.holds Try.pinned (OpenSpec.ofChange flowRoundSpec)

/-- ITS FALSE NEIGHBOUR: 'it returns false'. Refute it at one input. -/
def flowRoundWrong : ChangeSpec := { name := "flowRound", fn := fun _ => fun
  | [d1, d2, d3, d4, d5] => { results := [.lit (.bool false)], args := [d1, d2, d3, d4, d5] }
  | _ => none }
def FlowRoundWrongFalsely : Prop := flowRoundRow.holds Try.pinned (OpenSpec.ofChange flowRoundWrong)

/-- 'quittancelaw09.FlowMade': WHATEVER THE INPUT: true; the input reads as it did. -/
def flowMadeSpec : ChangeSpec := { name := "flowMade", fn := fun _ => fun
  | [d1, d2, d3] => { results := [.lit (.bool true)], args := [d1, d2, d3] }
  | _ => none }
def flowMadeRow : OpenClaim := { program := "ytiboffhdabeiiaa", sum := "5c23b1b1f46bce7cf287703adc212a55f5864c964a55b36aa8bc8da1657488f6", func := "quittance/quittancelaw09.FlowMade", spec := "flowMade", inPlace := ["math/bits.Add64", "math/bits.Sub64"], unfollowed := true, recurses := true, apart := false }
def FlowMadeSaid : Prop := flowMadeRow.holds Try.pinned (OpenSpec.ofChange flowMadeSpec)

/-- ITS FALSE NEIGHBOUR: 'it returns false'. Refute it at one input. -/
def flowMadeWrong : ChangeSpec := { name := "flowMade", fn := fun _ => fun
  | [d1, d2, d3] => { results := [.lit (.bool false)], args := [d1, d2, d3] }
  | _ => none }
def FlowMadeWrongFalsely : Prop := flowMadeRow.holds Try.pinned (OpenSpec.ofChange flowMadeWrong)

/-- 'quittancelaw10.CutSafe': WHATEVER THE INPUT: true; the input reads as it did. -/
def cutSafeSpec : ChangeSpec := { name := "cutSafe", fn := fun _ => fun
  | [d1, d2, d3, d4, d5] => { results := [.lit (.bool true)], args := [d1, d2, d3, d4, d5] }
  | _ => none }
def cutSafeRow : OpenClaim := { program := "ytiboffhdabeiiaa", sum := "5c23b1b1f46bce7cf287703adc212a55f5864c964a55b36aa8bc8da1657488f6", func := "quittance/quittancelaw10.CutSafe", spec := "cutSafe", inPlace := ["math/bits.Sub64", "math/bits.Add64"], unfollowed := true, recurses := true, apart := false }
def CutSafeSaid : Prop := cutSafeRow.holds Try.pinned (OpenSpec.ofChange cutSafeSpec)

/-- ITS FALSE NEIGHBOUR: 'it returns false'. Refute it at one input. -/
def cutSafeWrong : ChangeSpec := { name := "cutSafe", fn := fun _ => fun
  | [d1, d2, d3, d4, d5] => { results := [.lit (.bool false)], args := [d1, d2, d3, d4, d5] }
  | _ => none }
def CutSafeWrongFalsely : Prop := cutSafeRow.holds Try.pinned (OpenSpec.ofChange cutSafeWrong)

/-- 'quittancelaw11.PriceRound': WHATEVER THE INPUT: true; the input reads as it did. -/
def priceRoundSpec : ChangeSpec := { name := "priceRound", fn := fun _ => fun
  | [d1, d2, d3] => { results := [.lit (.bool true)], args := [d1, d2, d3] }
  | _ => none }
def priceRoundRow : OpenClaim := { program := "ytiboffhdabeiiaa", sum := "5c23b1b1f46bce7cf287703adc212a55f5864c964a55b36aa8bc8da1657488f6", func := "quittance/quittancelaw11.PriceRound", spec := "priceRound", inPlace := ["math/bits.Add64", "math/bits.Sub64"], unfollowed := true, recurses := true, apart := false }
def PriceRoundSaid : Prop := priceRoundRow.holds Try.pinned (OpenSpec.ofChange priceRoundSpec)

/-- ITS FALSE NEIGHBOUR: 'it returns false'. Refute it at one input. -/
def priceRoundWrong : ChangeSpec := { name := "priceRound", fn := fun _ => fun
  | [d1, d2, d3] => { results := [.lit (.bool false)], args := [d1, d2, d3] }
  | _ => none }
def PriceRoundWrongFalsely : Prop := priceRoundRow.holds Try.pinned (OpenSpec.ofChange priceRoundWrong)

/-- 'quittancelaw11.PriceBound': WHATEVER THE INPUT: true; the input reads as it did. -/
def priceBoundSpec : ChangeSpec := { name := "priceBound", fn := fun _ => fun
  | [d1, d2, d3, d4, d5] => { results := [.lit (.bool true)], args := [d1, d2, d3, d4, d5] }
  | _ => none }
def priceBoundRow : OpenClaim := { program := "ytiboffhdabeiiaa", sum := "5c23b1b1f46bce7cf287703adc212a55f5864c964a55b36aa8bc8da1657488f6", func := "quittance/quittancelaw11.PriceBound", spec := "priceBound", inPlace := ["math/bits.Add64", "math/bits.Sub64"], unfollowed := true, recurses := true, apart := false }
def PriceBoundSaid : Prop := priceBoundRow.holds Try.pinned (OpenSpec.ofChange priceBoundSpec)

/-- ITS FALSE NEIGHBOUR: 'it returns false'. Refute it at one input. -/
def priceBoundWrong : ChangeSpec := { name := "priceBound", fn := fun _ => fun
  | [d1, d2, d3, d4, d5] => { results := [.lit (.bool false)], args := [d1, d2, d3, d4, d5] }
  | _ => none }
def PriceBoundWrongFalsely : Prop := priceBoundRow.holds Try.pinned (OpenSpec.ofChange priceBoundWrong)

/-- 'quittancelaw11.PriceBest': WHATEVER THE INPUT: true; the input reads as it did. -/
def priceBestSpec : ChangeSpec := { name := "priceBest", fn := fun _ => fun
  | [d1, d2, d3, d4, d5] => { results := [.lit (.bool true)], args := [d1, d2, d3, d4, d5] }
  | _ => none }
def priceBestRow : OpenClaim := { program := "ytiboffhdabeiiaa", sum := "5c23b1b1f46bce7cf287703adc212a55f5864c964a55b36aa8bc8da1657488f6", func := "quittance/quittancelaw11.PriceBest", spec := "priceBest", inPlace := ["math/bits.Sub64", "math/bits.Add64"], unfollowed := true, recurses := true, apart := false }
def PriceBestSaid : Prop := priceBestRow.holds Try.pinned (OpenSpec.ofChange priceBestSpec)

/-- ITS FALSE NEIGHBOUR: 'it returns false'. Refute it at one input. -/
def priceBestWrong : ChangeSpec := { name := "priceBest", fn := fun _ => fun
  | [d1, d2, d3, d4, d5] => { results := [.lit (.bool false)], args := [d1, d2, d3, d4, d5] }
  | _ => none }
def PriceBestWrongFalsely : Prop := priceBestRow.holds Try.pinned (OpenSpec.ofChange priceBestWrong)

/-- 'quittancelaw11.PriceAsks': WHATEVER THE INPUT: true; the input reads as it did. -/
def priceAsksSpec : ChangeSpec := { name := "priceAsks", fn := fun _ => fun
  | [d1, d2, d3, d4, d5, d6, d7, d8] => { results := [.lit (.bool true)], args := [d1, d2, d3, d4, d5, d6, d7, d8] }
  | _ => none }
def priceAsksRow : OpenClaim := { program := "ytiboffhdabeiiaa", sum := "5c23b1b1f46bce7cf287703adc212a55f5864c964a55b36aa8bc8da1657488f6", func := "quittance/quittancelaw11.PriceAsks", spec := "priceAsks", inPlace := ["math/bits.Add64", "math/bits.Sub64"], unfollowed := true, recurses := true, apart := false }
def PriceAsksSaid : Prop := priceAsksRow.holds Try.pinned (OpenSpec.ofChange priceAsksSpec)

/-- ITS FALSE NEIGHBOUR: 'it returns false'. Refute it at one input. -/
def priceAsksWrong : ChangeSpec := { name := "priceAsks", fn := fun _ => fun
  | [d1, d2, d3, d4, d5, d6, d7, d8] => { results := [.lit (.bool false)], args := [d1, d2, d3, d4, d5, d6, d7, d8] }
  | _ => none }
def PriceAsksWrongFalsely : Prop := priceAsksRow.holds Try.pinned (OpenSpec.ofChange priceAsksWrong)

/-- 'quittancelaw11.PriceShift': WHATEVER THE INPUT: true; the input reads as it did. -/
def priceShiftSpec : ChangeSpec := { name := "priceShift", fn := fun _ => fun
  | [d1, d2, d3, d4, d5] => { results := [.lit (.bool true)], args := [d1, d2, d3, d4, d5] }
  | _ => none }
def priceShiftRow : OpenClaim := { program := "ytiboffhdabeiiaa", sum := "5c23b1b1f46bce7cf287703adc212a55f5864c964a55b36aa8bc8da1657488f6", func := "quittance/quittancelaw11.PriceShift", spec := "priceShift", inPlace := ["math/bits.Add64", "math/bits.Sub64"], unfollowed := true, recurses := true, apart := false }
def PriceShiftSaid : Prop := priceShiftRow.holds Try.pinned (OpenSpec.ofChange priceShiftSpec)

/-- ITS FALSE NEIGHBOUR: 'it returns false'. Refute it at one input. -/
def priceShiftWrong : ChangeSpec := { name := "priceShift", fn := fun _ => fun
  | [d1, d2, d3, d4, d5] => { results := [.lit (.bool false)], args := [d1, d2, d3, d4, d5] }
  | _ => none }
def PriceShiftWrongFalsely : Prop := priceShiftRow.holds Try.pinned (OpenSpec.ofChange priceShiftWrong)

/-- 'quittancelaw12.RayGrows': WHATEVER THE INPUT: true; the input reads as it did. -/
def rayGrowsSpec : ChangeSpec := { name := "rayGrows", fn := fun _ => fun
  | [d1, d2, d3] => { results := [.lit (.bool true)], args := [d1, d2, d3] }
  | _ => none }
def rayGrowsRow : OpenClaim := { program := "ytiboffhdabeiiaa", sum := "5c23b1b1f46bce7cf287703adc212a55f5864c964a55b36aa8bc8da1657488f6", func := "quittance/quittancelaw12.RayGrows", spec := "rayGrows", inPlace := ["math/bits.Add64", "math/bits.Sub64"], unfollowed := true, recurses := true, apart := false }
def RayGrowsSaid : Prop := rayGrowsRow.holds Try.pinned (OpenSpec.ofChange rayGrowsSpec)

/-- ITS FALSE NEIGHBOUR: 'it returns false'. Refute it at one input. -/
def rayGrowsWrong : ChangeSpec := { name := "rayGrows", fn := fun _ => fun
  | [d1, d2, d3] => { results := [.lit (.bool false)], args := [d1, d2, d3] }
  | _ => none }
def RayGrowsWrongFalsely : Prop := rayGrowsRow.holds Try.pinned (OpenSpec.ofChange rayGrowsWrong)

/-- 'quittancelaw13.CertOne': WHATEVER THE INPUT: true; the input reads as it did. -/
def certOneSpec : ChangeSpec := { name := "certOne", fn := fun _ => fun
  | [d1, d2, d3, d4, d5, d6, d7, d8] => { results := [.lit (.bool true)], args := [d1, d2, d3, d4, d5, d6, d7, d8] }
  | _ => none }
def certOneRow : OpenClaim := { program := "ytiboffhdabeiiaa", sum := "5c23b1b1f46bce7cf287703adc212a55f5864c964a55b36aa8bc8da1657488f6", func := "quittance/quittancelaw13.CertOne", spec := "certOne", inPlace := ["math/bits.Add64", "math/bits.Sub64"], unfollowed := true, recurses := true, apart := false }
def CertOneSaid : Prop := certOneRow.holds Try.pinned (OpenSpec.ofChange certOneSpec)

/-- ITS FALSE NEIGHBOUR: 'it returns false'. Refute it at one input. -/
def certOneWrong : ChangeSpec := { name := "certOne", fn := fun _ => fun
  | [d1, d2, d3, d4, d5, d6, d7, d8] => { results := [.lit (.bool false)], args := [d1, d2, d3, d4, d5, d6, d7, d8] }
  | _ => none }
def CertOneWrongFalsely : Prop := certOneRow.holds Try.pinned (OpenSpec.ofChange certOneWrong)

/-- 'quittancelaw13.CertLong': WHATEVER THE INPUT: true; the input reads as it did. -/
def certLongSpec : ChangeSpec := { name := "certLong", fn := fun _ => fun
  | [d1, d2, d3, d4, d5] => { results := [.lit (.bool true)], args := [d1, d2, d3, d4, d5] }
  | _ => none }
def certLongRow : OpenClaim := { program := "ytiboffhdabeiiaa", sum := "5c23b1b1f46bce7cf287703adc212a55f5864c964a55b36aa8bc8da1657488f6", func := "quittance/quittancelaw13.CertLong", spec := "certLong", inPlace := ["math/bits.Add64", "math/bits.Sub64"], unfollowed := true, recurses := true, apart := false }
def CertLongSaid : Prop := certLongRow.holds Try.pinned (OpenSpec.ofChange certLongSpec)

/-- ITS FALSE NEIGHBOUR: 'it returns false'. Refute it at one input. -/
def certLongWrong : ChangeSpec := { name := "certLong", fn := fun _ => fun
  | [d1, d2, d3, d4, d5] => { results := [.lit (.bool false)], args := [d1, d2, d3, d4, d5] }
  | _ => none }
def CertLongWrongFalsely : Prop := certLongRow.holds Try.pinned (OpenSpec.ofChange certLongWrong)

/-- 'quittancelaw13.CertRay': WHATEVER THE INPUT: true; the input reads as it did. -/
def certRaySpec : ChangeSpec := { name := "certRay", fn := fun _ => fun
  | [d1, d2, d3] => { results := [.lit (.bool true)], args := [d1, d2, d3] }
  | _ => none }
def certRayRow : OpenClaim := { program := "ytiboffhdabeiiaa", sum := "5c23b1b1f46bce7cf287703adc212a55f5864c964a55b36aa8bc8da1657488f6", func := "quittance/quittancelaw13.CertRay", spec := "certRay", inPlace := ["math/bits.Add64", "math/bits.Sub64"], unfollowed := true, recurses := true, apart := false }
def CertRaySaid : Prop := certRayRow.holds Try.pinned (OpenSpec.ofChange certRaySpec)

/-- ITS FALSE NEIGHBOUR: 'it returns false'. Refute it at one input. -/
def certRayWrong : ChangeSpec := { name := "certRay", fn := fun _ => fun
  | [d1, d2, d3] => { results := [.lit (.bool false)], args := [d1, d2, d3] }
  | _ => none }
def CertRayWrongFalsely : Prop := certRayRow.holds Try.pinned (OpenSpec.ofChange certRayWrong)

/-- 'quittancelaw13.CertMade': WHATEVER THE INPUT: true; the input reads as it did. -/
def certMadeSpec : ChangeSpec := { name := "certMade", fn := fun _ => fun
  | [d1, d2, d3, d4] => { results := [.lit (.bool true)], args := [d1, d2, d3, d4] }
  | _ => none }
def certMadeRow : OpenClaim := { program := "ytiboffhdabeiiaa", sum := "5c23b1b1f46bce7cf287703adc212a55f5864c964a55b36aa8bc8da1657488f6", func := "quittance/quittancelaw13.CertMade", spec := "certMade", inPlace := ["math/bits.Sub64", "math/bits.Add64"], unfollowed := true, recurses := true, apart := false }
def CertMadeSaid : Prop := certMadeRow.holds Try.pinned (OpenSpec.ofChange certMadeSpec)

/-- ITS FALSE NEIGHBOUR: 'it returns false'. Refute it at one input. -/
def certMadeWrong : ChangeSpec := { name := "certMade", fn := fun _ => fun
  | [d1, d2, d3, d4] => { results := [.lit (.bool false)], args := [d1, d2, d3, d4] }
  | _ => none }
def CertMadeWrongFalsely : Prop := certMadeRow.holds Try.pinned (OpenSpec.ofChange certMadeWrong)

/- THE SECOND FORM. 'bulk': how many values and letters a reading holds, each counted each time it is reached (what is shared counts as often as it is met; a slice's spare places count too). A statement '..UptoSaid' is the law's where the arguments, and the package variables that the reading takes, are together of bulk at most 1048576: NARROWER than '..Said'. Prove '..Said' where nothing that the law and all that it calls make is longer than what came in: it says more and counts as full. Else prove '..UptoSaid'. A law counts once. -/
mutual
def uptoBulk {H : Type} : DataW H → Nat
  | .lit (.string bytes) => bytes.length + 1
  | .lit _ => 1
  | .nil => 1
  | .ptr d => uptoBulk d + 1
  | .slice elems spare => uptoBulkAll elems + uptoBulkAll spare + 1
  | .agg parts => uptoBulkAll parts + 1
  | .iface _ d => uptoBulk d + 1
  | .map entries => uptoBulkEntries entries + 1
  | .held _ => 1
def uptoBulkAll {H : Type} : List (DataW H) → Nat
  | [] => 0
  | d :: r => uptoBulk d + uptoBulkAll r
def uptoBulkEntries {H : Type} : List (Lit × DataW H) → Nat
  | [] => 0
  | x :: r => uptoBulkEntry x + uptoBulkEntries r
def uptoBulkEntry {H : Type} : Lit × DataW H → Nat
  | (.string bytes, d) => bytes.length + uptoBulk d + 1
  | (_, d) => uptoBulk d + 1
 end
def uptoSmall : (H : Type) → List (DataW H) → Bool := fun _ ds => decide (uptoBulkAll ds ≤ 1048576)
def OpenSpec.upto (s : _root_.Go.ChangeSpec) : _root_.Go.OpenSpec := { _root_.Go.OpenSpec.ofChange s with cond := some uptoSmall }

/-- 'quittancelaw03.InstAsks', WHERE WHAT IT READS IS OF BULK AT MOST 1048576: true; the input reads as it did. -/
def instAsksUptoRow : OpenClaim := { program := "ytiboffhdabeiiaa", sum := "5c23b1b1f46bce7cf287703adc212a55f5864c964a55b36aa8bc8da1657488f6", func := "quittance/quittancelaw03.InstAsks", spec := "instAsks", unfollowed := true, recurses := true, apart := false, narrowed := true }
def InstAsksUptoSaid : Prop := instAsksUptoRow.holds Try.pinned (OpenSpec.upto instAsksSpec)

/-- 'quittancelaw12.RayBegins', WHERE WHAT IT READS IS OF BULK AT MOST 1048576: true; the input reads as it did. -/
def rayBeginsUptoRow : OpenClaim := { program := "ytiboffhdabeiiaa", sum := "5c23b1b1f46bce7cf287703adc212a55f5864c964a55b36aa8bc8da1657488f6", func := "quittance/quittancelaw12.RayBegins", spec := "rayBegins", inPlace := ["math/bits.Add64"], unfollowed := true, recurses := true, apart := false, narrowed := true }
def RayBeginsUptoSaid : Prop := rayBeginsUptoRow.holds Try.pinned (OpenSpec.upto rayBeginsSpec)

/-- 'quittancelaw10.CutSides', WHERE WHAT IT READS IS OF BULK AT MOST 1048576: true; the input reads as it did. -/
def cutSidesUptoRow : OpenClaim := { program := "ytiboffhdabeiiaa", sum := "5c23b1b1f46bce7cf287703adc212a55f5864c964a55b36aa8bc8da1657488f6", func := "quittance/quittancelaw10.CutSides", spec := "cutSides", inPlace := ["math/bits.Sub64", "math/bits.Add64"], unfollowed := true, recurses := true, apart := false, narrowed := true }
def CutSidesUptoSaid : Prop := cutSidesUptoRow.holds Try.pinned (OpenSpec.upto cutSidesSpec)

/-- 'quittancelaw12.RayNothing', WHERE WHAT IT READS IS OF BULK AT MOST 1048576: true; the input reads as it did. -/
def rayNothingUptoRow : OpenClaim := { program := "ytiboffhdabeiiaa", sum := "5c23b1b1f46bce7cf287703adc212a55f5864c964a55b36aa8bc8da1657488f6", func := "quittance/quittancelaw12.RayNothing", spec := "rayNothing", inPlace := ["math/bits.Add64"], unfollowed := true, recurses := true, apart := false, narrowed := true }
def RayNothingUptoSaid : Prop := rayNothingUptoRow.holds Try.pinned (OpenSpec.upto rayNothingSpec)

/-- 'quittancelaw09.FlowFits', WHERE WHAT IT READS IS OF BULK AT MOST 1048576: true; the input reads as it did. -/
def flowFitsUptoRow : OpenClaim := { program := "ytiboffhdabeiiaa", sum := "5c23b1b1f46bce7cf287703adc212a55f5864c964a55b36aa8bc8da1657488f6", func := "quittance/quittancelaw09.FlowFits", spec := "flowFits", inPlace := ["math/bits.Add64", "math/bits.Sub64"], unfollowed := true, recurses := true, apart := false, narrowed := true }
def FlowFitsUptoSaid : Prop := flowFitsUptoRow.holds Try.pinned (OpenSpec.upto flowFitsSpec)

/-- 'quittancelaw09.FlowRound', WHERE WHAT IT READS IS OF BULK AT MOST 1048576: true; the input reads as it did. -/
def flowRoundUptoRow : OpenClaim := { program := "ytiboffhdabeiiaa", sum := "5c23b1b1f46bce7cf287703adc212a55f5864c964a55b36aa8bc8da1657488f6", func := "quittance/quittancelaw09.FlowRound", spec := "flowRound", inPlace := ["math/bits.Add64", "math/bits.Sub64"], unfollowed := true, recurses := true, apart := false, narrowed := true }
def FlowRoundUptoSaid : Prop := flowRoundUptoRow.holds Try.pinned (OpenSpec.upto flowRoundSpec)

/-- 'quittancelaw09.FlowMade', WHERE WHAT IT READS IS OF BULK AT MOST 1048576: true; the input reads as it did. -/
def flowMadeUptoRow : OpenClaim := { program := "ytiboffhdabeiiaa", sum := "5c23b1b1f46bce7cf287703adc212a55f5864c964a55b36aa8bc8da1657488f6", func := "quittance/quittancelaw09.FlowMade", spec := "flowMade", inPlace := ["math/bits.Add64", "math/bits.Sub64"], unfollowed := true, recurses := true, apart := false, narrowed := true }
def FlowMadeUptoSaid : Prop := flowMadeUptoRow.holds Try.pinned (OpenSpec.upto flowMadeSpec)

/-- 'quittancelaw10.CutSafe', WHERE WHAT IT READS IS OF BULK AT MOST 1048576: true; the input reads as it did. -/
def cutSafeUptoRow : OpenClaim := { program := "ytiboffhdabeiiaa", sum := "5c23b1b1f46bce7cf287703adc212a55f5864c964a55b36aa8bc8da1657488f6", func := "quittance/quittancelaw10.CutSafe", spec := "cutSafe", inPlace := ["math/bits.Sub64", "math/bits.Add64"], unfollowed := true, recurses := true, apart := false, narrowed := true }
def CutSafeUptoSaid : Prop := cutSafeUptoRow.holds Try.pinned (OpenSpec.upto cutSafeSpec)

/-- 'quittancelaw11.PriceRound', WHERE WHAT IT READS IS OF BULK AT MOST 1048576: true; the input reads as it did. -/
def priceRoundUptoRow : OpenClaim := { program := "ytiboffhdabeiiaa", sum := "5c23b1b1f46bce7cf287703adc212a55f5864c964a55b36aa8bc8da1657488f6", func := "quittance/quittancelaw11.PriceRound", spec := "priceRound", inPlace := ["math/bits.Add64", "math/bits.Sub64"], unfollowed := true, recurses := true, apart := false, narrowed := true }
def PriceRoundUptoSaid : Prop := priceRoundUptoRow.holds Try.pinned (OpenSpec.upto priceRoundSpec)

/-- 'quittancelaw11.PriceBound', WHERE WHAT IT READS IS OF BULK AT MOST 1048576: true; the input reads as it did. -/
def priceBoundUptoRow : OpenClaim := { program := "ytiboffhdabeiiaa", sum := "5c23b1b1f46bce7cf287703adc212a55f5864c964a55b36aa8bc8da1657488f6", func := "quittance/quittancelaw11.PriceBound", spec := "priceBound", inPlace := ["math/bits.Add64", "math/bits.Sub64"], unfollowed := true, recurses := true, apart := false, narrowed := true }
def PriceBoundUptoSaid : Prop := priceBoundUptoRow.holds Try.pinned (OpenSpec.upto priceBoundSpec)

/-- 'quittancelaw11.PriceBest', WHERE WHAT IT READS IS OF BULK AT MOST 1048576: true; the input reads as it did. -/
def priceBestUptoRow : OpenClaim := { program := "ytiboffhdabeiiaa", sum := "5c23b1b1f46bce7cf287703adc212a55f5864c964a55b36aa8bc8da1657488f6", func := "quittance/quittancelaw11.PriceBest", spec := "priceBest", inPlace := ["math/bits.Sub64", "math/bits.Add64"], unfollowed := true, recurses := true, apart := false, narrowed := true }
def PriceBestUptoSaid : Prop := priceBestUptoRow.holds Try.pinned (OpenSpec.upto priceBestSpec)

/-- 'quittancelaw11.PriceAsks', WHERE WHAT IT READS IS OF BULK AT MOST 1048576: true; the input reads as it did. -/
def priceAsksUptoRow : OpenClaim := { program := "ytiboffhdabeiiaa", sum := "5c23b1b1f46bce7cf287703adc212a55f5864c964a55b36aa8bc8da1657488f6", func := "quittance/quittancelaw11.PriceAsks", spec := "priceAsks", inPlace := ["math/bits.Add64", "math/bits.Sub64"], unfollowed := true, recurses := true, apart := false, narrowed := true }
def PriceAsksUptoSaid : Prop := priceAsksUptoRow.holds Try.pinned (OpenSpec.upto priceAsksSpec)

/-- 'quittancelaw11.PriceShift', WHERE WHAT IT READS IS OF BULK AT MOST 1048576: true; the input reads as it did. -/
def priceShiftUptoRow : OpenClaim := { program := "ytiboffhdabeiiaa", sum := "5c23b1b1f46bce7cf287703adc212a55f5864c964a55b36aa8bc8da1657488f6", func := "quittance/quittancelaw11.PriceShift", spec := "priceShift", inPlace := ["math/bits.Add64", "math/bits.Sub64"], unfollowed := true, recurses := true, apart := false, narrowed := true }
def PriceShiftUptoSaid : Prop := priceShiftUptoRow.holds Try.pinned (OpenSpec.upto priceShiftSpec)

/-- 'quittancelaw12.RayGrows', WHERE WHAT IT READS IS OF BULK AT MOST 1048576: true; the input reads as it did. -/
def rayGrowsUptoRow : OpenClaim := { program := "ytiboffhdabeiiaa", sum := "5c23b1b1f46bce7cf287703adc212a55f5864c964a55b36aa8bc8da1657488f6", func := "quittance/quittancelaw12.RayGrows", spec := "rayGrows", inPlace := ["math/bits.Add64", "math/bits.Sub64"], unfollowed := true, recurses := true, apart := false, narrowed := true }
def RayGrowsUptoSaid : Prop := rayGrowsUptoRow.holds Try.pinned (OpenSpec.upto rayGrowsSpec)

/-- 'quittancelaw13.CertOne', WHERE WHAT IT READS IS OF BULK AT MOST 1048576: true; the input reads as it did. -/
def certOneUptoRow : OpenClaim := { program := "ytiboffhdabeiiaa", sum := "5c23b1b1f46bce7cf287703adc212a55f5864c964a55b36aa8bc8da1657488f6", func := "quittance/quittancelaw13.CertOne", spec := "certOne", inPlace := ["math/bits.Add64", "math/bits.Sub64"], unfollowed := true, recurses := true, apart := false, narrowed := true }
def CertOneUptoSaid : Prop := certOneUptoRow.holds Try.pinned (OpenSpec.upto certOneSpec)

/-- 'quittancelaw13.CertLong', WHERE WHAT IT READS IS OF BULK AT MOST 1048576: true; the input reads as it did. -/
def certLongUptoRow : OpenClaim := { program := "ytiboffhdabeiiaa", sum := "5c23b1b1f46bce7cf287703adc212a55f5864c964a55b36aa8bc8da1657488f6", func := "quittance/quittancelaw13.CertLong", spec := "certLong", inPlace := ["math/bits.Add64", "math/bits.Sub64"], unfollowed := true, recurses := true, apart := false, narrowed := true }
def CertLongUptoSaid : Prop := certLongUptoRow.holds Try.pinned (OpenSpec.upto certLongSpec)

/-- 'quittancelaw13.CertRay', WHERE WHAT IT READS IS OF BULK AT MOST 1048576: true; the input reads as it did. -/
def certRayUptoRow : OpenClaim := { program := "ytiboffhdabeiiaa", sum := "5c23b1b1f46bce7cf287703adc212a55f5864c964a55b36aa8bc8da1657488f6", func := "quittance/quittancelaw13.CertRay", spec := "certRay", inPlace := ["math/bits.Add64", "math/bits.Sub64"], unfollowed := true, recurses := true, apart := false, narrowed := true }
def CertRayUptoSaid : Prop := certRayUptoRow.holds Try.pinned (OpenSpec.upto certRaySpec)

/-- 'quittancelaw13.CertMade', WHERE WHAT IT READS IS OF BULK AT MOST 1048576: true; the input reads as it did. -/
def certMadeUptoRow : OpenClaim := { program := "ytiboffhdabeiiaa", sum := "5c23b1b1f46bce7cf287703adc212a55f5864c964a55b36aa8bc8da1657488f6", func := "quittance/quittancelaw13.CertMade", spec := "certMade", inPlace := ["math/bits.Sub64", "math/bits.Add64"], unfollowed := true, recurses := true, apart := false, narrowed := true }
def CertMadeUptoSaid : Prop := certMadeUptoRow.holds Try.pinned (OpenSpec.upto certMadeSpec)

end Rows
end Go.Proofs.Ytiboffhdabeiiaa
