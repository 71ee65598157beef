/- The imports of this seat's own texts; the contract of the method within of a class of encodings. No condition. -/
import Derived.Test.YtpjiidcnbceffaaProg
import Derived.Below
import Derived.Deep.Draws
import Derived.Deep.AppendLies
import Derived.Maps.AppendAt
import Derived.OwnWalk
import Derived.Laws.BytesArg
import Derived.Laws.MakeOwn
import Derived.Laws.OwnMore
import Derived.Deep.OwnRows
import Derived.Tactics
import Derived.Lib.ConvBytes
import Derived.Laws.Slices
import Derived.WalkKit
import Derived.KernelRfl
import Derived.RowKit3
import Derived.Deep.LoopGhost
import Derived.Deep.QuietTactic
import Derived.BigQuiet
import Derived.WideLaws
import Derived.Deep.DeepCutAuto
import Derived.Deep.CutBlock
import Derived.Deep.RegionHeld3
import Derived.Laws.Rows
import Derived.Lib.AppendStr
import Derived.ArgAppend
import Derived.Laws.IdiomCopy
import Derived.OrdersHeld
import Derived.Laws.BitsLemmas
import Derived.RowKit
import Derived.Test.YtpjiidcnbceffaaWWords
import Derived.Test.YtpjiidcnbceffaaWLast
import Derived.Test.YtpjiidcnbceffaaWTab
import Derived.Test.YtpjiidcnbceffaaWFour
import Derived.Test.YtpjiidcnbceffaaWQPut
import Derived.Test.YtpjiidcnbceffaaWApart
import Derived.Test.YtpjiidcnbceffaaWArr
import Derived.Test.YtpjiidcnbceffaaWZeros
import Derived.Test.YtpjiidcnbceffaaWFoot
import Derived.Test.YtpjiidcnbceffaaWKept
import Derived.Test.YtpjiidcnbceffaaWShare
import Derived.Test.YtpjiidcnbceffaaWN
import Derived.Test.YtpjiidcnbceffaaWFootNe
import Derived.Test.YtpjiidcnbceffaaWAt
import Derived.Test.YtpjiidcnbceffaaWEqStruct
import Derived.Test.YtpjiidcnbceffaaWRepsOne
import Derived.Test.YtpjiidcnbceffaaWInv
import Derived.Test.YtpjiidcnbceffaaWInvWords
import Derived.Test.YtpjiidcnbceffaaWGuard
import Derived.Test.YtpjiidcnbceffaaWNEv
import Derived.Test.YtpjiidcnbceffaaWMore
import Derived.Deep.MidRow
import Derived.Deep.WholeRow
import Derived.Handy
import Derived.LoopN
namespace Go.Proofs.Ytpjiidcnbceffaa.UA
open Go Go.RowKit Go.Proofs.YtpjiidcnbceffaaW.PrintWords Go.Proofs.YtpjiidcnbceffaaW.PrintLast Go.Proofs.YtpjiidcnbceffaaW.PrintMore

/-- Does a code point belong to a class? -/
def inCls (mn mx r : Int) : Bool := decide (mn ≤ r) && (decide (r ≤ mx) && (decide (r < 55296) || decide (57343 < r)))
set_option maxHeartbeats 1000000 in
set_option maxRecDepth 100000 in
theorem within_any (a b c mn mx r : Int) (w : World) : Calls Try.prog 40 #[.agg #[.int .u8 a, .int .u8 b, .int .u8 c, .int .i32 mn, .int .i32 mx], .int .i32 r] w fun e w' => e = .returned (.bool (inCls mn mx r)) ∧ Below w.heap.size w w' := by
  by_cases h1 : mn ≤ r
  · by_cases h2 : r ≤ mx
    · by_cases h3 : r < 55296
      · have d1 := decide_eq_true h1
        have d2 := decide_eq_true h2
        have d3 := decide_eq_true h3
        have e : Aside0 (inCls mn mx r = true) := ⟨by simp [inCls, h1, h2, h3]⟩
        clear h1 h2 h3
        go_enter Try.func40, Try.ntmps40
        go_wp2
        go_ret
        exact ⟨by rw [e.out]; rfl, by repeat (first | exact Below.refl _ _ | apply below_alloc | apply pw_below_drewN | apply below_drew1)⟩
      · have d1 := decide_eq_true h1
        have d2 := decide_eq_true h2
        have d3 := decide_eq_false h3
        have e : Aside0 (inCls mn mx r = decide (57343 < r)) := ⟨by simp [inCls, h1, h2, h3]⟩
        clear h1 h2 h3
        go_enter Try.func40, Try.ntmps40
        go_wp2
        go_ret
        exact ⟨by rw [e.out]; rfl, by repeat (first | exact Below.refl _ _ | apply below_alloc | apply pw_below_drewN | apply below_drew1)⟩
    · have d1 := decide_eq_true h1
      have d2 := decide_eq_false h2
      have e : Aside0 (inCls mn mx r = false) := ⟨by simp [inCls, h2]⟩
      clear h1 h2
      go_enter Try.func40, Try.ntmps40
      go_wp2
      go_ret
      exact ⟨by rw [e.out]; rfl, by repeat (first | exact Below.refl _ _ | apply below_alloc | apply pw_below_drewN | apply below_drew1)⟩
  · have d1 := decide_eq_false h1
    have e : Aside0 (inCls mn mx r = false) := ⟨by simp [inCls, h1]⟩
    clear h1
    go_enter Try.func40, Try.ntmps40
    go_wp2
    go_ret
    exact ⟨by rw [e.out]; rfl, by repeat (first | exact Below.refl _ _ | apply below_alloc | apply pw_below_drewN | apply below_drew1)⟩
theorem within_is (a b c mn mx r : Int) (q : Bool) (h : inCls mn mx r = q) (w : World) : Calls Try.prog 40 #[.agg #[.int .u8 a, .int .u8 b, .int .u8 c, .int .i32 mn, .int .i32 mx], .int .i32 r] w fun e w' => e = .returned (.bool q) ∧ Below w.heap.size w w' := by
  subst h; exact within_any a b c mn mx r w
end Go.Proofs.Ytpjiidcnbceffaa.UA
