/- ObjectTells. -/
import Derived.Test.YtgmdfchkljaooaaGreatRows
import Derived.Test.YtgmdfchkljaooaaGreatProg
import Derived.JoinedCond
import Derived.ProofKit
noncomputable section
namespace Go.Proofs.YtgmdfchkljaooaaGreat.objectTells
open Go.RowKit
theorem ki {a b:Bool}(h:a=true)(k:b=true):(a&&b)=true:=by rw[h,k];rfl
set_option maxRecDepth 100000 in
set_option maxHeartbeats 4000000 in
theorem arE:joinedFacts Tryz.prog 3 Tryz.f3 (Rows.OpenSpec.upto Rows.objectTellsSpec).bare Rows.objectTellsUptoRow=true:=by
 unfold joinedFacts;refine ki (ki (ki (ki (ki (ki (ki (ki (ki (ki (ki (ki (ki (ki (ki (ki (ki (ki (ki (ki (ki (ki (ki (ki (ki (ki (ki (ki (ki (ki (ki ?_ ?_) ?_) ?_) ?_) ?_) ?_) ?_) ?_) ?_) ?_) ?_) ?_) ?_) ?_) ?_) ?_) ?_) ?_) ?_) ?_) ?_) ?_) ?_) ?_) ?_) ?_) ?_) ?_) ?_) ?_) ?_
 all_goals as_aux_lemma=>kernel_rfl
end Go.Proofs.YtgmdfchkljaooaaGreat.objectTells
