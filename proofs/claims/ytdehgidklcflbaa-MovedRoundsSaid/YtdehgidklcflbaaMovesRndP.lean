/- MovedRounds' walk. -/
import Derived.Test.YtdehgidklcflbaaMovesRnd
