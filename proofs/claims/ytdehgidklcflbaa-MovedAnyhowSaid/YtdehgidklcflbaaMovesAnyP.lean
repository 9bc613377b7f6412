/- MovedAnyhow's walk and the opening of its argument. -/
import Derived.Test.YtdehgidklcflbaaMovesAny
import Derived.Test.YtdehgidklcflbaaMovesReach
