/- MovedFew's walk and the opening of its argument. -/
import Derived.Test.YtdehgidklcflbaaMovesFew
import Derived.Test.YtdehgidklcflbaaMovesOpen
