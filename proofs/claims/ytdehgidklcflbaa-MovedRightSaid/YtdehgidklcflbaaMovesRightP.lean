/- MovedRight's walk and the opening of its argument. -/
import Derived.Test.YtdehgidklcflbaaMovesRight
import Derived.Test.YtdehgidklcflbaaMovesOpen
