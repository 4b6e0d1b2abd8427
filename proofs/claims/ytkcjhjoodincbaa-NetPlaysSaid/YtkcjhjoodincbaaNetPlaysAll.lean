/- What the row of NetPlays leans on. -/
import Derived.Test.YtkcjhjoodincbaaNetO
import Derived.Test.YtkcjhjoodincbaaNetW
