/- What the row of NetKeeps leans on. -/
import Derived.Test.YtkcjhjoodincbaaNetO
import Derived.Test.YtkcjhjoodincbaaNetH
