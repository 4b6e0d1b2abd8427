/- What the row of NetOrder leans on. -/
import Derived.Test.YtkcjhjoodincbaaOpen
import Derived.Test.YtkcjhjoodincbaaNetK
