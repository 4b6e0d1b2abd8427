/- What the row of DiskCopies leans on. -/
import Derived.Test.YtclibfiaihhbaaaDiskO
import Derived.Test.YtclibfiaihhbaaaDiskI
