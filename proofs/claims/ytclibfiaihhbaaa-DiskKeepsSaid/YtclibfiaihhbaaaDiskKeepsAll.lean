/- What the row of DiskKeeps leans on. -/
import Derived.Test.YtclibfiaihhbaaaDiskO
import Derived.Test.YtclibfiaihhbaaaDiskG
