/- What the row of DiskPlays leans on. -/
import Derived.Test.YtclibfiaihhbaaaDiskO
import Derived.Test.YtclibfiaihhbaaaDiskZ
