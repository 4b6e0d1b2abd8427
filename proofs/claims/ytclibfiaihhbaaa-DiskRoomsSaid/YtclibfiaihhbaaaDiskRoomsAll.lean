/- What the row of DiskRooms leans on. -/
import Derived.Test.YtclibfiaihhbaaaOpen
import Derived.Test.YtclibfiaihhbaaaDiskR
