/- Forms, gathered. -/
import Derived.Test.YtnjadekngjgjcaaGreatDoorFSd
import Derived.Test.YtnjadekngjgjcaaGreatDoorFSe
