/- Forms, gathered. -/
import Derived.Test.YtbpcichakchpkaaGreatDoorFSd
import Derived.Test.YtbpcichakchpkaaGreatDoorFSe
