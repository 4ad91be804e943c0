/- Part 26 of 37 of the proof of the law: contracts of the functions that it reaches, and plain facts. Conditions: those that each contract names. -/
import Derived.Test.YtlmheeommpbimaaGreatDoorEqualB25
import Derived.Test.YtlmheeommpbimaaGreatDoorEqualB13
import Derived.Test.YtlmheeommpbimaaGreatDoorEqualB03
import Derived.Test.YtlmheeommpbimaaGreatDoorEqualB24
import Derived.BigQuiet
import Derived.Deep.QuietTactic
