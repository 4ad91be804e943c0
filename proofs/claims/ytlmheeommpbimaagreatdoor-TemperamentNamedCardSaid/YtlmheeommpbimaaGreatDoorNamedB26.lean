/- Part 26 of 37 of the proof of the law: contracts of the functions that it reaches, and plain facts. Conditions: those that each contract names. -/
import Derived.Test.YtlmheeommpbimaaGreatDoorNamedB25
import Derived.Test.YtlmheeommpbimaaGreatDoorNamedB13
import Derived.Test.YtlmheeommpbimaaGreatDoorNamedB03
import Derived.Test.YtlmheeommpbimaaGreatDoorNamedB24
import Derived.BigQuiet
import Derived.Deep.QuietTactic
