/- Part 26 of 39 of the proof of the law: contracts of the functions that it reaches, and plain facts. Conditions: those that each contract names. -/
import Derived.Test.YtlmheeommpbimaaGreatDoorChecksB25
import Derived.Test.YtlmheeommpbimaaGreatDoorChecksB13
import Derived.Test.YtlmheeommpbimaaGreatDoorChecksB03
import Derived.Test.YtlmheeommpbimaaGreatDoorChecksB24
import Derived.BigQuiet
import Derived.Deep.QuietTactic
