import Derived.Test.YtdiimonfmdbclaaV0
import Derived.Test.YtdiimonfmdbclaaV1
/- All formulas. -/
