/- The library's contracts: those of the scanner's seat. -/
import Derived.Test.YtnpgdeioaehahaaDoorShelfLex
