/- The shelf of this seat. -/
import Derived.Test.YtnmidkjmflnolaaShelf
