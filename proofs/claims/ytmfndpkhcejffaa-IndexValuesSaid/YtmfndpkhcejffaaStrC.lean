/- Strings as cells. Conditions: none. -/
import Derived.Test.YtmfndpkhcejffaaKit
namespace Go.Proofs.Ytmfndpkhcejffaa
open Go.RowKit

def strC (s : ByteArray) : List Value := [.string s]
def strCs (l : List ByteArray) : List Value := l.flatMap strC
end Go.Proofs.Ytmfndpkhcejffaa
