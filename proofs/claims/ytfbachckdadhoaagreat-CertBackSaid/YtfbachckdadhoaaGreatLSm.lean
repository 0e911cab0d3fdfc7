/- The statements' small submission. -/
import Derived.Test.YtfbachckdadhoaaGreatMR
namespace Go.Proofs.YtfbachckdadhoaaGreat
set_option linter.unusedVariables false
open Go.RowKit Fl

def smallV (B:Nat):SubV:=⟨1,2,0,some ⟨B+1,0,none⟩,2,[4607182418800017408,4613937818241073152],some ⟨B+1+1,0,none⟩,1,[⟨4607182418800017408,4613937818241073152,false,false⟩],some ⟨B+1+1+1,0,none⟩,1,[4611686018427387904]⟩
end Go.Proofs.YtfbachckdadhoaaGreat
