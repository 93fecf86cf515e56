/- Made by pack.py: more of it. No condition but what each says. -/
import Derived.Test.YtjpibniecllafaaGreatC20
set_option linter.unusedSimpArgs false
set_option linter.unusedVariables false
set_option maxHeartbeats 16000000
section
namespace Go.Proofs.YtjpibniecllafaaGreat.wholeCarets
open Go Go.Proofs.YtjpibniecllafaaGreat.U Go.Proofs.YtjpibniecllafaaGreat.AM
attribute [local simp] cellR thereV RV.sv innE inlE reach pos subH SV.mapr RV.mapr Ob.mapr SV.refs RV.id? RV.ref Ob.refs noRow shnE shrE okK closeB freshs at0 newS leftS finishS oneS manyS allP sameFz Ob.noPin startS entryS List.range_succ List.filterMap_cons List.filterMap_nil SV.rv fzvs fzv liveV liveR rcellss rcells fillQ fixN RV.isNil revO canon pinsOf pinOb canF canP
def vO (a b c:Nat)(E:Eng)(x:List PV)(S:List (List PV)): (Nat×Ob)× (Nat×Ob)× (Nat×Ob):= ((a,.gr 90 5 [[.mp b 0 0,.p (.pt x),.p (.sl 2 S),.p (.sl 3 []),.p (.sl 1 [])]]),(b,.gr 100 2 [[.p (.sl 5 (ats E.l)),.mo c]]),(c,.mpo E.U E.fl E.G E.F))
def cI (t z:ByteArray)(k:Nat)(E:Eng)(x:List PV)(S R:List (List PV))(T:ByteArray)(n:Nat)(i:Int):St:= ⟨[(1,.p (.sc (.string t))),(5,.p (pi k)),(6,.mp 1000 0 0),(7,.p (.sc (.string z))),(8,.ms 1001 0 n),(9,.p (.sc (.string T))),(10,.p (pi i))],[(vO 1000 1002 1003 E x S).1,(1001,.row 41 2 false R),(vO 1000 1002 1003 E x S).2.1,(vO 1000 1002 1003 E x S).2.2]⟩
def cT (t z:ByteArray)(k:Nat)(E:Eng)(x:List PV)(S R:List (List PV))(T:ByteArray)(n:Nat):St:= ⟨[(1,.p (.sc (.string t))),(5,.p (pi k)),(6,.mp 6 0 0),(7,.p (.sc (.string z))),(8,.ms 8 0 n),(9,.p (.sc (.string T))),(10,.p (pi k)),(39,.p (pb false))],[(vO 6 1002 1003 E x S).1,(8,.row 41 2 false R),(vO 6 1002 1003 E x S).2.1,(vO 6 1002 1003 E x S).2.2]⟩
theorem first (t z:ByteArray)(hz:z.size=17)(ht:t.size<=20)(k:Nat)(hk:1<=k)(E:Eng)(x:List PV)(S:List (List PV)) :
 LC (EX fun _=>none) L_top_WholeCarets_0 (cI t z k E x S [] ⟨#[]⟩ 0 0)=LC (EX fun _=>none) L_top_WholeCarets_0 (cI t z k E x S [[pi 1,pi 1]] (⟨#[]⟩++z.extract 0 1++t) 1 1):=by
 rw[Tbu _ L_top_WholeCarets_0 _ _ rfl]
 unfold cI vO
 have e0: (⟨#[]⟩:ByteArray).size=0:=rfl
 simp(maxSteps:=1000000) (disch:=omega) [hz,ht,hk,e0,maxBytes,Taa,Tad,Tab,Taj]
theorem round (t z:ByteArray)(hz:z.size=17)(ht:t.size<=20)(k i:Nat)(h1:1<=i)(hk:i<k)(h8:k<=8)(E:Eng)(x:List PV)(S R:List (List PV))(hR:R.length=i)(T:ByteArray)(hT:T.size<=1000) :
 LC (EX fun _=>none) L_top_WholeCarets_0 (cI t z k E x S R T i i)=LC (EX fun _=>none) L_top_WholeCarets_0 (cI t z k E x S (R++ [[pi (2*i+1),pi (2*i+1)]]) (T++z.extract (2*i-1) (2*i+1)++t) (i+1) ((i:Int)+1)):=by
 rw[Tbu _ L_top_WholeCarets_0 _ _ rfl]
 unfold cI vO
 have n1: (2* (i:Int)).toNat=2*i:=by omega
 have n2: (2* (i:Int)+1).toNat=2*i+1:=by omega
 simp(maxSteps:=1000000) (disch:=omega) [hz,ht,hk,hR,n1,n2,maxBytes,Taa,Tad,Tab,Taj]
theorem final (t z:ByteArray)(k:Nat)(h8:k<=8)(E:Eng)(x:List PV)(S R:List (List PV))(hR:R.length=k)(T:ByteArray) :
 LC (EX fun _=>none) L_top_WholeCarets_0 (cI t z k E x S R T k k)=some (.ex 0,cT t z k E x S R T k):=by
 rw[Tbu _ L_top_WholeCarets_0 _ _ rfl]
 unfold cI cT vO
 simp(disch:=omega)[hR,Tad]
end Go.Proofs.YtjpibniecllafaaGreat.wholeCarets
end
