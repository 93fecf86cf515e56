/- Made by pack.py: more of it. No condition but what each says. -/
import Derived.Test.YtjpibniecllafaaGreatC14
set_option linter.unusedSimpArgs false
set_option linter.unusedVariables false
set_option maxHeartbeats 16000000
section
namespace Go.Proofs.YtjpibniecllafaaGreat.AM
open Go Go.Proofs.YtjpibniecllafaaGreat.U
variable {cp:List PV->Option Ret}
def prt (n:Nat):Nat:= (n+15) / 16
def cutAt16 (n i:Nat):Nat:=n*i / prt n
theorem Tkw (n i:Nat):cutAt16 n i<=cutAt16 n (i+1):=Nat.div_le_div_right (Nat.mul_le_mul_left n (Nat.le_succ i))
theorem Tvm (n:Nat):cutAt16 n (prt n)=n:=by
 unfold cutAt16
 rcases Nat.eq_zero_or_pos n with h | h
 · subst h; simp
 · exact Nat.mul_div_cancel _ (by unfold prt; omega)
theorem Tp7 (n i:Nat)(h:i<=prt n):cutAt16 n i<=n:=by
 have:cutAt16 n i<=cutAt16 n (prt n):=Nat.div_le_div_right (Nat.mul_le_mul_left n h)
 rw[Tvm]at this; exact this
theorem Tkx (n i m:Nat)(hm:m*prt n<=n)(hp:0<prt n):cutAt16 n i+m<=cutAt16 n (i+1):=by
 unfold cutAt16
 rw[Nat.mul_succ]
 refine(Nat.le_div_iff_mul_le hp).2 ?_
 rw[Nat.add_mul]
 have:=Nat.div_mul_le_self (n*i) (prt n)
 omega
theorem Tei (a b:Nat): ((a:Int)).tdiv (b:Int)= ((a / b:Nat):Int):= (Int.ofNat_tdiv a b).symm
theorem Tp8 (n i:Nat)(hn:n<1073741824)(hi:i<=n+1): (n*i:Nat)<=1152921504606846976:=by
 have:n*i<=1073741824*1073741824:=Nat.mul_le_mul (by omega) (by omega)
 omega
def part16 {α:Type}(l:List α)(i:Nat):List α:= (l.drop (cutAt16 l.length i)).take (cutAt16 l.length (i+1)-cutAt16 l.length i)
theorem Tjq {α:Type}(l:List α):∀ k,k<=prt l.length-> ((List.range k).map (part16 l)).flatten=l.take (cutAt16 l.length k)
 | 0,_=>by simp[cutAt16]
 | k+1,h=>by
  rw[List.range_succ,List.map_append,List.flatten_append,Tjq l k (by omega)]
  have e:=List.take_add (l:=l) (i:=cutAt16 l.length k) (j:=cutAt16 l.length (k+1)-cutAt16 l.length k)
  rw[show cutAt16 l.length k+ (cutAt16 l.length (k+1)-cutAt16 l.length k)=cutAt16 l.length (k+1)by have:=Tkw l.length k; omega]at e
  rw[e]; simp[part16]
theorem Tmm {α:Type}(l:List α): ((List.range (prt l.length)).map (part16 l)).flatten=l:=by
 rw[Tjq l _ (Nat.le_refl _),Tvm,List.take_length]
theorem Tfk {α:Type}(l:List α)(i:Nat)(h:i<prt l.length): (part16 l i).length=cutAt16 l.length (i+1)-cutAt16 l.length i:=by
 unfold part16
 have:=Tp7 l.length (i+1) h
 rw[List.length_take,List.length_drop]; omega
theorem Tii (R:List (List PV))(hR:R.length<1073741824)(f:FuncId)(g:Nat->List PV)(hf:∀ i,i<prt R.length->Run (EX cp) f [.sl 1 (part16 R i)]=some (.val (.pt (g i)))):∀(m i:Nat),m+i=prt R.length ->
 Code (EX cp) L_tree_spread_rope_piece_tree_node_rope_piece_rope_counts_0 ⟨[(0,.p (.sl 1 R)),(1,.p (.fn f [])),(5,.p (pi (prt R.length))),(6,.ms 6 0 i),(14,.p (pi (prt R.length))),(15,.p (pi i))],[(6,.row 147 1 false (ones ((List.range i).map fun i=>PV.pt (g i))))]⟩ =
  some (.ex 0,⟨[(0,.p (.sl 1 R)),(1,.p (.fn f [])),(5,.p (pi (prt R.length))),(6,.ms 6 0 (prt R.length)),(14,.p (pi (prt R.length))),(15,.p (pi (prt R.length))),(16,.p (pb false))],[(6,.row 147 1 false (ones ((List.range (prt R.length)).map fun i=>PV.pt (g i))))]⟩):=by
 intro m
 induction m with
 | zero =>
  intro i hi
  have:i=prt R.length:=by omega
  subst this
  rw[L_tree_spread_rope_piece_tree_node_rope_piece_rope_counts_0,Taf]
  simp
 | succ m ih =>
  intro i hi
  have h1:i<prt R.length:=by omega
  have ih':=ih (i+1) (by omega)
  have d:=hf i h1
  have hpn:prt R.length<=R.length:=by unfold prt; omega
  have m1:=Tp8 R.length i hR (by omega)
  have m2:=Tp8 R.length (i+1) hR (by omega)
  have c1:=Tkw R.length i
  have c2:=Tp7 R.length (i+1) (by omega)
  have q1:=Tei (R.length*i) (prt R.length)
  have q2:=Tei (R.length* (i+1)) (prt R.length)
  have hp0:¬ ((prt R.length:Nat):Int)=0:=by omega
  have hp0':¬ prt R.length=0:=by omega
  have hpl:=Tfk R i h1
  rw[show R.length*i / prt R.length=cutAt16 R.length i from rfl,Int.natCast_mul]at q1
  rw[show R.length* (i+1) / prt R.length=cutAt16 R.length (i+1)from rfl,Int.natCast_mul,Int.natCast_add]at q2
  rw[show part16 R i= (R.drop (cutAt16 R.length i)).take (cutAt16 R.length (i+1)-cutAt16 R.length i)from rfl]at d hpl
  have w1:IntKind.wrap .i64 ((R.length:Int)* (i:Int))= (R.length:Int)*i:=by
   rw[← Int.natCast_mul]; exact Tab _ (by omega) (by omega)
  have w2:IntKind.wrap .i64 ((R.length:Int)* ((i:Int)+1))= (R.length:Int)* ((i:Int)+1):=by
   have e: (R.length:Int)* ((i:Int)+1)= ((R.length* (i+1):Nat):Int):=by rw[Int.natCast_mul]; rfl
   rw[e]; exact Tab _ (by omega) (by omega)
  have hrng: (List.range (i+1)).map (fun i=>PV.pt (g i))= (List.range i).map (fun i=>PV.pt (g i))++ [.pt (g i)]:=by rw[List.range_succ,List.map_append]; rfl
  have hol: ((List.range i).map fun i=>PV.pt (g i)).length=i:=by simp
  have ho:=Tml ((List.range i).map fun i=>PV.pt (g i)) (.pt (g i))
  rw[← hrng]at ho
  have q2': ((R.length:Int)* ((i:Int)+1)).tdiv (prt R.length)= (cutAt16 R.length (i+1):Nat):=q2
  obtain⟨pt,hpt⟩:∃ pt,(R.drop (cutAt16 R.length i)).take (cutAt16 R.length (i+1)-cutAt16 R.length i)=pt:= ⟨_,rfl⟩
  rw[hpt]at d hpl
  have w3:IntKind.wrap .i64 ((cutAt16 R.length i:Nat):Int)= (cutAt16 R.length i:Nat):=Tab _ (by omega) (by omega)
  have w4:IntKind.wrap .i64 ((cutAt16 R.length (i+1):Nat):Int)= (cutAt16 R.length (i+1):Nat):=Tab _ (by omega) (by omega)
  generalize cutAt16 R.length (i+1)=cb at *
  generalize cutAt16 R.length i=ca at *
  generalize prt R.length=p at *
  have hptl:pt.length<=1073741824:=by omega
  have hcap:pt.length*16<=maxBytes/\pt.length<=9223372036854775807:=by unfold maxBytes; omega
  have hcap2: (i+1)*8<=maxBytes/\i+1<=9223372036854775807:=by unfold maxBytes; omega
  have htk:pt.take pt.length=pt:=List.take_length
  rw[← ih',L_tree_spread_rope_piece_tree_node_rope_piece_rope_counts_0,Taf]
  by_cases hz:pt.length=0
  · have hz':=List.eq_nil_of_length_eq_zero hz
    rw[hz']at d hpt
    have hcc:cb-ca=0:=by omega
    simp(disch:=omega)[h1,w1,w2,q1,q2',w3,w4,hp0,hp0',c1,c2,hz',hpt,d,hcap2,hol,ho,Taa,Tad,Tab,Taj,-getElem?_pos]
  · have hz':¬ pt= []:=fun e=>hz (by rw[e]; rfl)
    simp(disch:=omega)[h1,w1,w2,q1,q2',w3,w4,hp0,hp0',c1,c2,hz,hz',hpt,d,hcap,hcap2,hol,ho,htk,Taa,Tad,Tab,Taj,-getElem?_pos]
theorem spreadLeaf (R:List (List PV))(hR:R.length<1073741824)(f:FuncId)(g:Nat->List PV)(hf:∀ i,i<prt R.length->Run (EX cp) f [.sl 1 (part16 R i)]=some (.val (.pt (g i)))) :
 Run (EX cp) 209 [.sl 1 R,.fn f []]=some (.own 147 1 (ones ((List.range (prt R.length)).map fun i=>PV.pt (g i)))):=by
 have h:=Tii (cp:=cp) R hR f g hf (prt R.length) 0 (by omega)
 rw[show((0:Nat):Int)=0 from rfl,List.range_zero,List.map_nil,Tp6]at h
 have q1:=Tei (R.length+15) 16
 have e1: ((R.length:Int)+16-1).tdiv 16= (prt R.length:Nat):=by
  have e: (R.length:Int)+16-1= ((R.length+15:Nat):Int):=by omega
  rw[e]; exact q1
 have e2:IntKind.wrap .i64 ((prt R.length:Nat):Int)= (prt R.length:Nat):=Tab _ (by omega) (by unfold prt; omega)
 have ho: (ones ((List.range (prt R.length)).map fun i=>PV.pt (g i))).take (prt R.length)=ones ((List.range (prt R.length)).map fun i=>PV.pt (g i)):=List.take_of_length_le (by simp)
 rw[Tah _ A_tree_spread_rope_piece_tree_node_rope_piece_rope_counts _ rfl rfl rfl]
 generalize prt R.length=p at *
 simp(disch:=omega)[A_tree_spread_rope_piece_tree_node_rope_piece_rope_counts,e1,e2,h,ho,Tab]
theorem Tgl (R:List (List PV))(hR:R.length<1073741824)(f:FuncId)(g:Nat->List PV)(hf:∀ i,i<prt R.length->Run (EX cp) f [.sl 1 (part16 R i)]=some (.val (.pt (g i)))):∀(m i:Nat),m+i=prt R.length ->
 Code (EX cp) L_tree_spread_tree_node_rope_piece_rope_counts_tree_node_rope_piece_rope_counts_0 ⟨[(0,.p (.sl 1 R)),(1,.p (.fn f [])),(5,.p (pi (prt R.length))),(6,.ms 6 0 i),(14,.p (pi (prt R.length))),(15,.p (pi i))],[(6,.row 147 1 false (ones ((List.range i).map fun i=>PV.pt (g i))))]⟩ =
  some (.ex 0,⟨[(0,.p (.sl 1 R)),(1,.p (.fn f [])),(5,.p (pi (prt R.length))),(6,.ms 6 0 (prt R.length)),(14,.p (pi (prt R.length))),(15,.p (pi (prt R.length))),(16,.p (pb false))],[(6,.row 147 1 false (ones ((List.range (prt R.length)).map fun i=>PV.pt (g i))))]⟩):=by
 intro m
 induction m with
 | zero =>
  intro i hi
  have:i=prt R.length:=by omega
  subst this
  rw[L_tree_spread_tree_node_rope_piece_rope_counts_tree_node_rope_piece_rope_counts_0,Taf]
  simp
 | succ m ih =>
  intro i hi
  have h1:i<prt R.length:=by omega
  have ih':=ih (i+1) (by omega)
  have d:=hf i h1
  have hpn:prt R.length<=R.length:=by unfold prt; omega
  have m1:=Tp8 R.length i hR (by omega)
  have m2:=Tp8 R.length (i+1) hR (by omega)
  have c1:=Tkw R.length i
  have c2:=Tp7 R.length (i+1) (by omega)
  have q1:=Tei (R.length*i) (prt R.length)
  have q2:=Tei (R.length* (i+1)) (prt R.length)
  have hp0:¬ ((prt R.length:Nat):Int)=0:=by omega
  have hp0':¬ prt R.length=0:=by omega
  have hpl:=Tfk R i h1
  rw[show R.length*i / prt R.length=cutAt16 R.length i from rfl,Int.natCast_mul]at q1
  rw[show R.length* (i+1) / prt R.length=cutAt16 R.length (i+1)from rfl,Int.natCast_mul,Int.natCast_add]at q2
  rw[show part16 R i= (R.drop (cutAt16 R.length i)).take (cutAt16 R.length (i+1)-cutAt16 R.length i)from rfl]at d hpl
  have w1:IntKind.wrap .i64 ((R.length:Int)* (i:Int))= (R.length:Int)*i:=by
   rw[← Int.natCast_mul]; exact Tab _ (by omega) (by omega)
  have w2:IntKind.wrap .i64 ((R.length:Int)* ((i:Int)+1))= (R.length:Int)* ((i:Int)+1):=by
   have e: (R.length:Int)* ((i:Int)+1)= ((R.length* (i+1):Nat):Int):=by rw[Int.natCast_mul]; rfl
   rw[e]; exact Tab _ (by omega) (by omega)
  have hrng: (List.range (i+1)).map (fun i=>PV.pt (g i))= (List.range i).map (fun i=>PV.pt (g i))++ [.pt (g i)]:=by rw[List.range_succ,List.map_append]; rfl
  have hol: ((List.range i).map fun i=>PV.pt (g i)).length=i:=by simp
  have ho:=Tml ((List.range i).map fun i=>PV.pt (g i)) (.pt (g i))
  rw[← hrng]at ho
  have q2': ((R.length:Int)* ((i:Int)+1)).tdiv (prt R.length)= (cutAt16 R.length (i+1):Nat):=q2
  obtain⟨pt,hpt⟩:∃ pt,(R.drop (cutAt16 R.length i)).take (cutAt16 R.length (i+1)-cutAt16 R.length i)=pt:= ⟨_,rfl⟩
  rw[hpt]at d hpl
  have w3:IntKind.wrap .i64 ((cutAt16 R.length i:Nat):Int)= (cutAt16 R.length i:Nat):=Tab _ (by omega) (by omega)
  have w4:IntKind.wrap .i64 ((cutAt16 R.length (i+1):Nat):Int)= (cutAt16 R.length (i+1):Nat):=Tab _ (by omega) (by omega)
  generalize cutAt16 R.length (i+1)=cb at *
  generalize cutAt16 R.length i=ca at *
  generalize prt R.length=p at *
  have hptl:pt.length<=1073741824:=by omega
  have hcap:pt.length*8<=maxBytes/\pt.length<=9223372036854775807:=by unfold maxBytes; omega
  have hcap2: (i+1)*8<=maxBytes/\i+1<=9223372036854775807:=by unfold maxBytes; omega
  have htk:pt.take pt.length=pt:=List.take_length
  rw[← ih',L_tree_spread_tree_node_rope_piece_rope_counts_tree_node_rope_piece_rope_counts_0,Taf]
  by_cases hz:pt.length=0
  · have hz':=List.eq_nil_of_length_eq_zero hz
    rw[hz']at d hpt
    have hcc:cb-ca=0:=by omega
    simp(disch:=omega)[h1,w1,w2,q1,q2',w3,w4,hp0,hp0',c1,c2,hz',hpt,d,hcap2,hol,ho,Taa,Tad,Tab,Taj,-getElem?_pos]
  · have hz':¬ pt= []:=fun e=>hz (by rw[e]; rfl)
    simp(disch:=omega)[h1,w1,w2,q1,q2',w3,w4,hp0,hp0',c1,c2,hz,hz',hpt,d,hcap,hcap2,hol,ho,htk,Taa,Tad,Tab,Taj,-getElem?_pos]
theorem spreadInner (R:List (List PV))(hR:R.length<1073741824)(f:FuncId)(g:Nat->List PV)(hf:∀ i,i<prt R.length->Run (EX cp) f [.sl 1 (part16 R i)]=some (.val (.pt (g i)))) :
 Run (EX cp) 211 [.sl 1 R,.fn f []]=some (.own 147 1 (ones ((List.range (prt R.length)).map fun i=>PV.pt (g i)))):=by
 have h:=Tgl (cp:=cp) R hR f g hf (prt R.length) 0 (by omega)
 rw[show((0:Nat):Int)=0 from rfl,List.range_zero,List.map_nil,Tp6]at h
 have q1:=Tei (R.length+15) 16
 have e1: ((R.length:Int)+16-1).tdiv 16= (prt R.length:Nat):=by
  have e: (R.length:Int)+16-1= ((R.length+15:Nat):Int):=by omega
  rw[e]; exact q1
 have e2:IntKind.wrap .i64 ((prt R.length:Nat):Int)= (prt R.length:Nat):=Tab _ (by omega) (by unfold prt; omega)
 have ho: (ones ((List.range (prt R.length)).map fun i=>PV.pt (g i))).take (prt R.length)=ones ((List.range (prt R.length)).map fun i=>PV.pt (g i)):=List.take_of_length_le (by simp)
 rw[Tah _ A_tree_spread_tree_node_rope_piece_rope_counts_tree_node_rope_piece_rope_counts _ rfl rfl rfl]
 generalize prt R.length=p at *
 simp(disch:=omega)[A_tree_spread_tree_node_rope_piece_rope_counts_tree_node_rope_piece_rope_counts,e1,e2,h,ho,Tab]
theorem Tvn (l:List ByteArray)(i:Nat):part16 (strs l) i=strs (part16 l i):=by
 unfold part16; rw[Tgt,Tr0,Trz]
theorem Tvo (q:List (PV×List ByteArray))(i:Nat):part16 (ones (q.map Prod.fst)) i=ones ((part16 q i).map Prod.fst):=by
 unfold part16; rw[Tg0,List.length_map,Tvj,Tvi,← List.map_drop,← List.map_take]
theorem Tp9 {α:Type}(l:List α)(i:Nat):∀ x∈part16 l i,x∈l:=fun x hx=>List.mem_of_mem_drop (List.mem_of_mem_take hx)
theorem Bd.part {l:List ByteArray}(h:Bd l)(i:Nat):Bd (part16 l i):= (h.drop _).take _
theorem Tky (q:List (PV×List ByteArray))(h:Bd (its q))(a b:Nat):Bd (its ((q.drop a).take b)):=by
 have h1:Bd (its (q.drop a)):=by
  rw[← List.take_append_drop a q,Tcj]at h; exact h.right
 rw[← List.take_append_drop b (q.drop a),Tcj]at h1
 exact h1.left
theorem Tfl {d:Nat}:∀(q:List (PV×List ByteArray)),(∀ p∈q,Nd d p.1 p.2)->q.length<= (its q).length
 | [],_=>by simp
 | p::q,h=>by
  have h1:= (h p (by simp)).deep
  have h2:=Tfl q fun r hr=>h r (by simp[hr])
  rw[Tfj,List.length_append,List.length_cons]; omega
def leavesQ (l:List ByteArray):List (PV×List ByteArray):= (List.range (prt l.length)).map fun i=> (.pt (nodeC [] (part16 l i) (part16 l i).length 1 (cntP (part16 l i))),part16 l i)
theorem Tey (l:List ByteArray):its (leavesQ l)=l:=by
 unfold its leavesQ
 rw[List.map_map]
 exact Tmm l
theorem Tr2 (l:List ByteArray):∀ p∈leavesQ l,Nd 0 p.1 p.2:=by
 intro p hp
 obtain⟨i,hi,rfl⟩:=List.mem_map.1 hp
 rw[List.mem_range]at hi
 refine⟨fun e=> ?_,rfl⟩
 have h1:=Tfk l i hi
 have e':part16 l i= []:=e
 rw[e']at h1
 have h2:=Tkx l.length i 1 (by unfold prt; omega) (by omega)
 simp at h1; omega
theorem Tr3 (l:List ByteArray)(h:l≠ []):leavesQ l≠ []:=fun e=>by
 have:=Tey l
 rw[e]at this
 exact h this.symm
theorem Tn2 (l:List ByteArray): (leavesQ l).map Prod.fst= (List.range (prt l.length)).map fun i=>PV.pt (nodeC [] (part16 l i) (part16 l i).length 1 (cntP (part16 l i))):=by
 unfold leavesQ; rw[List.map_map]; rfl
theorem T2r (l:List ByteArray)(hb:Bd l):∀ i,i<prt (strs l).length->Run (EX cp) 210 [.sl 1 (part16 (strs l) i)]=some (.val (.pt (nodeC [] (part16 l i) (part16 l i).length 1 (cntP (part16 l i))))):=by
 intro i _
 rw[Tvn]
 exact treeLeaf _ (hb.part i)
theorem spreadLeaves (l:List ByteArray)(hb:Bd l):Run (EX cp) 209 [.sl 1 (strs l),.fn 210 []]=some (.own 147 1 (ones ((leavesQ l).map Prod.fst))):=by
 rw[spreadLeaf (cp:=cp) (strs l) (by rw[Tgt]; exact hb.2) _ _ (T2r l hb),Tn2,Tgt]
def innerQ (d:Nat)(q:List (PV×List ByteArray)):List (PV×List ByteArray):= (List.range (prt q.length)).map fun i=> (.pt (nodeC ((part16 q i).map Prod.fst) [] (its (part16 q i)).length (d+2) (cntP (its (part16 q i)))),its (part16 q i))
theorem Tr4 (d:Nat)(q:List (PV×List ByteArray)):its (innerQ d q)=its q:=by
 have h:=Tmm q
 have key:∀ k,its ((List.range k).map fun i=> ((.pt (nodeC ((part16 q i).map Prod.fst) [] (its (part16 q i)).length (d+2) (cntP (its (part16 q i)))):PV),its (part16 q i)))=its (((List.range k).map (part16 q)).flatten):=by
  intro k
  induction k with
  | zero=>rfl
  | succ k ih=>rw[List.range_succ,List.map_append,List.map_append,Tcj,List.flatten_append,Tcj,ih]; simp[its]
 unfold innerQ
 rw[key,h]
theorem Tr5 (d:Nat)(q:List (PV×List ByteArray)): (innerQ d q).length=prt q.length:=by simp[innerQ]
theorem Tvp (d:Nat)(q:List (PV×List ByteArray))(hq:∀ p∈q,Nd d p.1 p.2)(h2:2<=q.length):∀ p∈innerQ d q,Nd (d+1) p.1 p.2:=by
 intro p hp
 obtain⟨i,hi,rfl⟩:=List.mem_map.1 hp
 rw[List.mem_range]at hi
 refine⟨part16 q i,?_,fun r hr=>hq r (Tp9 q i r hr),rfl,rfl⟩
 rw[Tfk q i hi]
 have:=Tkx q.length i 2 (by unfold prt; omega) (by omega)
 omega
theorem Tr6 (d:Nat)(q:List (PV×List ByteArray)): (innerQ d q).map Prod.fst= (List.range (prt q.length)).map fun i=>PV.pt (nodeC ((part16 q i).map Prod.fst) [] (its (part16 q i)).length (d+2) (cntP (its (part16 q i)))):=by
 unfold innerQ; rw[List.map_map]; rfl
theorem Tyx (d:Nat)(q:List (PV×List ByteArray))(hb:Bd (its q))(hq:∀ p∈q,Nd d p.1 p.2)(h2:2<=q.length):∀ i,i<prt (ones (q.map Prod.fst)).length->Run (EX cp) 212 [.sl 1 (part16 (ones (q.map Prod.fst)) i)]=some (.val (.pt (nodeC ((part16 q i).map Prod.fst) [] (its (part16 q i)).length (d+2) (cntP (its (part16 q i)))))):=by
 intro i hi
 rw[Tg0,List.length_map]at hi
 rw[Tvo]
 have hc:=Tfl q hq
 have hl:=Tfk q i hi
 have hcl:=Tp7 q.length (i+1) hi
 have:=Tkx q.length i 2 (by unfold prt; omega) (by omega)
 have:=hb.2
 exact treeInner (part16 q i) (Tky q hb _ _) d (fun r hr=>hq r (Tp9 q i r hr)) (by omega) (by omega)
theorem spreadInners (d:Nat)(q:List (PV×List ByteArray))(hb:Bd (its q))(hq:∀ p∈q,Nd d p.1 p.2)(h2:2<=q.length):Run (EX cp) 211 [.sl 1 (ones (q.map Prod.fst)),.fn 212 []]=some (.own 147 1 (ones ((innerQ d q).map Prod.fst))):=by
 have hc:=Tfl q hq
 have:=hb.2
 rw[spreadInner (cp:=cp) (ones (q.map Prod.fst)) (by rw[Tg0,List.length_map]; omega) _ _ (Tyx d q hb hq h2),Tr6,Tg0,List.length_map]
def RepT (x:PV)(l:List ByteArray):Prop:= (l= []/\x= .sc (.pointer none))∨∃ d,Nd d x l
theorem Tkz:∀(m d:Nat) (q:List (PV×List ByteArray)),q.length<=m->q≠ []-> (∀ p∈q,Nd d p.1 p.2)->Bd (its q) ->
 ∃ x d',Nd d' x (its q)/\Code (EX cp) L_tree_Make_rope_piece_rope_counts_0 ⟨[(2,.mp 2 0 0),(3,.ms 3 0 q.length)],[(2,.row 149 1 false [[.sc (.pointer none)]]),(3,.row 147 1 false (ones (q.map Prod.fst)))]⟩ =
  some (.ex 0,⟨[(2,.mp 2 0 0),(3,.ms 3 0 1),(12,.p (pb false))],[(2,.row 149 1 false [[.sc (.pointer none)]]),(3,.row 147 1 false (ones [x]))]⟩):=by
 intro m
 induction m with
 | zero=>intro d q h1 h2 _ _; exact absurd (List.eq_nil_of_length_eq_zero (by omega)) h2
 | succ m ih =>
  intro d q h1 h2 hq hb
  by_cases hone:q.length=1
  · match q,hone with
    | [p],_ =>
     refine⟨p.1,d,?_,?_⟩
     · rw[Tfj,show its []= []from rfl,List.append_nil]; exact hq p (by simp)
     · rw[L_tree_Make_rope_piece_rope_counts_0,Taf]
       simp[ones]
  · have hq0:0<q.length:=List.length_pos_iff.2 h2
    have h3:2<=q.length:=by omega
    have hc:=Tfl q hq
    have hbl:=hb.2
    have d1:=spreadInners (cp:=cp) d q hb hq h3
    have e1:=Tr4 d q
    have e2:=Tr5 d q
    have e3:prt q.length<q.length:=by unfold prt; omega
    have e4:1<=prt q.length:=by unfold prt; omega
    obtain⟨x,d',hx,ih'⟩:=ih (d+1) (innerQ d q) (by omega) (fun e=>by rw[e]at e2; simp at e2; omega) (Tvp d q hq h3) (by rw[e1]; exact hb)
    rw[e1]at hx
    refine⟨x,d',hx,?_⟩
    have hol: ((innerQ d q).map Prod.fst).length= (innerQ d q).length:=List.length_map ..
    have htk: (ones (q.map Prod.fst)).take q.length=ones (q.map Prod.fst):=List.take_of_length_le (by simp)
    have hln: (ones (q.map Prod.fst)).length=q.length:=by simp
    rw[← ih',L_tree_Make_rope_piece_rope_counts_0,Taf]
    generalize(innerQ d q).map Prod.fst=ks at *
    generalize(innerQ d q).length=n2 at *
    generalize ones (q.map Prod.fst)=R at *
    generalize q.length=n at *
    simp(disch:=omega)[d1,hol,htk,hln,Taa,Tad]
theorem treeMake (l:List ByteArray)(hb:Bd l):∃ x,Run (EX cp) 175 [.sl 1 (strs l)]=some (.val (.st [x]))/\RepT x l:=by
 rw[Tah _ A_tree_Make_rope_piece_rope_counts _ rfl rfl rfl]
 by_cases hl:l= []
 · subst hl
   exact⟨.sc (.pointer none),by simp[A_tree_Make_rope_piece_rope_counts],.inl ⟨rfl,rfl⟩⟩
 · have hl0:¬ l.length=0:=fun e=>hl (List.eq_nil_of_length_eq_zero e)
   have d1:=spreadLeaves (cp:=cp) l hb
   obtain⟨x,d',hx,h⟩:=Tkz (cp:=cp) (leavesQ l).length 0 (leavesQ l) (Nat.le_refl _) (Tr3 l hl) (Tr2 l) (by rw[Tey]; exact hb)
   rw[Tey]at hx
   refine⟨x,?_,.inr ⟨d',hx⟩⟩
   obtain⟨k0,i0,hs⟩:=hx.shape
   rw[hs]at h ⊢
   have hol: ((leavesQ l).map Prod.fst).length= (leavesQ l).length:=List.length_map ..
   have hg: (ones [PV.pt (nodeC k0 i0 l.length (d'+1) (cntP l))])[0]?=some [PV.pt (nodeC k0 i0 l.length (d'+1) (cntP l))]:=rfl
   generalize nodeC k0 i0 l.length (d'+1) (cntP l)=nc at *
   generalize(leavesQ l).map Prod.fst=ks at *
   generalize(leavesQ l).length=n2 at *
   simp(disch:=omega)[A_tree_Make_rope_piece_rope_counts,d1,hol,hl,hl0,h,hg,Taa,Tad,-getElem?_pos]
end Go.Proofs.YtjpibniecllafaaGreat.AM
end
