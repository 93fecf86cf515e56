/- Made by pack.py: AM14, AMN. No condition but what each says. -/
import Derived.Test.YtjpibniecllafaaGreatC3
set_option linter.unusedSimpArgs false
set_option linter.unusedVariables false
set_option maxHeartbeats 16000000
section
namespace Go.Proofs.YtjpibniecllafaaGreat.AM
open Go Go.RowKit
def isSl (P:Program)(t el:TypeId):Bool:=match P.underlying t with | some (.slice e)=>e == el | _=>false
def isStr (P:Program)(t:TypeId):Bool:=match P.underlying t with | some .string=>true | _=>false
theorem Tc7 {P:Program}{t el:TypeId}(h:isSl P t el=true):P.underlying t=some (.slice el):=by
 unfold isSl at h
 split at h
 · rename_i e he
   rw[he]; simp at h; rw[h]
 · simp at h
theorem Tbm {P:Program}{t:TypeId}(h:isStr P t=true):P.underlying t=some .string:=by
 unfold isStr at h
 split at h
 · assumption
 · simp at h
def zeroOf (P:Program)(e:TypeId):Option Value:= (P.info? e).bind (·.zero)
def zeroCellsOf (P:Program)(el:TypeId)(n:Nat):Array Value:=if n=0 then #[]else((zeroOf P el).getD .nilFunc).cells
def okS1 (P:Program)(op:Op)(so:SOp)(y:X):Bool:=match so,op with
 | .un u,.unOp u' _ x=>decide (u'=u)&&okX x y
 | .cv k,.convert t1 t2 x=> (P.underlying t1).isSome&& (match P.underlying t2 with | some (.int k')=>decide (k'=k) | _=>false)&&okX x y
 | .i2s,.convert t1 t2 x=> (P.underlying t1).isSome&&isStr P t2&&okX x y
 | .s2s,.convert t1 t2 x=> (P.underlying t1).isSome&&isStr P t2&&okX x y
 | _,_=>false
def okS2 (P:Program)(op:Op)(so:SOp)(y1 y2:X):Bool:=match so,op with
 | .bin b,.binOp b' _ x1 x2 _=>decide (b'=b)&&okX x1 y1&&okX x2 y2
 | .idx,.index t x1 x2=>isStr P t&&okX x1 y1&&okX x2 y2
 | .beq ne,.binOp b t x1 x2 _=>decide (b=if ne then .neq else .eql)&& (match P.underlying t with | some .bool=>true | _=>false)&&okX x1 y1&&okX x2 y2
 | .peq ne,.binOp b t x1 x2 _=>decide (b=if ne then .neq else .eql)&& (match P.underlying t with | some (.pointer _)=>true | _=>false)&&okX x1 y1&&okX x2 y2
 | _,_=>false
def okBlt (P:Program)(c:Go.Call)(ao:AOp):Bool:=match c.callee,c.args.toList,c.argTypes.toList,ao with
 | .builtin .len,[x],[t],.len y=> (match P.underlying t with | some (.slice _)=>true | _=>false)&&okX x y
 | .builtin .len,[x],[t],.lens y=>isStr P t&&okX x y
 | .builtin .append,[x,y],[t,t2],.app e k by_ x' y'=>t2 == t&&decide (0<k)&&isSl P t e&&elOk P e k by_&&okX x x'&&okX y y'
 | .builtin .append,[x,y],[t,t2],.apps e by_ x' y'=>isSl P t e&&isStr P t2&&elOk P e 1 by_&&okX x x'&&okX y y'
 | .builtin .copy,[x,y],[t,_],.cpy k x' y'=>decide (0<k)&& (match P.underlying t with | some (.slice e)=>P.cellsOf e == k | _=>false)&&okX x x'&&okX y y'
 | .builtin .len,[x],[t],.lend y=> (match P.underlying t with | some (.slice _)=>true | _=>false)&&okX x y
 | .builtin .copy,[x,y],[t,_],.cpyd k x' y'=>decide (0<k)&& (match P.underlying t with | some (.slice e)=>P.cellsOf e == k | _=>false)&&okX x x'&&okX y y'
 | .builtin .copy,[x,y],[t,_],.cpyo k x' y'=>decide (0<k)&& (match P.underlying t with | some (.slice e)=>P.cellsOf e == k | _=>false)&&okX x x'&&okX y y'
 | .builtin .max,xs,_,.mm true ys=>okXs xs ys
 | .builtin .min,xs,_,.mm false ys=>okXs xs ys
 | _,_,_,_=>false
def okA (P:Program)(op:Op)(ao:AOp):Bool:=match ao with
 | .mv y=> (match op with | .move x=>okX x y | .assign x=>okX x y | _=>false)
 | .nl _ k=>decide (0<k)&& (match op with | .move (.const (.slice none 0 0))=>true | .assign (.const (.slice none 0 0))=>true | _=>false)
 | .pick c' a' b'=> (match op with | .pick c a b=>okX c c'&&okX a a'&&okX b b' | _=>false)
 | .box e k y=> (match op with | .box t x=>t == e&&decide (0<k)&&okX x y | _=>false)
 | .alloc e k rows=> (match op with | .alloc t=>t == e&&decide (0<k)&& (match zeroOf P e with | some z=>okZ z.cells.toList rows.flatten | none=>false)&& (rows.all fun c=>c.length == k)&&decide (rows.length<=1000000) | _=>false)
 | .boxp e k y=> (match op with | .box t x=>t == e&&decide (0<k)&&okX x y | _=>false)
 | .alcp e k c=> (match op with | .alloc t=>t == e&&decide (0<k)&& (match zeroOf P e with | some z=>okZ z.cells.toList [c].flatten | none=>false)&& ([c].all fun x=>x.length == k) | _=>false)
 | .bld z qs=> (match op with
  | .build t ps=> (match P.underlying t,zeroOf P t with
   | some (.struct fs),some zv=>okZ zv.cells.toList z&&sizesOk P fs.toList&&okPs (fun i=> (fs[i]?).map fun f=> (f.offset,P.cellsOf f.type)) ps.toList qs
   | _,_=>false)
  | _=>false)
 | .bldp z qs=> (match op with
  | .build t ps=> (match P.underlying t,zeroOf P t with
   | some (.struct fs),some zv=>okZ zv.cells.toList z&&sizesOk P fs.toList&&okPs (fun i=> (fs[i]?).map fun f=> (f.offset,P.cellsOf f.type)) ps.toList qs
   | _,_=>false)
  | _=>false)
 | .bsl el k z qs=> (match op with
  | .buildSlice t n ps=>isSl P t el&&decide (0<k)&&P.cellsOf el == k&&z.length == n&& (z.all fun c=>c.length == k)&&decide (n*k<=16777216)&& (decide (n*k=0)|| (zeroOf P el).isSome)&&okZ (zeroRow (zeroCellsOf P el (n*k)) (n*k)).toList z.flatten&&okRs k ps.toList qs
  | _=>false)
 | .bslp el k z qs=> (match op with
  | .buildSlice t n ps=>isSl P t el&&decide (0<k)&&P.cellsOf el == k&&z.length == n&& (z.all fun c=>c.length == k)&&decide (n*k<=16777216)&& (decide (n*k=0)|| (zeroOf P el).isSome)&&okZ (zeroRow (zeroCellsOf P el (n*k)) (n*k)).toList z.flatten&&okRs k ps.toList qs
  | _=>false)
 | .iad k y j=> (match op with | .indexAddr t x i=> (match P.underlying t with | some (.slice e)=>P.cellsOf e == k | _=>false)&&decide (0<k)&&okX x y&&okX i j | _=>false)
 | .fad y off=> (match op with
  | .fieldAddr t x i=> (match P.underlying t with | some (.struct fs)=> (match fs[i]? with | some f=>f.offset == off&&decide (0<P.cellsOf f.type) | none=>false) | _=>false)&&okX x y
  | _=>false)
 | .ld1d y=> (match op with | .load t x=>decide (aggT P t=some false)&&okX x y | _=>false)
 | .ld1o y=> (match op with | .load t x=>decide (aggT P t=some false)&&okX x y | _=>false)
 | .sto1o x' y'=> (match op with | .store t x y=>P.cellsOf t == 1&&okX x x'&&okX y y' | _=>false)
 | .stod x' y'=> (match op with | .store t x y=>P.cellsOf t == 1&&okX x x'&&okX y y' | _=>false)
 | .sbn T _=> (match op with | .alloc t=>t == T&& (match zeroOf P T with | some z=> (match z.cells.toList with | [.pointer none,.slice none 0 0]=>true | _=>false) | none=>false) | _=>false)
 | .mvs y _=> (match op with | .move x=>okX x y | .assign x=>okX x y | _=>false)
 | .iap k y j=> (match op with | .indexAddr t x i=> (match P.underlying t with | some (.slice e)=>P.cellsOf e == k | _=>false)&&decide (0<k)&&okX x y&&okX i j | _=>false)
 | .ldp1 y=> (match op with | .load t x=>decide (aggT P t=some false)&&okX x y | _=>false)
 | .ldpk k y=> (match op with | .load t x=>decide (aggT P t=some true)&&P.cellsOf t == k&&decide (0<k)&&okX x y | _=>false)
 | .mvp y=> (match op with | .move x=>okX x y | .assign x=>okX x y | _=>false)
 | .ld1 y=> (match op with | .load t x=>decide (aggT P t=some false)&&okX x y | _=>false)
 | .ldk k y=> (match op with | .load t x=>decide (aggT P t=some true)&&P.cellsOf t == k&&decide (0<k)&&okX x y | _=>false)
 | .sto k x' y'=> (match op with | .store t x y=>P.cellsOf t == k&&decide (0<k)&&okX x x'&&okX y y' | _=>false)
 | .s1 so y=>okS1 P op so y
 | .s2 so y1 y2=>okS2 P op so y1 y2
 | .eqst ne ks y1 y2=> (match op with
  | .binOp b t x1 x2 _=>decide (b=if ne then .neq else .eql)&& (match P.underlying t with | some (.struct fs)=>okFs P 0 ks fs.toList | _=>false)&& !P.stoodInHeld t&& !P.eqGuardType P.depth t&&okX x1 y1&&okX x2 y2
  | _=>false)
 | .nck y=> (match op with | .nilCheck x=>okX x y | _=>false)
 | .mki t y=> (match op with | .makeInterface t' x=>t' == t&& (match P.underlying t with | some (.interface _)=>false | some _=>true | none=>false)&&okX x y | _=>false)
 | .fld1 y off=> (match op with
  | .field t x i=> (match P.underlying t with | some (.struct fs)=> (match fs[i]? with | some f=>f.offset == off&&decide (aggT P f.type=some false) | none=>false) | _=>false)&&okX x y
  | _=>false)
 | .fldk y off k=> (match op with
  | .field t x i=> (match P.underlying t with | some (.struct fs)=> (match fs[i]? with | some f=>f.offset == off&&decide (aggT P f.type=some true)&&P.cellsOf f.type == k&&decide (0<k) | none=>false) | _=>false)&&okX x y
  | _=>false)
 | .ixa k m y j=> (match op with | .index t x i=> (match P.underlying t with | some (.array m' e)=>m' == m&&decide (aggT P e=some true)&&P.cellsOf e == k | _=>false)&&decide (0<k)&&okX x y&&okX i j | _=>false)
 | .fa y off=> (match op with
  | .fieldAddr t x i=> (match P.underlying t with | some (.struct fs)=> (match fs[i]? with | some f=>f.offset == off&&decide (0<P.cellsOf f.type) | none=>false) | _=>false)&&okX x y
  | _=>false)
 | .ia k y j=> (match op with | .indexAddr t x i=> (match P.underlying t with | some (.slice e)=>P.cellsOf e == k | _=>false)&&decide (0<k)&&okX x y&&okX i j | _=>false)
 | .aa k m y j=> (match op with | .indexAddr t x i=> (match P.underlying t with | some (.array m' e)=>m' == m&&P.cellsOf e == k | _=>false)&&decide (0<k)&&okX x y&&okX i j | _=>false)
 | .mkf f ys=> (match op with | .makeFunc (.func f') first xs=>f' == f&&first.toList.isEmpty&&okXs xs.toList ys | _=>false)
 | .mks e k by_ z x' y'=> (match op with | .makeSlice t x y=>isSl P t e&&decide (0<k)&&elOk P e k by_&& (match zeroOf P e with | some z'=>okZ z'.cells.toList z | none=>false)&&okX x x'&&okX y y' | _=>false)
 | .slc k y lo' hi' mx'=> (match op with | .slice t x lo hi mx=> (match P.underlying t with | some (.slice e)=>P.cellsOf e == k | _=>false)&&decide (0<k)&&okX x y&&okO lo lo'&&okO hi hi'&&okO mx mx'&& (!mx.isSome||hi.isSome) | _=>false)
 | .sls y lo' hi'=> (match op with | .slice t x lo hi none=>isStr P t&&okX x y&&okO lo lo'&&okO hi hi' | _=>false)
 | .rng y=> (match op with | .range t x=>isStr P t&&okX x y | _=>false)
 | .nxt y=> (match op with | .next x true=>okX x y | _=>false)
 | .ext y i=> (match op with | .extract x j=>j == i&&okX x y | _=>false)
 | .b2s y=> (match op with | .convert t1 t2 x=> (match P.underlying t1 with | some (.slice e)=> (match P.underlying e with | some (.int .u8)=>true | _=>false) | _=>false)&&isStr P t2&&okX x y | _=>false)
 | .ldr y=> (match op with | .load t x=>decide (aggT P t=some false)&&okX x y | _=>false)
 | .ldkr k y=> (match op with | .load t x=>decide (aggT P t=some true)&&P.cellsOf t == k&&decide (0<k)&&okX x y | _=>false)
 | .ldrn _ k y=> (match op with | .load t x=>decide (aggT P t=some false)&&decide (0<k)&&okX x y | _=>false)
 | .ldkf ks y=> (match op with | .load t x=>decide (aggT P t=some true)&&P.cellsOf t == ks.length&&decide (0<ks.length)&&okX x y | _=>false)
 | .nkr y=> (match op with | .nilCheck x=>okX x y | _=>false)
 | .nlq ne y=> (match op with | .binOp b t x (.const (.pointer none)) _=>decide (b=if ne then .neq else .eql)&& (match P.underlying t with | some (.pointer _)=>true | _=>false)&&okX x y | _=>false)
 | .far y off=> (match op with
  | .fieldAddr t x i=> (match P.underlying t with | some (.struct fs)=> (match fs[i]? with | some f=>f.offset == off&&decide (0<P.cellsOf f.type) | none=>false) | _=>false)&&okX x y
  | _=>false)
 | .aar m y j=> (match op with | .indexAddr t x i=> (match P.underlying t with | some (.array m' e)=>m' == m&&P.cellsOf e == 1 | _=>false)&&okX x y&&okX i j | _=>false)
 | .ix1 m y j=> (match op with | .index t x i=> (match P.underlying t with | some (.array m' e)=>m' == m&&decide (aggT P e=some false)&&P.cellsOf e == 1 | _=>false)&&okX x y&&okX i j | _=>false)
 | .exr y i=> (match op with | .extract x j=>j == i&&okX x y | _=>false)
 | .mkr f ys=> (match op with | .makeFunc (.func f') first xs=>f' == f&&first.toList.isEmpty&&okXs xs.toList ys | _=>false)
 | .boxr e k y=> (match op with | .box t x=>t == e&&decide (0<k)&&okX x y | _=>false)
 | .alr e k c=> (match op with | .alloc t=>t == e&&decide (0<k)&& (match zeroOf P e with | some z=>okZ z.cells.toList c | none=>false)&&c.length == k | _=>false)
 | .stor k x' y'=> (match op with | .store t x y=>P.cellsOf t == k&&decide (0<k)&&okX x x'&&okX y y' | _=>false)
 | .storf k x' y'=> (match op with | .store t x y=>P.cellsOf t == k&&decide (0<k)&&okX x x'&&okX y y' | _=>false)
 | .bldr z qs=> (match op with
  | .build t ps=> (match P.underlying t,zeroOf P t with
   | some (.struct fs),some zv=>okZ zv.cells.toList z&&sizesOk P fs.toList&&okPs (fun i=> (fs[i]?).map fun f=> (f.offset,P.cellsOf f.type)) ps.toList qs
   | _,_=>false)
  | _=>false)
 | .bldrf z qs=> (match op with
  | .build t ps=> (match P.underlying t,zeroOf P t with
   | some (.struct fs),some zv=>okZ zv.cells.toList z&&sizesOk P fs.toList&&okPs (fun i=> (fs[i]?).map fun f=> (f.offset,P.cellsOf f.type)) ps.toList qs
   | _,_=>false)
  | _=>false)
 | ao=> (match op with | .call c=>okBlt P c ao | _=>false)
section
variable {P:Program}{base:Nat}{w0:World}{lm0:L0}{N:Nat}{g:Gs}{a:Act}{w:World}{s:St}{o:Oper}
theorem ofList {α:Type}{x:Array α}{l:List α}(h:x.toList=l):x=l.toArray:=by rw[← h]
theorem Ts5 (S:Sim base w0 lm0 N g a w s){c:Go.Call}{ao:AOp}{call:Call}{d:Nat}{e:Eff}(ho:o.op= .call c)(h:okBlt P c ao=true)(he:eff call s d ao=some e):EffOK P base w0 lm0 N g a w s o e:=by
 obtain⟨cal,args,ts⟩:=c
 unfold okBlt at h
 dsimp only at h
 split at h
 · rename_i x t y h2 h3
   rw[ofList h2,ofList h3]at ho
   simp only[Bool.and_eq_true]at h
   cases ht:P.underlying t with
   | none=>rw[ht]at h; simp at h
   | some q =>
    rw[ht]at h
    cases q<;> simp at h
    exact T0a S ho ht h he
 · rename_i x t y h2 h3
   rw[ofList h2,ofList h3]at ho
   simp only[Bool.and_eq_true]at h
   exact Twq S ho (Tbm h.1) h.2 he
 · rename_i x y t t2 e' k by_ x' y' h2 h3
   rw[ofList h2,ofList h3]at ho
   simp only[Bool.and_eq_true,decide_eq_true_eq,beq_iff_eq]at h
   obtain⟨⟨⟨⟨⟨rfl,q1⟩,q2⟩,q3⟩,q4⟩,q5⟩:=h
   exact T0k S q1 ho (Tc7 q2) q3 q4 q5 he
 · rename_i x y t t2 e' by_ x' y' h2 h3
   rw[ofList h2,ofList h3]at ho
   simp only[Bool.and_eq_true]at h
   obtain⟨⟨⟨⟨q1,q2⟩,q3⟩,q4⟩,q5⟩:=h
   exact Twv S ho (Tc7 q1) (Tbm q2) q3 q4 q5 he
 · rename_i x y t t2 k x' y' h2 h3
   rw[ofList h2,ofList h3]at ho
   simp only[Bool.and_eq_true,decide_eq_true_eq]at h
   obtain⟨⟨⟨q1,q2⟩,q3⟩,q4⟩:=h
   cases ht:P.underlying t with
   | none=>rw[ht]at q2; simp at q2
   | some q =>
    rw[ht]at q2
    cases q<;> simp at q2
    exact Tsz S q1 ho ht q2 q3 q4 he
 · rename_i x t y h2 h3
   rw[ofList h2,ofList h3]at ho
   simp only[Bool.and_eq_true]at h
   cases ht:P.underlying t with
   | none=>rw[ht]at h; simp at h
   | some q =>
    rw[ht]at h
    cases q<;> simp at h
    exact Twy S ho ht h he
 · rename_i x y t t2 k x' y' h2 h3
   rw[ofList h2,ofList h3]at ho
   simp only[Bool.and_eq_true,decide_eq_true_eq]at h
   obtain⟨⟨⟨q1,q2⟩,q3⟩,q4⟩:=h
   cases ht:P.underlying t with
   | none=>rw[ht]at q2; simp at q2
   | some q =>
    rw[ht]at q2
    cases q<;> simp at q2
    exact Tww S q1 ho ht q2 q3 q4 he
 · rename_i x y t t2 k x' y' h2 h3
   rw[ofList h2,ofList h3]at ho
   simp only[Bool.and_eq_true,decide_eq_true_eq]at h
   obtain⟨⟨⟨q1,q2⟩,q3⟩,q4⟩:=h
   cases ht:P.underlying t with
   | none=>rw[ht]at q2; simp at q2
   | some q =>
    rw[ht]at q2
    cases q<;> simp at q2
    exact Tw2 S q1 ho ht q2 q3 q4 he
 · exact Ty9 S (mx:=true) (xs:=args.toList) (by simpa using ho) h he
 · exact Ty9 S (mx:=false) (xs:=args.toList) (by simpa using ho) h he
 · simp at h
theorem Txa (S:Sim base w0 lm0 N g a w s){so:SOp}{y:X}{call:Call}{d:Nat}{e:Eff}(h:okS1 P o.op so y=true)(he:eff call s d (.s1 so y)=some e):EffOK P base w0 lm0 N g a w s o e:=by
 simp only[eff]at he
 split at he
 · rename_i z hv
   cases hr:sop1 so z with
   | none=>rw[hr]at he; simp[uns]at he
   | some r =>
    rw[hr]at he
    simp only[uns,oIE]at he
    subst he
    unfold okS1 at h
    split at h
    · rename_i u u' t x ho
      simp only[Bool.and_eq_true,decide_eq_true_eq]at h
      exact T27 S ho h.1 h.2 hv hr
    · rename_i k t1 t2 x ho
      simp only[Bool.and_eq_true]at h
      obtain⟨⟨q1,q2⟩,q3⟩:=h
      obtain⟨d1,hd1⟩:=Option.isSome_iff_exists.1 q1
      cases ht:P.underlying t2 with
      | none=>rw[ht]at q2; simp at q2
      | some q =>
       rw[ht]at q2
       cases q<;> simp at q2
       subst q2
       exact T28 S ho hd1 ht q3 hv hr
    · rename_i t1 t2 x ho
      simp only[Bool.and_eq_true]at h
      obtain⟨⟨q1,q2⟩,q3⟩:=h
      obtain⟨d1,hd1⟩:=Option.isSome_iff_exists.1 q1
      exact Tz3 S ho hd1 (Tbm q2) q3 hv hr
    · rename_i t1 t2 x ho
      simp only[Bool.and_eq_true]at h
      obtain⟨⟨q1,q2⟩,q3⟩:=h
      obtain⟨d1,hd1⟩:=Option.isSome_iff_exists.1 q1
      exact Tz4 S ho hd1 (Tbm q2) q3 hv hr
    · simp at h
 · simp at he
theorem Txb (S:Sim base w0 lm0 N g a w s){so:SOp}{y1 y2:X}{call:Call}{d:Nat}{e:Eff}(h:okS2 P o.op so y1 y2=true)(he:eff call s d (.s2 so y1 y2)=some e):EffOK P base w0 lm0 N g a w s o e:=by
 have plain: (∀ ne,so≠ .peq ne)->∃ z1 z2 r,y1.ev s=some (.p z1)/\y2.ev s=some (.p z2)/\sop2 so z1 z2=some r/\e= ⟨.p r,[]⟩:=by
  intro hne
  simp only[eff]at he
  split at he
  · rename_i z1 z2 hv1 hv2
    cases hr:sop2 so z1 z2 with
    | none=>rw[hr]at he; simp[uns]at he
    | some r =>
     rw[hr]at he
     simp only[uns,oIE]at he
     exact⟨z1,z2,r,hv1,hv2,hr,he.symm⟩
  · exfalso
    cases so<;> first | (simp at he; done) | exact hne _ rfl
  · simp at he
 unfold okS2 at h
 split at h
 · rename_i b b' t x1 x2 ty ho
   simp only[Bool.and_eq_true,decide_eq_true_eq]at h
   obtain⟨⟨rfl,q2⟩,q3⟩:=h
   obtain⟨z1,z2,r,hv1,hv2,hr,rfl⟩:=plain (by simp)
   exact Tz5 S ho q2 q3 hv1 hv2 hr
 · rename_i t x1 x2 ho
   simp only[Bool.and_eq_true]at h
   obtain⟨⟨q1,q2⟩,q3⟩:=h
   obtain⟨z1,z2,r,hv1,hv2,hr,rfl⟩:=plain (by simp)
   exact Tz6 S ho (Tbm q1) q2 q3 hv1 hv2 hr
 · rename_i ne b t x1 x2 ty ho
   simp only[Bool.and_eq_true,decide_eq_true_eq]at h
   obtain⟨⟨⟨q0,q1⟩,q2⟩,q3⟩:=h
   obtain⟨z1,z2,r,hv1,hv2,hr,rfl⟩:=plain (by simp)
   cases ht:P.underlying t with
   | none=>rw[ht]at q1; simp at q1
   | some q =>
    rw[ht]at q1
    cases q<;> simp at q1
    exact Tz7 S q0 ho ht q2 q3 hv1 hv2 hr
 · rename_i ne b t x1 x2 ty ho
   simp only[Bool.and_eq_true,decide_eq_true_eq]at h
   obtain⟨⟨⟨q0,q1⟩,q2⟩,q3⟩:=h
   cases ht:P.underlying t with
   | none=>rw[ht]at q1; simp at q1
   | some q =>
    rw[ht]at q1
    cases q<;> simp at q1
    exact Tz8 S q0 ho ht q2 q3 he
 · simp at h
theorem Tj1 {k:Nat}{l:List (List PV)}(h: (l.all fun c=>c.length == k)=true):∀ c∈l,c.length=k:=by
 intro c hc
 have:=List.all_eq_true.1 h c hc
 simpa using this
theorem Ts6 (S:Sim base w0 lm0 N g a w s) {ao:AOp} {call:Call} {d:Nat} {e:Eff} (h:okA P o.op ao=true) (he:eff call s d ao=some e):EffOK P base w0 lm0 N g a w s o e:=by
 cases ao
 case mv y =>
  simp only[eff]at he
  cases hv:y.ev s with
  | none=>rw[hv]at he; simp at he
  | some v =>
   rw[hv]at he
   simp only[oIE]at he
   subst he
   simp only[okA]at h
   split at h
   · rename_i x ho; exact Ty6 S (.inl ho) h hv
   · rename_i x ho; exact Ty6 S (.inr ho) h hv
   · simp at h
 case nl e' k =>
  simp only[okA,Bool.and_eq_true,decide_eq_true_eq]at h
  obtain⟨h0,h⟩:=h
  split at h
  · rename_i ho; exact Tza S h0 (.inl ho) he
  · rename_i ho; exact Tza S h0 (.inr ho) he
  · simp at h
 case pick c' a' b' =>
  simp only[okA]at h
  split at h
  · rename_i c x y ho
    simp only[Bool.and_eq_true]at h
    obtain⟨⟨q1,q2⟩,q3⟩:=h
    simp only[eff]at he
    split at he
    · rename_i b v1 v2 h1 h2 h3
      simp only[oIE]at he
      subst he
      exact Twn S ho q1 q2 q3 h1 h2 h3
    · simp at he
  · simp at h
 case box e' k y =>
  simp only[okA]at h
  split at h
  · rename_i t x ho
    simp only[Bool.and_eq_true,decide_eq_true_eq,beq_iff_eq]at h
    obtain⟨⟨rfl,q2⟩,q3⟩:=h
    exact Tst S q2 ho q3 he
  · simp at h
 case alloc e' k rows =>
  simp only[okA]at h
  split at h
  · rename_i t ho
    simp only[Bool.and_eq_true,decide_eq_true_eq,beq_iff_eq]at h
    obtain⟨⟨⟨⟨rfl,q2⟩,q3⟩,q4⟩,q5⟩:=h
    cases hz:zeroOf P t with
    | none=>rw[hz]at q3; simp at q3
    | some z =>
     rw[hz]at q3
     exact Tlf S q2 ho hz q3 (Tj1 q4) (by simp only[maxLen]; omega) he
  · simp at h
 case boxp e' k y =>
  simp only[okA]at h
  split at h
  · rename_i t x ho
    simp only[Bool.and_eq_true,decide_eq_true_eq,beq_iff_eq]at h
    obtain⟨⟨rfl,q2⟩,q3⟩:=h
    exact Tws S q2 ho q3 he
  · simp at h
 case alcp e' k rows =>
  simp only[okA]at h
  split at h
  · rename_i t ho
    simp only[Bool.and_eq_true,decide_eq_true_eq,beq_iff_eq]at h
    obtain⟨⟨⟨rfl,q2⟩,q3⟩,q4⟩:=h
    cases hz:zeroOf P t with
    | none=>rw[hz]at q3; simp at q3
    | some z =>
     rw[hz]at q3
     exact Twt S q2 ho hz q3 (Tj1 q4) he
  · simp at h
 case bld z qs =>
  simp only[okA]at h
  split at h
  · rename_i t ps ho
    split at h
    · rename_i fs zv ht hz
      simp only[Bool.and_eq_true]at h
      obtain⟨⟨q1,q2⟩,q3⟩:=h
      exact Tem S ho ht hz q1 q2 q3 he
    · simp at h
  · simp at h
 case bldp z qs =>
  have he':eff call s d (.bld z qs)=some e:=by
   simp only[eff]at he ⊢
   cases hv0:evp s (qs.map fun q=>q.2.2)with
   | none=>rw[hv0]at he; simp at he
   | some ys =>
    rw[hv0]at he
    dsimp only at he
    obtain⟨q1,q2⟩:=Tmz hv0
    rw[q1]
    dsimp only
    rw[q2 s.h]
    exact he
  simp only[okA]at h
  split at h
  · rename_i t ps ho
    split at h
    · rename_i fs zv ht hz
      simp only[Bool.and_eq_true]at h
      obtain⟨⟨q1,q2⟩,q3⟩:=h
      exact Tem S ho ht hz q1 q2 q3 he'
    · simp at h
  · simp at h
 case bsl el k z qs =>
  simp only[okA]at h
  split at h
  · rename_i t n ps ho
    simp only[Bool.and_eq_true,decide_eq_true_eq,beq_iff_eq,Bool.or_eq_true]at h
    obtain⟨⟨⟨⟨⟨⟨⟨⟨q1,q2⟩,q3⟩,q4⟩,q5⟩,q6⟩,q7⟩,q8⟩,q9⟩:=h
    exact T0i S q2 ho (Tc7 q1) q3 q4 (Tj1 q5) rfl q7 q8 q6 q9 he
  · simp at h
 case bslp el k z qs =>
  simp only[okA]at h
  split at h
  · rename_i t n ps ho
    simp only[Bool.and_eq_true,decide_eq_true_eq,beq_iff_eq,Bool.or_eq_true]at h
    obtain⟨⟨⟨⟨⟨⟨⟨⟨q1,q2⟩,q3⟩,q4⟩,q5⟩,q6⟩,q7⟩,q8⟩,q9⟩:=h
    exact Twu S q2 ho (Tc7 q1) q3 q4 (Tj1 q5) rfl q7 q8 q6 q9 he
  · simp at h
 case iad k y j =>
  simp only[okA]at h
  split at h
  · rename_i t x i ho
    simp only[Bool.and_eq_true,decide_eq_true_eq]at h
    obtain⟨⟨⟨q1,q2⟩,q3⟩,q4⟩:=h
    split at q1
    · rename_i e' ht
      exact T0p S ho ht (by simpa using q1) q2 q3 q4 he
    · simp at q1
  · simp at h
 case fad y off =>
  simp only[okA]at h
  split at h
  · rename_i t x i ho
    simp only[Bool.and_eq_true]at h
    obtain⟨q1,q2⟩:=h
    split at q1
    · rename_i fs ht
      split at q1
      · rename_i f hf
        simp only[Bool.and_eq_true,decide_eq_true_eq,beq_iff_eq]at q1
        exact T0o S ho ht hf q1.1 q1.2 q2 he
      · simp at q1
    · simp at q1
  · simp at h
 case ld1d y =>
  simp only[okA]at h
  split at h
  · rename_i t x ho
    simp only[Bool.and_eq_true,decide_eq_true_eq]at h
    exact Twx S ho h.1 h.2 he
  · simp at h
 case ld1o y =>
  simp only[okA]at h
  split at h
  · rename_i t x ho
    simp only[Bool.and_eq_true,decide_eq_true_eq]at h
    exact Twz S ho h.1 h.2 he
  · simp at h
 case sto1o x' y' =>
  simp only[okA]at h
  split at h
  · rename_i t x y ho
    simp only[Bool.and_eq_true,beq_iff_eq]at h
    exact Ts1 S ho h.1.1 h.1.2 h.2 he
  · simp at h
 case stod x' y' =>
  simp only[okA]at h
  split at h
  · rename_i t x y ho
    simp only[Bool.and_eq_true,beq_iff_eq]at h
    exact Tw0 S ho h.1.1 h.1.2 h.2 he
  · simp at h
 case sbn T e1 =>
  simp only[okA]at h
  split at h
  · rename_i t ho
    simp only[Bool.and_eq_true,beq_iff_eq]at h
    obtain⟨rfl,h2⟩:=h
    cases hz:zeroOf P t with
    | none=>rw[hz]at h2; simp at h2
    | some z =>
     rw[hz]at h2
     dsimp only at h2
     split at h2
     · rename_i hzc
       exact T0q S ho hz (by apply Array.ext'; rw[hzc]) he
     · simp at h2
  · simp at h
 case mvs y z =>
  simp only[okA]at h
  split at h
  · rename_i x ho; exact Ts0 S (.inl ho) h he
  · rename_i x ho; exact Ts0 S (.inr ho) h he
  · simp at h
 case iap k y j =>
  have he':eff call s d (.ia k y j)=some e:=by
   simp only[eff]at he ⊢
   split at he
   · rename_i h1 h2; rw[h1,h2]; exact he
   · simp at he
  simp only[okA]at h
  split at h
  · rename_i t x i ho
    simp only[Bool.and_eq_true,decide_eq_true_eq]at h
    obtain⟨⟨⟨q1,q2⟩,q3⟩,q4⟩:=h
    split at q1
    · rename_i e' ht
      exact Ty8 S ho ht (by simpa using q1) q2 q3 q4 he'
    · simp at q1
  · simp at h
 case ldp1 y =>
  have he':eff call s d (.ld1 y)=some e:=by
   simp only[eff]at he ⊢
   split at he
   · rename_i h1; rw[h1]; exact he
   · simp at he
  simp only[okA]at h
  split at h
  · rename_i t x ho
    simp only[Bool.and_eq_true,decide_eq_true_eq]at h
    exact Tsn S ho h.1 h.2 he'
  · simp at h
 case ldpk k y =>
  have he':eff call s d (.ldk k y)=some e:=by
   simp only[eff]at he ⊢
   split at he
   · rename_i h1; rw[h1]; exact he
   · simp at he
  simp only[okA]at h
  split at h
  · rename_i t x ho
    simp only[Bool.and_eq_true,decide_eq_true_eq,beq_iff_eq]at h
    obtain⟨⟨⟨q1,q2⟩,q3⟩,q4⟩:=h
    exact Tso S ho q1 q2 q3 q4 he'
  · simp at h
 case mvp y =>
  simp only[eff]at he
  cases hv:y.ev s with
  | none=>rw[hv]at he; simp at he
  | some v =>
   rw[hv]at he
   dsimp only at he
   cases hf:frz s.h v with
   | none=>rw[hf]at he; simp at he
   | some q =>
    obtain⟨z,fr⟩:=q
    rw[hf]at he
    simp only[oIE]at he
    subst he
    simp only[okA]at h
    split at h
    · rename_i x ho
      exact EffOK.frz S (Tag S h hv) hf (u:=a.eval x) (by simp[execOp,ho]) (fun lm' h=>h)
    · rename_i x ho
      exact EffOK.frz S (Tag S h hv) hf (u:=a.eval x) (by simp[execOp,ho]) (fun lm' h=>h)
    · simp at h
 case ld1 y =>
  simp only[okA]at h
  split at h
  · rename_i t x ho
    simp only[Bool.and_eq_true,decide_eq_true_eq]at h
    exact Tsn S ho h.1 h.2 he
  · simp at h
 case ldk k y =>
  simp only[okA]at h
  split at h
  · rename_i t x ho
    simp only[Bool.and_eq_true,decide_eq_true_eq,beq_iff_eq]at h
    obtain⟨⟨⟨q1,q2⟩,q3⟩,q4⟩:=h
    exact Tso S ho q1 q2 q3 q4 he
  · simp at h
 case sto k x' y' =>
  simp only[okA]at h
  split at h
  · rename_i t x y ho
    simp only[Bool.and_eq_true,decide_eq_true_eq,beq_iff_eq]at h
    obtain⟨⟨⟨q1,q2⟩,q3⟩,q4⟩:=h
    exact T0j S q2 ho q1 q3 q4 he
  · simp at h
 case s1 so y=>exact Txa S h he
 case s2 so y1 y2=>exact Txb S h he
 case eqst ne ks y1 y2 =>
  simp only[okA]at h
  split at h
  · rename_i b t x1 x2 ty ho
    simp only[Bool.and_eq_true,decide_eq_true_eq,Bool.not_eq_true']at h
    obtain⟨⟨⟨⟨⟨q1,q2⟩,q3⟩,q4⟩,q5⟩,q6⟩:=h
    cases ht:P.underlying t with
    | none=>rw[ht]at q2; simp at q2
    | some q =>
     rw[ht]at q2
     cases q<;> simp at q2
     exact Twr S q1 ho ht q2 q3 q4 q5 q6 he
  · simp at h
 case nck y =>
  simp only[okA]at h
  split at h
  · rename_i x ho; exact T0d S ho h he
  · simp at h
 case mki t y =>
  simp only[okA]at h
  split at h
  · rename_i t' x ho
    simp only[Bool.and_eq_true,beq_iff_eq]at h
    obtain⟨⟨rfl,q2⟩,q3⟩:=h
    cases ht:P.underlying t' with
    | none=>rw[ht]at q2; simp at q2
    | some q =>
     rw[ht]at q2
     exact T0f S ho ht (fun ms hms=>by rw[hms]at q2; simp at q2) q3 he
  · simp at h
 case fld1 y off =>
  simp only[okA]at h
  split at h
  · rename_i t x i ho
    simp only[Bool.and_eq_true]at h
    obtain⟨q1,q2⟩:=h
    split at q1
    · rename_i fs ht
      split at q1
      · rename_i f hf
        simp only[Bool.and_eq_true,decide_eq_true_eq,beq_iff_eq]at q1
        exact Two S ho ht hf q1.1 q1.2 q2 he
      · simp at q1
    · simp at q1
  · simp at h
 case ixa k m y j =>
  simp only[okA]at h
  split at h
  · rename_i t x i ho
    simp only[Bool.and_eq_true,decide_eq_true_eq]at h
    obtain⟨⟨⟨q1,q2⟩,q3⟩,q4⟩:=h
    split at q1
    · rename_i m' e' ht
      simp only[Bool.and_eq_true,decide_eq_true_eq,beq_iff_eq]at q1
      obtain⟨⟨rfl,p2⟩,p3⟩:=q1
      exact Tz9 S ho ht p2 p3 q2 q3 q4 he
    · simp at q1
  · simp at h
 case fldk y off k =>
  simp only[okA]at h
  split at h
  · rename_i t x i ho
    simp only[Bool.and_eq_true]at h
    obtain⟨q1,q2⟩:=h
    split at q1
    · rename_i fs ht
      split at q1
      · rename_i f hf
        simp only[Bool.and_eq_true,decide_eq_true_eq,beq_iff_eq]at q1
        obtain⟨⟨⟨p1,p2⟩,p3⟩,p4⟩:=q1
        exact Twp S ho ht hf p1 p2 p3 p4 q2 he
      · simp at q1
    · simp at q1
  · simp at h
 case fa y off =>
  simp only[okA]at h
  split at h
  · rename_i t x i ho
    simp only[Bool.and_eq_true]at h
    obtain⟨q1,q2⟩:=h
    split at q1
    · rename_i fs ht
      split at q1
      · rename_i f hf
        simp only[Bool.and_eq_true,decide_eq_true_eq,beq_iff_eq]at q1
        exact T29 S ho ht hf q1.1 q1.2 q2 he
      · simp at q1
    · simp at q1
  · simp at h
 case ia k y j =>
  simp only[okA]at h
  split at h
  · rename_i t x i ho
    simp only[Bool.and_eq_true,decide_eq_true_eq]at h
    obtain⟨⟨⟨q1,q2⟩,q3⟩,q4⟩:=h
    split at q1
    · rename_i e' ht
      exact Ty8 S ho ht (by simpa using q1) q2 q3 q4 he
    · simp at q1
  · simp at h
 case aa k m y j =>
  simp only[okA]at h
  split at h
  · rename_i t x i ho
    simp only[Bool.and_eq_true,decide_eq_true_eq]at h
    obtain⟨⟨⟨q1,q2⟩,q3⟩,q4⟩:=h
    split at q1
    · rename_i m' e' ht
      simp only[Bool.and_eq_true,beq_iff_eq]at q1
      obtain⟨rfl,q5⟩:=q1
      exact T3a S ho ht q5 q2 q3 q4 he
    · simp at q1
  · simp at h
 case mkf f ys =>
  simp only[okA]at h
  split at h
  · rename_i f' first xs ho
    simp only[Bool.and_eq_true,beq_iff_eq]at h
    obtain⟨⟨rfl,q2⟩,q3⟩:=h
    have:first= #[]:=by simpa using q2
    subst this
    exact T0e S (xs:=xs.toList) (by simpa using ho) q3 he
  · simp at h
 case mks e' k by_ z x' y' =>
  simp only[okA]at h
  split at h
  · rename_i t x y ho
    simp only[Bool.and_eq_true,decide_eq_true_eq]at h
    obtain⟨⟨⟨⟨⟨q1,q2⟩,q3⟩,q4⟩,q5⟩,q6⟩:=h
    cases hz:zeroOf P e' with
    | none=>rw[hz]at q4; simp at q4
    | some zv =>
     rw[hz]at q4
     exact T0l S q2 ho (Tc7 q1) q3 hz q4 q5 q6 he
  · simp at h
 case slc k y lo' hi' mx' =>
  simp only[okA]at h
  split at h
  · rename_i t x lo hi mx ho
    simp only[Bool.and_eq_true,decide_eq_true_eq]at h
    obtain⟨⟨⟨⟨⟨⟨q1,q2⟩,q3⟩,q4⟩,q5⟩,q6⟩,q7⟩:=h
    split at q1
    · rename_i e' ht
      exact T0c S ho ht (by simpa using q1) q2 q3 q4 q5 q6 (fun hm=>by rw[hm]at q7; simpa using q7) he
    · simp at q1
  · simp at h
 case sls y lo' hi' =>
  simp only[okA]at h
  split at h
  · rename_i t x lo hi ho
    simp only[Bool.and_eq_true]at h
    obtain⟨⟨⟨q1,q2⟩,q3⟩,q4⟩:=h
    exact T0b S ho (Tbm q1) q2 q3 q4 he
  · simp at h
 case rng y =>
  simp only[okA]at h
  split at h
  · rename_i t x ho
    simp only[Bool.and_eq_true]at h
    exact T0m S ho (Tbm h.1) h.2 he
  · simp at h
 case nxt y =>
  simp only[okA]at h
  split at h
  · rename_i x ho; exact T0n S ho h he
  · simp at h
 case ext y i =>
  simp only[okA]at h
  split at h
  · rename_i x j ho
    simp only[Bool.and_eq_true,beq_iff_eq]at h
    obtain⟨rfl,q2⟩:=h
    exact Tsp S ho q2 he
  · simp at h
 case b2s y =>
  simp only[okA]at h
  split at h
  · rename_i t1 t2 x ho
    simp only[Bool.and_eq_true]at h
    obtain⟨⟨q1,q2⟩,q3⟩:=h
    split at q1
    · rename_i e' ht
      split at q1
      · rename_i hu; exact T0h S ho ht (Tbm q2) hu q3 he
      · simp at q1
    · simp at q1
  · simp at h
 case ldr y =>
  simp only[okA]at h
  split at h
  · rename_i t x ho
    simp only[Bool.and_eq_true,decide_eq_true_eq]at h
    exact T0r S ho h.1 h.2 he
  · simp at h
 case ldkr k y =>
  simp only[okA]at h
  split at h
  · rename_i t x ho
    simp only[Bool.and_eq_true,decide_eq_true_eq,beq_iff_eq]at h
    obtain⟨⟨⟨q1,q2⟩,q3⟩,q4⟩:=h
    exact Tw4 S ho q1 q2 q3 q4 he
  · simp at h
 case ldrn e1 k y =>
  simp only[okA]at h
  split at h
  · rename_i t x ho
    simp only[Bool.and_eq_true,decide_eq_true_eq]at h
    exact Tw5 S h.1.2 ho h.1.1 h.2 he
  · simp at h
 case ldkf ks y =>
  simp only[okA]at h
  split at h
  · rename_i t x ho
    simp only[Bool.and_eq_true,decide_eq_true_eq,beq_iff_eq]at h
    obtain⟨⟨⟨q1,q2⟩,q3⟩,q4⟩:=h
    exact Tw6 S ho q1 q2 q3 q4 he
  · simp at h
 case nkr y =>
  simp only[okA]at h
  split at h
  · rename_i x ho; exact T0s S ho h he
  · simp at h
 case nlq ne y =>
  simp only[okA]at h
  split at h
  · rename_i b t x ty ho
    simp only[Bool.and_eq_true,decide_eq_true_eq]at h
    obtain⟨⟨q1,q2⟩,q3⟩:=h
    cases ht:P.underlying t with
    | none=>rw[ht]at q2; simp at q2
    | some q =>
     rw[ht]at q2
     cases q<;> simp at q2
     exact T0t S q1 ho ht q3 he
  · simp at h
 case far y off =>
  simp only[okA]at h
  split at h
  · rename_i t x i ho
    simp only[Bool.and_eq_true]at h
    obtain⟨q1,q2⟩:=h
    split at q1
    · rename_i fs ht
      split at q1
      · rename_i f hf
        simp only[Bool.and_eq_true,decide_eq_true_eq,beq_iff_eq]at q1
        exact T0u S ho ht hf q1.1 q1.2 q2 he
      · simp at q1
    · simp at q1
  · simp at h
 case aar m y j =>
  simp only[okA]at h
  split at h
  · rename_i t x i ho
    simp only[Bool.and_eq_true]at h
    obtain⟨⟨q1,q2⟩,q3⟩:=h
    split at q1
    · rename_i m' e' ht
      simp only[Bool.and_eq_true,beq_iff_eq]at q1
      obtain⟨rfl,q5⟩:=q1
      exact T0v S ho ht q5 q2 q3 he
    · simp at q1
  · simp at h
 case ix1 m y j =>
  simp only[okA]at h
  split at h
  · rename_i t x i ho
    simp only[Bool.and_eq_true]at h
    obtain⟨⟨q1,q2⟩,q3⟩:=h
    split at q1
    · rename_i m' e' ht
      simp only[Bool.and_eq_true,decide_eq_true_eq,beq_iff_eq]at q1
      obtain⟨⟨rfl,p2⟩,p3⟩:=q1
      exact T0w S ho ht p2 p3 q2 q3 he
    · simp at q1
  · simp at h
 case exr y i =>
  simp only[okA]at h
  split at h
  · rename_i x j ho
    simp only[Bool.and_eq_true,beq_iff_eq]at h
    obtain⟨rfl,q2⟩:=h
    exact T0x S ho q2 he
  · simp at h
 case mkr f ys =>
  simp only[okA]at h
  split at h
  · rename_i f' first xs ho
    simp only[Bool.and_eq_true,beq_iff_eq]at h
    obtain⟨⟨rfl,q2⟩,q3⟩:=h
    have:first= #[]:=by simpa using q2
    subst this
    exact T0y S (xs:=xs.toList) (by simpa using ho) q3 he
  · simp at h
 case boxr e' k y =>
  simp only[okA]at h
  split at h
  · rename_i t x ho
    simp only[Bool.and_eq_true,decide_eq_true_eq,beq_iff_eq]at h
    obtain⟨⟨rfl,q2⟩,q3⟩:=h
    exact Tw7 S q2 ho q3 he
  · simp at h
 case alr e' k c =>
  simp only[okA]at h
  split at h
  · rename_i t ho
    simp only[Bool.and_eq_true,decide_eq_true_eq,beq_iff_eq]at h
    obtain⟨⟨⟨rfl,q2⟩,q3⟩,q4⟩:=h
    cases hz:zeroOf P t with
    | none=>rw[hz]at q3; simp at q3
    | some z =>
     rw[hz]at q3
     exact T0z S q2 ho hz q3 q4 he
  · simp at h
 case stor k x' y' =>
  simp only[okA]at h
  split at h
  · rename_i t x y ho
    simp only[Bool.and_eq_true,decide_eq_true_eq,beq_iff_eq]at h
    obtain⟨⟨⟨q1,q2⟩,q3⟩,q4⟩:=h
    exact Tw8 S q2 ho q1 q3 q4 he
  · simp at h
 case storf k x' y' =>
  simp only[okA]at h
  split at h
  · rename_i t x y ho
    simp only[Bool.and_eq_true,decide_eq_true_eq,beq_iff_eq]at h
    obtain⟨⟨⟨q1,q2⟩,q3⟩,q4⟩:=h
    exact Ts3 S q2 ho q1 q3 q4 he
  · simp at h
 case bldr z qs =>
  simp only[okA]at h
  split at h
  · rename_i t ps ho
    split at h
    · rename_i fs zv ht hz
      simp only[Bool.and_eq_true]at h
      obtain⟨⟨q1,q2⟩,q3⟩:=h
      exact Tw9 S ho ht hz q1 q2 q3 he
    · simp at h
  · simp at h
 case bldrf z qs =>
  simp only[okA]at h
  split at h
  · rename_i t ps ho
    split at h
    · rename_i fs zv ht hz
      simp only[Bool.and_eq_true]at h
      obtain⟨⟨q1,q2⟩,q3⟩:=h
      exact Ts4 S ho ht hz q1 q2 q3 he
    · simp at h
  · simp at h
 all_goals
  simp only[okA]at h
  split at h
  · rename_i c ho; exact Ts5 S ho h he
  · simp at h
end
end Go.Proofs.YtjpibniecllafaaGreat.AM
end
section
namespace Go.Proofs.YtjpibniecllafaaGreat.AM
open Go Go.RowKit
theorem Tep:∀ {R:List Nat} {d:Nat},d∈R->pos R d<R.length/\at0 R (pos R d)=d
 | [],d,h=>by simp at h
 | e::R,d,h=>by
  simp only[pos]
  by_cases hd:e=d
  · rw[if_pos hd]; exact⟨by simp,by simp[at0,hd]⟩
  · rw[if_neg hd]
    rcases List.mem_cons.1 h with h | h
    · exact absurd h.symm hd
    · obtain⟨h1,h2⟩:=Tep h
      exact⟨by simp; omega,by simpa[at0]using h2⟩
theorem Ta7 {R:List Nat}{i:Nat}(h:i<R.length):at0 R i∈R:=by
 unfold at0
 rw[List.getD_eq_getElem?_getD,List.getElem?_eq_getElem h]
 exact List.getElem_mem h
theorem Tb6:∀ {R:List Nat} {i:Nat},R.Nodup->i<R.length->pos R (at0 R i)=i
 | [],i,_,h=>by simp at h
 | e::R,0,_,_=>by simp[pos,at0]
 | e::R,i+1,hn,h=>by
  obtain⟨h1,h2⟩:=List.nodup_cons.1 hn
  have h3:i<R.length:=by simpa using h
  have e1:at0 (e::R) (i+1)=at0 R i:=by simp[at0]
  rw[e1]
  have hm:=Ta7 h3
  simp only[pos]
  rw[if_neg (fun q=>h1 (by rw[q]; exact hm)),Tb6 h2 h3]
theorem Te7 {R l:List Nat}{i:Nat}(h:i<R.length):at0 (R++l) i=at0 R i:=by
 unfold at0
 rw[List.getD_eq_getElem?_getD,List.getD_eq_getElem?_getD,List.getElem?_append_left h]
theorem Tj2 {h:List (Nat×Ob)}:∀(n:Nat) (todo acc R:List Nat),reach h n todo acc=some R->acc.Nodup-> (∀ d∈acc,∃ o,get h d=some o/\o.noPin=true)-> (∀ d∈acc,∀ o,get h d=some o->∀ e∈o.refs,e∈acc∨e∈todo) ->
 R.Nodup/\ (∀ d∈acc,d∈R)/\ (∀ d∈todo,d∈R)/\ (∀ d∈R,∃ o,get h d=some o/\o.noPin=true)/\ (∀ d∈R,∀ o,get h d=some o->∀ e∈o.refs,e∈R)
 | 0,_,_,_,h,_,_,_=>by simp[reach]at h
 | n+1,[],acc,R,h,h1,h2,h3=>by
  simp only[reach,oIE]at h
  subst h
  exact⟨h1,fun d hd=>hd,fun d hd=>by simp at hd,h2,fun d hd o ho e he=>by simpa using h3 d hd o ho e he⟩
 | n + 1,d::todo,acc,R,h,h1,h2,h3=>by
  simp only[reach]at h
  split at h
  · rename_i hc
    have hc':d∈acc:=by simpa using hc
    obtain⟨q1,q2,q3,q4,q5⟩:=Tj2 n todo acc R h h1 h2 fun d' hd' o ho e he=>by
     rcases h3 d' hd' o ho e he with h | h
     · exact .inl h
     · rcases List.mem_cons.1 h with h | h
       · exact .inl (h▸hc')
       · exact .inr h
    exact⟨q1,q2,fun e he=>by
     rcases List.mem_cons.1 he with he | he
     · exact q2 e (he▸hc')
     · exact q3 e he,q4,q5⟩
  · rename_i hc
    have hc':d∉acc:=by simpa using hc
    split at h
    case h_2=>simp at h
    rename_i o ho
    split at h
    case isFalse=>simp at h
    rename_i hl
    obtain⟨q1,q2,q3,q4,q5⟩:=Tj2 n (todo++o.refs) (acc++ [d]) R h (by
     rw[List.nodup_append]
     refine⟨h1,by simp,fun a ha b hb=> ?_⟩
     simp at hb
     subst hb
     exact fun q=>hc' (q▸ha)) (fun d' hd'=>by
     rcases List.mem_append.1 hd' with h | h
     · exact h2 d' h
     · simp at h; subst h; exact⟨o,ho,hl⟩) fun d' hd' o' ho' e he=>by
     rcases List.mem_append.1 hd' with h | h
     · rcases h3 d' h o' ho' e he with h | h
       · exact .inl (by simp[h])
       · rcases List.mem_cons.1 h with h | h
         · exact .inl (by simp[h])
         · exact .inr (by simp[h])
     · simp at h
       subst h
       rw[ho]at ho'
       obtain rfl:=oIj ho'
       exact .inr (by simp[he])
    exact⟨q1,fun e he=>q2 e (by simp[he]),fun e he=>by
     rcases List.mem_cons.1 he with he | he
     · exact q2 e (by simp[he])
     · exact q3 e (by simp[he]),q4,q5⟩
theorem Tbv {h:List (Nat×Ob)}{n:Nat}{todo R:List Nat}(hr:reach h n todo []=some R) :
 R.Nodup/\ (∀ d∈todo,d∈R)/\ (∀ d∈R,∃ o,get h d=some o/\o.noPin=true)/\ (∀ d∈R,∀ o,get h d=some o->∀ e∈o.refs,e∈R):=by
 obtain⟨q1,_,q3,q4,q5⟩:=Tj2 n todo [] R hr .nil (fun d hd=>by simp at hd) (fun d hd=>by simp at hd)
 exact⟨q1,q3,q4,q5⟩
theorem Te8 {h:List (Nat×Ob)}{m:Nat}{todo R:List Nat}(hr:reach h m todo []=some R):R.length<=m:=by
 have key:∀(m:Nat) (todo acc R:List Nat),reach h m todo acc=some R->R.length<=acc.length+m:=by
  intro m
  induction m with
  | zero=>intro todo acc R h; simp[reach]at h
  | succ m ih =>
   intro todo acc R h
   cases todo with
   | nil=>simp only[reach,oIE]at h; subst h; omega
   | cons d todo =>
    simp only[reach]at h
    split at h
    · have:=ih _ _ _ h; omega
    · split at h
      case h_2=>simp at h
      split at h
      case isFalse=>simp at h
      have:=ih _ _ _ h
      simp at this
      omega
 have:=key _ _ _ _ hr
 simpa using this
theorem Tcx {h:List (Nat×Ob)}{f:Nat->Nat}:∀ {R:List Nat} {i0:Nat},(∀ d∈R,get h d≠none)->∀(x:Nat),get (subH h f R i0) x=if i0<=x/\x<i0+R.length then(get h (at0 R (x-i0))).map (·.mapr f)else none
 | [],i0,_,x=>by rw[if_neg (by simp)]; rfl
 | d ::R,i0,hR,x=>by
  have hd:=hR d (by simp)
  cases ho:get h d with
  | none=>exact absurd ho hd
  | some o =>
   simp only[subH,ho,get]
   rw[Tcx fun e he=>hR e (by simp[he])]
   by_cases hx:i0=x
   · subst hx
     rw[if_pos rfl,if_pos (by simp)]
     simp[at0,ho]
   · rw[if_neg hx]
     by_cases h1:i0+1<=x/\x<i0+1+R.length
     · rw[if_pos h1,if_pos (by simp; omega)]
       have:x-i0= (x- (i0+1))+1:=by omega
       rw[this]
       rfl
     · rw[if_neg h1,if_neg (by simp; omega)]
theorem Tj3 {h:List (Nat×Ob)}{f:Nat->Nat}:∀ {R:List Nat} {i0:Nat},(∀ d∈R,get h d≠none)-> (subH h f R i0).length=R.length
 | [],i0,_=>rfl
 | d::R,i0,hR=>by
  have hd:=hR d (by simp)
  cases ho:get h d with
  | none=>exact absurd ho hd
  | some o =>
   simp only[subH,ho,List.length_cons]
   rw[Tj3 fun e he=>hR e (by simp[he])]
theorem Tcn:∀ {h:List (Nat×Ob)} {i0:Nat},okK h i0=true->∀ x,(get h x≠none↔i0<=x/\x<i0+h.length)
 | [],i0,_,x=>by simp[get]
 | (d,o)::h,i0,hk,x=>by
  simp only[okK,Bool.and_eq_true,beq_iff_eq]at hk
  obtain⟨rfl,hk⟩:=hk
  simp only[get]
  by_cases hx:d=x
  · subst hx; simp
  · rw[if_neg hx,Tcn hk]
    simp only[List.length_cons]
    omega
theorem Tfq:∀ {h:List (Nat×Ob)} {i0:Nat},okK h i0=true->∀ q∈h,i0<=q.1/\q.1<i0+h.length
 | [],i0,_,q,hq=>by simp at hq
 | (d,o)::h,i0,hk,q,hq=>by
  simp only[okK,Bool.and_eq_true,beq_iff_eq]at hk
  obtain⟨rfl,hk⟩:=hk
  rcases List.mem_cons.1 hq with rfl | hq
  · simp
  · have:=Tfq hk q hq
    simp only[List.length_cons]
    omega
theorem Te9:∀ {h:List (Nat×Ob)} {i0:Nat},okK h i0=true->h.map (fun q=>q.1)=List.range' i0 h.length
 | [],i0,_=>rfl
 | (d,o)::h,i0,hk=>by
  simp only[okK,Bool.and_eq_true,beq_iff_eq]at hk
  obtain⟨rfl,hk⟩:=hk
  simp only[List.map_cons,List.length_cons,List.range'_succ]
  rw[Te9 hk]
theorem Ts7 {h:List (Nat×Ob)}{f:Nat->Nat}:∀ {R:List Nat} {i0:Nat},okK (subH h f R i0) i0=true∨∃ d∈R,get h d=none
 | [],i0=> .inl rfl
 | d::R,i0=>by
  cases ho:get h d with
  | none=>exact .inr ⟨d,by simp,ho⟩
  | some o =>
   rcases Ts7 (h:=h) (f:=f) (R:=R) (i0:=i0+1)with hh | ⟨e,h1,h2⟩
   · exact .inl (by simp[subH,ho,okK,hh])
   · exact .inr ⟨e,by simp[h1],h2⟩
theorem Ti1 {h:List (Nat×Ob)}:∀ {n d id:Nat},newIdN h n d=some id->id % 100000=d % 100000
 | 0,d,id,e=>by simp[newIdN]at e
 | n+1,d,id,e=>by
  unfold newIdN at e
  split at e
  · obtain rfl:=oIj e; rfl
  · have:=Ti1 e; omega
theorem Tfa {h:List (Nat×Ob)}:∀ {n i:Nat} {l:List Nat},freshs h n i=some l->i+n<=100000->l.length=n/\l.Nodup/\∀ id∈l,get h id=none/\id<900000/\∃ j,i<=j/\j<i+n/\id % 100000=j
 | 0,i,l,e,_=>by
  simp only[freshs,oIE]at e
  subst e
  exact⟨rfl,.nil,fun id hid=>by simp at hid⟩
 | n+1,i,l,e,hi=>by
  simp only[freshs]at e
  split at e
  case h_2=>simp at e
  rename_i id hid
  split at e
  case h_2=>simp at e
  rename_i l' hl
  obtain rfl:=oIj e
  obtain⟨h1,h2,h3⟩:=Tfa hl (by omega)
  obtain⟨a1,a2,a3⟩:=Te1 hid
  have a4:=Ti1 hid
  refine⟨by simp[h1],List.nodup_cons.2 ⟨fun hm=> ?_,h2⟩,fun x hx=> ?_⟩
  · obtain⟨_,_,j,b1,b2,b3⟩:=h3 _ hm
    omega
  · rcases List.mem_cons.1 hx with rfl | hx
    · exact⟨a1,by omega,i,by omega,by omega,by omega⟩
    · obtain⟨c1,c2,j,b1,b2,b3⟩:=h3 _ hx
      exact⟨c1,c2,j,by omega,by omega,b3⟩
theorem RV.refs_id {r:RV}{e:Nat}:r.id?=some e↔r.ref e=true:=by
 cases r<;> simp[RV.id?,RV.ref]
theorem mem_refs {l:List RV}{e:Nat}:e∈l.filterMap RV.id?↔∃ r∈l,r.id?=some e:=List.mem_filterMap
theorem SV.mem_refs {v:SV}{e:Nat}:e∈v.refs↔v.ref e=true:=by
 have many:∀ l:List RV,e∈l.filterMap RV.id?↔ (l.any (·.ref e))=true:=fun l=>by
  rw[AM.mem_refs,List.any_eq_true]
  exact⟨fun⟨r,h1,h2⟩=> ⟨r,h1,RV.refs_id.1 h2⟩,fun⟨r,h1,h2⟩=> ⟨r,h1,RV.refs_id.2 h2⟩⟩
 cases v with
 | p x=>simp[SV.refs,SV.ref]
 | xs k l=>simp[SV.refs,SV.ref]
 | ms d o n=>simp only[SV.refs,SV.ref,List.mem_singleton,beq_iff_eq]; exact eq_comm
 | mp d i j=>simp only[SV.refs,SV.ref,List.mem_singleton,beq_iff_eq]; exact eq_comm
 | mo d=>simp only[SV.refs,SV.ref,List.mem_singleton,beq_iff_eq]; exact eq_comm
 | sst l=>exact many l
 | stu l=>exact many l
 | fnv f l=>exact many l
theorem Ob.mem_refs {o:Ob}{e:Nat}:e∈o.refs↔o.ref e=true:=by
 cases o with
 | gr e' k l =>
  simp only[Ob.refs,Ob.ref,List.mem_filterMap,List.mem_flatten,List.any_eq_true]
  constructor
  · rintro⟨r,⟨c,hc,hr⟩,h⟩; exact⟨c,hc,r,hr,RV.refs_id.1 h⟩
  · rintro⟨c,hc,r,hr,h⟩; exact⟨r,⟨c,hc,hr⟩,RV.refs_id.2 h⟩
 | _=>simp[Ob.refs,Ob.ref]
theorem QRep.mapr {w w':World} {g g':Gs} {h h':Nat->Option Ob} {f:Nat->Nat} (hx:Ext w g.lm w' g'.lm) {r:RV} {u:Value} (hs:∀ e,r.id?=some e->∀ o,h e=some o->∃ o',h' (f e)=some o'/\Shp o o'/\g'.v (f e)=g.v e) (hr:QRep w g h r u):QRep w' g' h' (r.mapr f) u:=by
  cases r with
  | p x=>exact Rep.ext hx hr
  | ms d off len =>
    simp only[QRep,RV.mapr]at hr ⊢
    cases hd:h d with
    | none=>rw[hd]at hr; exact hr.elim
    | some o =>
      rw[hd]at hr
      obtain⟨o',h2,h3,h1⟩:=hs d rfl o hd
      rw[h2]
      cases o<;> cases o'<;> simp only[Shp]at h3<;> first | exact h3.elim | exact hr.elim | trivial | skip
      all_goals
        obtain⟨rfl,h4⟩:=h3
        dsimp only at hr ⊢; rw[← h4,h1]; exact hr
  | mp d i j =>
    simp only[QRep,RV.mapr]at hr ⊢
    cases hd:h d with
    | none=>rw[hd]at hr; exact hr.elim
    | some o =>
      rw[hd]at hr
      obtain⟨o',h2,h3,h1⟩:=hs d rfl o hd
      rw[h2]
      cases o<;> cases o'<;> simp only[Shp]at h3<;> first | exact h3.elim | exact hr.elim | trivial | skip
      all_goals
        first
        | (obtain⟨rfl,h4⟩:=h3
           rw[h1]; exact hr)
        | (rw[h1]; exact hr)
  | mo d =>
    simp only[QRep,RV.mapr]at hr ⊢
    cases hd:h d with
    | none=>rw[hd]at hr; exact hr.elim
    | some o =>
      rw[hd]at hr
      obtain⟨o',h2,h3,h1⟩:=hs d rfl o hd
      rw[h2]
      cases o<;> cases o'<;> simp only[Shp]at h3<;> first | exact h3.elim | exact hr.elim | trivial | skip
      all_goals
        dsimp only at hr ⊢; rw[h1]; exact hr
theorem QRepL.mono {w w':World}{g g':Gs}{h h':Nat->Option Ob}{F:RV->RV}:∀ {l us},QRepL w g h l us-> (∀ r∈l,∀ u,QRep w g h r u->QRep w' g' h' (F r) u)->QRepL w' g' h' (l.map F) us
 | _,_,.nil,_=> .nil
 | _,_,.cons a b,hh=> .cons (hh _ (by simp) _ a) (b.mono fun r hr=>hh r (by simp[hr]))
theorem SRep.mono {w w':World}{g g':Gs}{h h':Nat->Option Ob}{f:Nat->Nat}(hx:Ext w g.lm w' g'.lm){v:SV}{u:Value}(hq:∀ r u,(∀ e,r.id?=some e->v.ref e=true)->QRep w g h r u->QRep w' g' h' (r.mapr f) u)(hr:SRep w g h v u):SRep w' g' h' (v.mapr f) u:=by
 cases v with
 | p x=>exact Rep.ext hx hr
 | xs k l =>
  obtain⟨a,h1,h2,h3,h4⟩:=hr
  refine⟨a,h1,h2,h3,h4.imp id ?_⟩
  rintro⟨b,o,vs,e,hr,hm⟩
  exact⟨b,o,vs,e,hr.ext hx,hm.ext hx⟩
 | ms d off len=>exact QRep.sv.1 (hq (.ms d off len) u (fun e he=>by simpa[SV.ref,RV.id?]using he) (QRep.sv.2 hr))
 | mp d i j=>exact QRep.sv.1 (hq (.mp d i j) u (fun e he=>by simpa[SV.ref,RV.id?]using he) (QRep.sv.2 hr))
 | mo d=>exact QRep.sv.1 (hq (.mo d) u (fun e he=>by simpa[SV.ref,RV.id?]using he) (QRep.sv.2 hr))
 | sst l=>obtain⟨vs,h1,h2,h3⟩:=hr; exact⟨vs,h1,h2.mono fun r hr u hu=>hq r u (fun e he=>List.any_eq_true.2 ⟨r,hr,RV.refs_id.1 he⟩) hu,h3⟩
 | stu l=>obtain⟨vs,h1,h2⟩:=hr; exact⟨vs,h1,h2.mono fun r hr u hu=>hq r u (fun e he=>List.any_eq_true.2 ⟨r,hr,RV.refs_id.1 he⟩) hu⟩
 | fnv f l=>obtain⟨vs,h1,h2⟩:=hr; exact⟨vs,h1,h2.mono fun r hr u hu=>hq r u (fun e he=>List.any_eq_true.2 ⟨r,hr,RV.refs_id.1 he⟩) hu⟩
theorem SRep.mapr {w w':World}{g g':Gs}{h h':Nat->Option Ob}{f:Nat->Nat}(hx:Ext w g.lm w' g'.lm){v:SV}{u:Value}(hs:∀ e,v.ref e=true->∀ o,h e=some o->∃ o',h' (f e)=some o'/\Shp o o'/\g'.v (f e)=g.v e)(hr:SRep w g h v u):SRep w' g' h' (v.mapr f) u :=
 SRep.mono hx (fun r u hrf hq=>QRep.mapr hx (fun e he=>hs e (hrf e he)) hq) hr
theorem RV.mapr_id {f:Nat->Nat}{r:RV}(h:∀ e,r.id?=some e->f e=e):r.mapr f=r:=by
 cases r<;> simp[RV.mapr,RV.id?]at h ⊢<;> exact h
theorem RV.maprs_id {f:Nat->Nat}{l:List RV}(h:∀ r∈l,∀ e,r.id?=some e->f e=e):l.map (·.mapr f)=l :=
 (List.map_congr_left (g:=id) fun r hr=>RV.mapr_id (h r hr)).trans (List.map_id l)
theorem SV.mapr_id {f:Nat->Nat}{v:SV}(h:∀ e,v.ref e=true->f e=e):v.mapr f=v:=by
 have many:∀ l:List RV,(∀ e,(l.any (·.ref e))=true->f e=e)->l.map (·.mapr f)=l:=fun l hl=>RV.maprs_id fun r hr e he=>hl e (List.any_eq_true.2 ⟨r,hr,RV.refs_id.1 he⟩)
 cases v with
 | p x=>rfl
 | xs k l=>rfl
 | ms d o n=>simp only[SV.mapr,h d (by simp[SV.ref])]
 | mp d i j=>simp only[SV.mapr,h d (by simp[SV.ref])]
 | mo d=>simp only[SV.mapr,h d (by simp[SV.ref])]
 | sst l=>simp only[SV.mapr,many l h]
 | stu l=>simp only[SV.mapr,many l h]
 | fnv g l=>simp only[SV.mapr,many l h]
theorem RV.mapr_mapr {f k:Nat->Nat}{r:RV}: (r.mapr f).mapr k=r.mapr fun e=>k (f e):=by cases r<;> rfl
theorem RV.mapr_ref {f:Nat->Nat}{r:RV}{e:Nat}(h: (r.mapr f).id?=some e):∃ e0,r.id?=some e0/\f e0=e:=by
 cases r<;> simp[RV.mapr,RV.id?]at h ⊢<;> exact h
theorem Shp.mapr {o:Ob}(f:Nat->Nat):Shp o (o.mapr f):=by
 cases o<;> simp[Ob.mapr,Shp]
theorem Ob.mapr_live {o:Ob}(f:Nat->Nat): (o.mapr f).live=o.live:=by cases o<;> rfl
theorem SRep.there {w:World}{g:Gs}{h:Nat->Option Ob}{v:SV}{u:Value}(hr:SRep w g h v u){e:Nat}(he:v.ref e=true):∃ o,h e=some o/\∀ l,o≠ .pin l:=by
 have one:∀ {r:RV} {u:Value},QRep w g h r u->r.id?=some e->∃ o,h e=some o/\∀ l,o≠ .pin l:=by
  intro r u hq hid
  cases r<;> simp[RV.id?]at hid<;> subst hid
  all_goals
   rename_i d
   simp only[QRep]at hq
   cases hd:h _ with
   | none=>rw[hd]at hq; exact hq.elim
   | some o =>
    rw[hd]at hq
    refine⟨o,rfl,fun l hl=> ?_⟩
    subst hl
    exact hq.elim
 have many:∀ {l:List RV} {us:List Value},QRepL w g h l us-> (l.any (·.ref e))=true->∃ o,h e=some o/\∀ l,o≠ .pin l:=by
  intro l us hq
  induction hq with
  | nil=>intro hh; simp at hh
  | cons a b ih =>
   intro hh
   simp only[List.any_cons,Bool.or_eq_true]at hh
   rcases hh with hh | hh
   · exact one a (RV.refs_id.2 hh)
   · exact ih hh
 cases v with
 | p x=>simp[SV.ref]at he
 | xs k l=>simp[SV.ref]at he
 | ms d off len=>exact one (r:= .ms d off len) (QRep.sv.2 hr) (by simpa[SV.ref,RV.id?]using he)
 | mp d i j=>exact one (r:= .mp d i j) (QRep.sv.2 hr) (by simpa[SV.ref,RV.id?]using he)
 | mo d=>exact one (r:= .mo d) (QRep.sv.2 hr) (by simpa[SV.ref,RV.id?]using he)
 | sst l=>obtain⟨vs,h1,h2,h3⟩:=hr; exact many h2 he
 | stu l=>obtain⟨vs,h1,h2⟩:=hr; exact many h2 he
 | fnv f l=>obtain⟨vs,h1,h2⟩:=hr; exact many h2 he
def lift (f:Nat->Nat)(x:Nat):Nat:=x / 1000000*1000000+f (x % 1000000)
theorem Tc2 {f:Nat->Nat}{d:Nat}(h:d<1000000):lift f d=f d:=by
 unfold lift
 rw[Nat.div_eq_of_lt h,Nat.mod_eq_of_lt h,Nat.zero_mul,Nat.zero_add]
theorem Tj4 {f:Nat->Nat}{d p:Nat}(h:d<1000000):lift f (nid d p)=nid (f d) p:=by
 unfold lift nid
 have h1: ((p+1)*1000000+d) / 1000000=p+1:=by omega
 have h2: ((p+1)*1000000+d) % 1000000=d:=by omega
 rw[h1,h2]
theorem Ids.ren {d:Nat}{o:Ob}{f k:Nat->Nat}{x:Nat}(hd:d<1000000)(h:Ids d (o.mapr f) x):Ids (k d) o (lift k x):=by
 cases o with
 | dp e n l =>
  rcases h.dpE with rfl | ⟨p,e',k',l',h1,h2,rfl⟩
  · rw[Tc2 hd]; exact .self _ _
  · rw[Tj4 hd]; exact .dp h1 h2
 | mpo U fl G F =>
  rcases h with rfl | ⟨_,_,_,p,_,_,_,ho,_⟩ | ⟨_,_,_,_,p,ho,hp,rfl⟩
  · rw[Tc2 hd]; exact .self _ _
  · simp[Ob.mapr]at ho
  · simp only[Ob.mapr,Ob.mpo.injEq]at ho
    obtain⟨rfl,rfl,rfl,rfl⟩:=ho
    rw[Tj4 hd]; exact .mpo hp
 | row e n fz l=>obtain rfl:=h.plain rfl; rw[Tc2 hd]; exact .self _ _
 | it t q=>obtain rfl:=h.plain rfl; rw[Tc2 hd]; exact .self _ _
 | dead=>obtain rfl:=h.plain rfl; rw[Tc2 hd]; exact .self _ _
 | gr e n l=>obtain rfl:=h.plain rfl; rw[Tc2 hd]; exact .self _ _
 | pin l=>obtain rfl:=h.plain rfl; rw[Tc2 hd]; exact .self _ _
theorem ORep.move {w:World}{g g':Gs}{base d d':Nat}{o:Ob}(f:Nat->Nat)(h:ORep w g base d o)(hl:g'.lm=g.lm)(h0:g'.v d'=g.v d)(hp:∀ p,g'.v (nid d' p)=g.v (nid d p)):ORep w g' base d' (o.mapr f):=by
 obtain⟨lm,v⟩:=g
 obtain⟨lm',v'⟩:=g'
 dsimp only at hl h0 hp
 subst hl
 cases o with
 | row e k fz l=>simp only[ORep,Ob.mapr,h0]at h ⊢; exact h
 | it t q=>simp only[ORep,Ob.mapr,h0]at h ⊢; exact h
 | dp e k l=>exact Tjy h (Nat.le_refl _) h0 hp
 | dead=>trivial
 | gr e k l =>
  simp only[ORep,Ob.mapr,h0]at h ⊢
  obtain⟨h1,h2,h3,h4⟩:=h
  refine⟨h1,fun c hc=> ?_,by rw[List.length_map]; exact h3,h4⟩
  obtain⟨c',hc',rfl⟩:=List.mem_map.1 hc
  rw[List.length_map]; exact h2 c' hc'
 | mpo U fl G F =>
  have hm:∀ p l,MapAt w ⟨lm',v⟩ base (nid d p) l->MapAt w ⟨lm',v'⟩ base (nid d' p) l:=fun p l ⟨b,q1,q2,q3,q4⟩=> ⟨b,(hp p).trans q1,q2,q3,q4⟩
  obtain⟨q0,⟨b,q1,q2,q3,q4⟩,⟨xs,q5,q6⟩,q7,q8,q9,q10⟩:=h
  dsimp only at q1 q4 q5 q6 q7
  exact⟨q0,⟨b,h0.trans q1,q2,q3,by dsimp only; rw[hp,hp,hp]; exact q4⟩,⟨xs,by dsimp only; rw[hp]; exact q5,fun i u hu=> (q6 i u hu).trans (hp _).symm⟩,fun b hb=>by dsimp only at hb; rw[hp]at hb; exact q7 b hb,fun i l hl=>hm _ _ (q8 i l hl),hm _ _ q9,hm _ _ q10⟩
 | pin l=>trivial
structure HS (base:Nat) (g:Gs) (w:World) (h:List (Nat×Ob)):Prop where
 ob:∀ d o,get h d=some o->ORep w g base d o
 lt:∀ d o,get h d=some o->d<1000000
 ap:∃ own:Nat->Nat,∀ d o x b,get h d=some o->o.live=true->Ids d o x->blk (g.v x)=some b->own b=x
 gs:∀ d e k l xs,get h d=some (.gr e k l)->w.ownsRow base e k (g.v d) l.length xs->QRepL w g (get h) l.flatten xs
theorem Sim.hs {base:Nat}{w0:World}{lm0:L0}{N:Nat}{g:Gs}{a:Act}{w:World}{s:St}(S:Sim base w0 lm0 N g a w s):HS base g w s.h:= ⟨S.ob,S.lt,S.ap,S.gs⟩
structure Ren (h1 h2:List (Nat×Ob)) (u f:Nat->Nat):Prop where
 to:∀ d o,get h2 d=some o->d<1000000/\∃ o1,get h1 (u d)=some o1/\o=o1.mapr f
 inj:∀ d d',get h2 d≠none->get h2 d'≠none->u d=u d'->d=d'
 ref:∀ d o1,get h2 d≠none->get h1 (u d)=some o1->∀ e,o1.ref e=true->get h2 (f e)≠none/\u (f e)=e
theorem Tco {F:RV->RV}(l:List (List RV)): (l.map fun c=>c.map F).flatten=l.flatten.map F:=by
 rw[List.map_flatten]
section
variable {h1 h2:List (Nat×Ob)}{u f:Nat->Nat}{base:Nat}{g:Gs}{w:World}
theorem Ren.shp (R:Ren h1 h2 u f){e:Nat}(h:get h2 (f e)≠none/\u (f e)=e){o:Ob}(ho:get h1 e=some o):∃ o',get h2 (f e)=some o'/\Shp o o'/\ (⟨g.lm,fun x=>g.v (lift u x)⟩:Gs).v (f e)=g.v e:=by
 cases h3:get h2 (f e)with
 | none=>exact absurd h3 h.1
 | some o' =>
  obtain⟨q1,o1,q2,rfl⟩:=R.to _ _ h3
  rw[h.2,ho]at q2
  obtain rfl:=oIj q2
  exact⟨_,rfl,Shp.mapr f,by show g.v (lift u (f e))=g.v e; rw[Tc2 q1,h.2]⟩
theorem Ren.srep (R:Ren h1 h2 u f){v:SV}{x:Value}(hv:∀ e,v.ref e=true->get h2 (f e)≠none/\u (f e)=e)(hr:SRep w g (get h1) v x):SRep w ⟨g.lm,fun x=>g.v (lift u x)⟩ (get h2) (v.mapr f) x :=
 SRep.mapr (g:=g) (g':= ⟨g.lm,fun x=>g.v (lift u x)⟩) (Ext.refl w g.lm) (fun e he o ho=>R.shp (g:=g) (hv e he) ho) hr
open Classical in
theorem HS.ren (H:HS base g w h1)(R:Ren h1 h2 u f):HS base ⟨g.lm,fun x=>g.v (lift u x)⟩ w h2:=by
 refine⟨fun d o hd=> ?_,fun d o hd=> (R.to d o hd).1,?_,fun d e k l xs hd hw=> ?_⟩
 · obtain⟨q1,o1,q2,rfl⟩:=R.to d o hd
   exact(H.ob _ _ q2).move f rfl (by show g.v (lift u d)=_; rw[Tc2 q1]) fun p=>by show g.v (lift u (nid d p))=_; rw[Tj4 q1]
 · obtain⟨own,hap⟩:=H.ap
   let T (b x:Nat):Prop:= (∃ d o,get h2 d=some o/\Ids d o x)/\lift u x=own b
   have uniq:∀ {b x y},T b x->T b y->x=y:=by
    rintro b x y ⟨⟨d,o,hd,hi⟩,hx⟩ ⟨⟨d',o',hd',hi'⟩,hy⟩
    obtain⟨a1,o1,a2,_⟩:=R.to d o hd
    obtain⟨a1',o1',a2',_⟩:=R.to d' o' hd'
    have m1:=hi.mod a1
    have m2:=hi'.mod a1'
    have l1:=H.lt _ _ a2
    have l2:=H.lt _ _ a2'
    have e:=hx.trans hy.symm
    unfold lift at e
    rw[m1,m2]at e
    have e1:u d=u d':=by omega
    have e2:=R.inj d d' (by rw[hd]; simp) (by rw[hd']; simp) e1
    omega
   refine⟨fun b=>if h:∃ x,T b x then Classical.choose h else 0,fun d o x b hd hl hi hb=> ?_⟩
   obtain⟨a1,o1,a2,rfl⟩:=R.to d o hd
   rw[Ob.mapr_live]at hl
   have ht:T b x:= ⟨⟨d,_,hd,hi⟩,(hap _ o1 _ b a2 hl (hi.ren a1) hb).symm⟩
   have hex:∃ x,T b x:= ⟨x,ht⟩
   show(if h:∃ x,T b x then Classical.choose h else 0)=x
   rw[dif_pos hex]
   exact uniq (Classical.choose_spec hex) ht
 · obtain⟨q1,o1,q2,ho⟩:=R.to d _ hd
   cases o1<;> simp only[Ob.mapr]at ho<;> first | (simp at ho; done) | skip
   rename_i e1 k1 l1
   simp only[Ob.gr.injEq]at ho
   obtain⟨rfl,rfl,rfl⟩:=ho
   have e1:g.v (lift u d)=g.v (u d):=by rw[Tc2 q1]
   dsimp only at hw
   rw[e1,List.length_map]at hw
   have hq:=H.gs _ _ _ _ xs q2 hw
   rw[Tco]
   refine hq.mono fun r hr z hz=>QRep.mapr (g:=g) (g':= ⟨g.lm,fun x=>g.v (lift u x)⟩) (Ext.refl w g.lm) (fun e he o ho=>R.shp (g:=g) (R.ref d _ (by rw[hd]; simp) q2 e ?_) ho) hz
   obtain⟨c,hc,hrc⟩:=List.mem_flatten.1 hr
   exact List.any_eq_true.2 ⟨c,hc,List.any_eq_true.2 ⟨r,hrc,RV.refs_id.1 he⟩⟩
theorem Ren.free (R:Ren h1 h2 u f){b:Nat}(hb:Free g (get h1) b):Free ⟨g.lm,fun x=>g.v (lift u x)⟩ (get h2) b:=by
 intro d o x hd hl hi
 obtain⟨a1,o1,a2,rfl⟩:=R.to d o hd
 rw[Ob.mapr_live]at hl
 exact hb (u d) o1 (lift u x) a2 hl (hi.ren a1)
end
theorem Ts8 {h:List (Nat×Ob)}{R:List Nat}(hn:R.Nodup)(hx:∀ d∈R,∃ o,get h d=some o/\o.noPin=true)(hc:∀ d∈R,∀ o,get h d=some o->∀ e∈o.refs,e∈R)(hl:R.length<=1000000):Ren h (subH h (pos R) R 0) (at0 R) (pos R):=by
 have hg:=fun x=>Tcx (f:=pos R) (i0:=0) (R:=R) (h:=h) (fun d hd=>by obtain⟨o,q,_⟩:=hx d hd; rw[q]; simp) x
 have hin:∀ x,get (subH h (pos R) R 0) x≠none->x<R.length:=fun x hh=>by
  rw[hg x]at hh
  split at hh
  · omega
  · simp at hh
 have hm:∀ e,e∈R->get (subH h (pos R) R 0) (pos R e)≠none/\at0 R (pos R e)=e:=fun e he=>by
  obtain⟨q1,q2⟩:=Tep he
  refine⟨?_,q2⟩
  obtain⟨o,ho,_⟩:=hx e he
  rw[hg,if_pos (by omega),Nat.sub_zero,q2,ho]
  simp
 refine⟨fun d o hd=> ?_,fun d d' h1 h2 he=> ?_,fun d o1 h1 h2 e he=> ?_⟩
 · have hlt:=hin d (by rw[hd]; simp)
   rw[hg,if_pos (by omega),Nat.sub_zero]at hd
   refine⟨by omega,?_⟩
   cases ho:get h (at0 R d)with
   | none=>rw[ho]at hd; simp at hd
   | some o1 =>
    rw[ho]at hd
    exact⟨o1,rfl,(oIj hd).symm⟩
 · rw[← Tb6 hn (hin d h1),← Tb6 hn (hin d' h2),he]
 · exact hm e (hc _ (Ta7 (hin d h1)) o1 h2 e (Ob.mem_refs.2 he))
theorem Ti2 {h:List (Nat×Ob)}{R:List Nat}(hx:∀ d∈R,∃ o,get h d=some o/\o.noPin=true){e:Nat}(he:e∈R):get (subH h (pos R) R 0) (pos R e)≠none/\at0 R (pos R e)=e:=by
 obtain⟨q1,q2⟩:=Tep he
 refine⟨?_,q2⟩
 obtain⟨o,ho,_⟩:=hx e he
 rw[Tcx (fun d hd=>by obtain⟨o,q,_⟩:=hx d hd; rw[q]; simp),if_pos (by omega),Nat.sub_zero,q2,ho]
 simp
theorem Ti3 {f:Nat->Nat}{F:Ob->Ob}{x:Nat}:∀ {h' h:List (Nat×Ob)} {i:Nat} {o:Ob},get h' i=some o->f i=x-> (∀ q∈h',f q.1=x->q.1=i)-> (h'.map fun q=>q.1).Nodup->get (putAll h (h'.map fun q=> (f q.1,F q.2))) x=some (F o)
 | [],h,i,o,ho,_,_,_=>by simp[get]at ho
 | (d,o1)::h',h,i,o,ho,hf,hi,hn=>by
  simp only[List.map_cons,List.nodup_cons]at hn
  simp only[List.map_cons,putAll]
  simp only[get]at ho
  by_cases hd:d=i
  · subst hd
    rw[if_pos rfl]at ho
    obtain rfl:=oIj ho
    rw[get_putAll_not0]
    · rw[hf,Tac]
    · intro q hq
      obtain⟨q',hq',rfl⟩:=List.mem_map.1 hq
      intro he
      have:=hi q' (by simp[hq']) he
      exact hn.1 (List.mem_map.2 ⟨q',hq',this⟩)
  · rw[if_neg hd]at ho
    exact Ti3 ho hf (fun q hq=>hi q (by simp[hq])) hn.2
where
 get_putAll_not0 {d:Nat}:∀ {h' h:List (Nat×Ob)},(∀ q∈h',q.1≠d)->get (putAll h h') d=get h d
 | [],h,_=>rfl
 | (e,o)::h',h,hh=>by
  rw[putAll,get_putAll_not0 (fun q hq=>hh q (by simp[hq])),Tae _ (hh (e,o) (by simp))]
end Go.Proofs.YtjpibniecllafaaGreat.AM
end
