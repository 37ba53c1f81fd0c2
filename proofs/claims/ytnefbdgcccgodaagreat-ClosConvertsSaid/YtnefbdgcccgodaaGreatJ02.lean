/- Texts of ours, joined and written short by a program of ours. -/
import Derived.Test.YtnefbdgcccgodaaGreatJ01
set_option linter.unusedVariables false
set_option linter.unusedSimpArgs false
namespace Go.Abs
section
variable {P:Program} {get:Nat->AV} {m:Hp} {n:Nat}
theorem zlS{ph:PH}{ρ:RM}{a:Act}{s:Nat}:∀{xs:List MX} {os:List (Nat × Operand)} {es:List (List AC)} {k:Nat} {us:List Value},
  zf6 xs k os=true->(∀j,Operand.tmp j∈os.map (·.2)->RepV ph ρ (get j) (a.tmps.getD j undef))->rowC get s xs=some es->us.length=(k+xs.length)*s->
  ∃vs:List Value,Instr.fill (fun i=>some (i*s,s)) us.toArray (os.map fun x=>(x.1,a.eval x.2))=some (us.take (k*s)++vs).toArray/\vs.length=xs.length*s/\zam ph ρ s es vs/\es.length=xs.length
 |[],[],es,k,us,h,hg,he,hl=>by
  simp only[rowC]at he;cases he
  refine⟨[],?_,by simp,by simp[zam],rfl⟩
  simp only[List.map_nil,Instr.fill]
  rw[List.take_of_length_le (by simp at hl;omega)]
  simp
 |[],_::_,_,_,_,h,_,_,_=>by simp[zf6]at h
 |_::_,[],_,_,_,h,_,_,_=>by simp[zf6]at h
 | x ::xs,(i,o)::os,es,k,us,h,hg,he,hl=>by
  simp only[zf6,Bool.and_eq_true,beq_iff_eq]at h
  obtain⟨⟨h1,h2⟩,h3⟩:=h
  subst h1
  simp only[rowC]at he
  split at he
  ·rename_i l r hc hr
   split at he
   ·rename_i hs
    cases he
    have rv:=zar h2 (ph:=ph) (ρ:=ρ) (get:=get) (a:=a) fun k hk=>hg k (by simp[hk])
    obtain⟨ws,c1,c2,c3⟩:=zeg rv hc
    simp only[List.length_cons]at hl
    have e1:(i+(xs.length+1))*s=i*s+s+xs.length*s:=by rw[Nat.add_mul,Nat.add_mul,Nat.one_mul];omega
    have hle:i*s+ws.length<=us.length:=by omega
    obtain⟨vs,f1,f2,f3,f4⟩:=zlS (us:=Abs.splice us (i*s) ws) h3 (fun k hk=>hg k (by simp at hk⊢;exact .inr hk)) hr (by
     rw[zbn,hl];congr 1;omega)
    refine⟨ws++vs,?_,?_,?_,?_⟩
    ·simp only[List.map_cons,Instr.fill]
     rw[c1]
     simp only[List.size_toArray]
     rw[if_neg (by simp;omega)]
     have:=zf8 ws us (i*s) 0 (by omega)
     simp only[Nat.add_zero]at this
     rw[this,f1]
     have e2:(i+1)*s=i*s+s:=by rw[Nat.add_mul,Nat.one_mul]
     rw[e2,zj5 _ _ _ hle]
     congr 2
     rw[<-List.append_assoc]
     congr 1
     rw[List.take_append_of_le_length (by simp;omega)]
     rw[List.take_of_length_le (by simp;omega)]
    ·simp only[List.length_append,List.length_cons];rw[f2,Nat.add_mul,Nat.one_mul];omega
    ·simp only[zam]
     refine⟨hs,c3.more vs,?_⟩
     rw[List.drop_append_of_le_length (by omega),List.drop_of_length_le (by omega)]
     simpa using f3
    ·simp[f4]
   ·cases he
  ·cases he
theorem zwd{s:Nat}:∀{xs:List MX} {es:List (List D)},rowD get s xs=some es->rowC get s xs=some (es.map (·.map .d))
 |[],es,h=>by simp only[rowD]at h;cases h;rfl
 | x ::xs,es,h=>by
  simp only[rowD]at h
  split at h
  ·rename_i l r h1 h2
   split at h
   ·rename_i hs
    cases h
    simp only[rowC]
    unfold cellsD at h1
    cases hc:zb6 (X get x)with
    |none=>rw[hc]at h1;cases h1
    |some cs=>
     rw[hc]at h1
     have:=zfZ h1
     subst this
     rw[zwd h2]
     simp[hs]
   ·cases h
  ·cases h
theorem zg3{T:TypeId}{len:Nat}{os:Array (Nat × Operand)}{e:TypeId}{i:TypeInfo}{s:Nat}{w:World}{a:Act}(hu:P.underlying T=some (.slice e))(hi:P.info? e=some i)(hs:i.size=s)
  (hz:i.zero.isSome=true) (hlen:len*s<=16777216):
  ∃us:List Value,us.length=len*s/\∀vs:List Value,Instr.fill (fun i=>some (i*s,s)) us.toArray (os.toList.map fun x=>(x.1,a.eval x.2))=some vs.toArray->
   Runs P (Instr.buildSlice T len (os.map fun x=>(x.1,a.eval x.2))) w (.slice (some ⟨w.heap.size,0,none⟩) len len) {w with heap:=w.heap.push (.cells vs.toArray e)}:=by
 obtain⟨zv,ez⟩:=Option.isSome_iff_exists.1 hz
 have last:∀(msg:String) (zs:Array Value) (vs:List Value),Instr.fill (fun i=>some (i*s,s)) ((Array.range (len*s)).map (zs[· %zs.size]!)) (os.toList.map fun x=>(x.1,a.eval x.2))=some vs.toArray->
   Runs P (match Instr.fill (fun i=>some (i*s,s)) ((Array.range (len*s)).map (zs[· %zs.size]!)) ((os.map fun x=>(x.1,a.eval x.2)).toList)with
    |some cells=>do
     let r<-newRow e cells
     Pure.pure (Value.slice (some r) len len)
    |_=>stuck msg) w (.slice (some ⟨w.heap.size,0,none⟩) len len) {w with heap:=w.heap.push (.cells vs.toArray e)}:=by
  intro msg zs vs hf
  rw[show(os.map fun x=>(x.1,a.eval x.2)).toList=os.toList.map fun x=>(x.1,a.eval x.2)from by simp]
  rw[hf]
  unfold newRow
  exact((Runs.newObj _).bind (Runs.pure _)).bind (Runs.pure _)
 by_cases h0:len*s=0
 ·refine⟨((Array.range (len*s)).map (fun x=>(#[]:Array Value)[x%(#[]:Array Value).size]!)).toList,by simp,fun vs hf=>?_⟩
  unfold Instr.buildSlice
  refine(Runs.underlying hu).bind ((Runs.sizeOf hi).bind ?_)
  rw[hs]
  rw[if_neg (by omega)]
  dsimp only
  rw[if_pos h0]
  refine(Runs.pure _).bind ?_
  rw[Array.toArray_toList]at hf
  exact last _ #[] vs hf
 ·refine⟨((Array.range (len*s)).map (fun x=>zv.cells[x%zv.cells.size]!)).toList,by simp,fun vs hf=>?_⟩
  unfold Instr.buildSlice
  refine(Runs.underlying hu).bind ((Runs.sizeOf hi).bind ?_)
  rw[hs]
  rw[if_neg (by omega)]
  dsimp only
  rw[if_neg h0]
  refine(Runs.zeroValue hi ez).bind ((Runs.pure _).bind ?_)
  rw[Array.toArray_toList]at hf
  exact last _ zv.cells vs hf
theorem zkI{T:TypeId}{i:TypeInfo}(h:zdb P T=some i):∃e,P.underlying T=some (.slice e)/\P.info? e=some i:=by
 unfold zdb at h
 split at h
 ·rename_i e he;exact⟨e,he,h⟩
 ·cases h
theorem zr9{o:Oper}{T:TypeId}{len:Nat}{os:Array (Nat × Operand)}{s:Nat}{xs:List MX}(ho:o.op=.buildSlice T len os)(hc:zai P (.buildSl s xs) (.buildSlice T len os)=true){es:List (List D)}
  (e:rowD get s xs=some es):zaq P o get m [] [] (.c (.d (.sl true s es))):=by
 refine zaq.of_value fun m' h1 h2 ph ρ w a hr hg=>?_
 have hg':∀k,Operand.tmp k∈os.toList.map (·.2)->RepV ph ρ (get k) (a.tmps.getD k undef):=fun k hk=>hg k (by rw[ho];simpa[Op.operands]using hk)
 simp only[zai]at hc
 split at hc
 ·rename_i i hi
  simp only[Bool.and_eq_true,beq_iff_eq,decide_eq_true_eq]at hc
  obtain⟨⟨⟨⟨⟨⟨c1,c2⟩,c3⟩,c4⟩,c5⟩,c7⟩,c6⟩:=hc
  obtain⟨et,hu,hi'⟩:=zkI hi
  obtain⟨us,hus,hrun⟩:=zg3 (os:=os) (w:=w) (a:=a) hu hi' c1 c2 c5
  obtain⟨vs,f1,f2,f3,f4⟩:=zlS (us:=us) c6 hg' (zwd e) (by rw[hus,<-c4];simp)
  simp only[Nat.zero_mul,List.take_zero,List.nil_append,List.length_map]at f1 f4
  obtain⟨H,S⟩:=hr.pushP (.cells vs.toArray et)
  refine⟨_,ρ,{w with heap:=w.heap.push (.cells vs.toArray et)},.slice (some ⟨w.heap.size,0,none⟩) len len,?_,S,H,Same.refl w,?_⟩
  ·unfold execOp;rw[ho]
   refine Runs.bind ?_ (Runs.pure _)
   exact hrun vs f1
  ·simp only[RepV,RepC,RepD]
   have hlen:es.length=len:=by omega
   refine⟨some ⟨w.heap.size,0,none⟩,len,by rw[hlen],by omega,fun _=>hlen.symm,?_,fun h=>(by cases h),fun p hp _=>(by cases hp;rfl),?_⟩
   ·unfold zah;omega
   ·have e4:cellsAt (upd ph w.heap.size (some (.cells vs.toArray et))) (some ⟨w.heap.size,0,none⟩)=vs:=by simp[cellsAt,hcells,upd_same]
    rw[e4]
    have:=zam.mono S.hle (RM.le_refl ρ) _ _ f3
    exact zam.to_E this
 ·cases hc
theorem zri{o:Oper}{T:TypeId}{len:Nat}{os:Array (Nat × Operand)}{s:Nat}{xs:List MX}(ho:o.op=.buildSlice T len os)(hc:zai P (.buildSlM s xs) (.buildSlice T len os)=true){es:List (List AC)}
  (e:rowC get s xs=some es) (hn:m n=.non):zaq P o get m [] [(n,.arr s es)] (.c (.msl s n 0 xs.length)):=by
 refine zaq.of_value fun m' h1 h2 ph ρ w a hr hg=>?_
 have hg':∀k,Operand.tmp k∈os.toList.map (·.2)->RepV ph ρ (get k) (a.tmps.getD k undef):=fun k hk=>hg k (by rw[ho];simpa[Op.operands]using hk)
 have hn':m' n=.non:=(h2 (n,.arr s es) (by simp)).trans hn
 simp only[zai]at hc
 split at hc
 ·rename_i i hi
  simp only[Bool.and_eq_true,beq_iff_eq,decide_eq_true_eq]at hc
  obtain⟨⟨⟨⟨⟨⟨c1,c2⟩,c3⟩,c4⟩,c5⟩,c7⟩,c6⟩:=hc
  obtain⟨et,hu,hi'⟩:=zkI hi
  obtain⟨us,hus,hrun⟩:=zg3 (os:=os) (w:=w) (a:=a) hu hi' c1 c2 c5
  obtain⟨vs,f1,f2,f3,f4⟩:=zlS (us:=us) c6 hg' e (by rw[hus,<-c4];simp)
  simp only[Nat.zero_mul,List.take_zero,List.nil_append]at f1 f4
  obtain⟨H,S⟩:=hr.pushO (.cells vs.toArray et) hn' len (blk:=.arr s es) (by simp)
   (.inr ⟨vs,et,zce _ _,by rw[f2,c4],by omega,by unfold zah;omega,zam.mono (PH.le_refl ph) (zeU ((hr.dom n).1 hn')) _ _ f3⟩)
  refine⟨_,_,{w with heap:=w.heap.push (.cells vs.toArray et)},.slice (some ⟨w.heap.size,0,none⟩) len len,?_,S,H,Same.refl w,?_⟩
  ·unfold execOp;rw[ho]
   refine Runs.bind ?_ (Runs.pure _)
   exact hrun vs f1
  ·simp only[RepV,RepC]
   refine⟨_,some ⟨w.heap.size,0,none⟩,upd_same _ _ _,by rw[c4];rfl,by rw[c4];simp,fun _=>by simp,fun q hq _=>by cases hq;rfl⟩
 ·cases hc
theorem zwe{o:Oper}{T:TypeId}{f off:Nat}{x:MX}{ox:Operand}(ho:o.op=.fieldAddr T ox f)(hc:zai P (.faddr off x) (.fieldAddr T ox f)=true){K:AV->Prop}
  (hK:match X get x with
  |.c (.ptr b o)=>K (.c (.ptr b (o+off)))
  |.c (.ept s b i o)=>K (.c (.ept s b i (o+off)))
  |.c (.d (.rp cs o))=>K (.c (.d (.rp cs (o+off))))
  |_=>False):∃v,zaq P o get m [] [] v/\K v:=by
 simp only[zai,Bool.and_eq_true]at hc
 obtain⟨c0,hx⟩:=hc
 split at c0
 ·rename_i off' U i hf
  simp only[Bool.and_eq_true,beq_iff_eq,bne_iff_ne]at c0
  obtain⟨c1,c2⟩:=c0
  subst c1
  unfold zkf at hf
  split at hf
  ·rename_i fs hu
   split at hf
   ·rename_i fd hfd
    simp only[Option.map_eq_some_iff]at hf
    obtain⟨t,ht,hf⟩:=hf
    injection hf with h1 h2
    injection h2 with h2 h3
    subst h1 h3
    have base:∀(v:AV) (H:∀(h:PH) (ρ:RM) (p:Value),RepV h ρ (X get x) p->∃B q,p=.pointer (some ⟨B,q,none⟩)/\RepV h ρ v (.pointer (some ⟨B,q+fd.offset,none⟩))),zaq P o get m [] [] v:=by
     intro v H
     refine zaq.of_pure fun m' h1 ph ρ w a hr hg=>?_
     have r1:=zar hx (ph:=ph) (ρ:=ρ) (get:=get) (a:=a) fun k hk=>hg k (by rw[ho];simp[Op.operands,hk])
     obtain⟨B,q,e,rv⟩:=H ph ρ _ r1
     refine⟨_,?_,rv⟩
     unfold execOp;rw[ho]
     refine Runs.bind ?_ (Runs.pure _)
     show Runs P (Instr.fieldAt T (a.eval ox) f) w _ w
     rw[e]
     unfold Instr.fieldAt
     refine(Runs.underlying hu).bind ?_
     simp only[hfd]
     refine(Runs.pure (⟨B,q,none⟩:Addr)).bind ?_
     unfold fieldPlace
     refine Runs.bind (a:=(⟨B,q+fd.offset,none⟩:Addr)) ?_ (Runs.pure _)
     refine(Runs.sizeOf ht).bind ?_
     rw[if_neg c2,addr_add]
     exact Runs.pure _
    split at hK
    ·rename_i b q ex
     refine⟨_,base _ fun h ρ p rp=>?_,hK⟩
     rw[ex]at rp
     simp only[RepV,RepC]at rp⊢
     obtain⟨y,h1,h2⟩:=rp
     exact⟨y.1,q,h2,y,h1,rfl⟩
    ·rename_i s b i' q ex
     refine⟨_,base _ fun h ρ p rp=>?_,hK⟩
     rw[ex]at rp
     simp only[RepV,RepC]at rp⊢
     obtain⟨y,h1,h2⟩:=rp
     exact⟨y.1,_,h2,y,h1,by rw[Nat.add_assoc]⟩
    ·rename_i cs q ex
     refine⟨_,base _ fun h ρ p rp=>?_,hK⟩
     rw[ex]at rp
     simp only[RepV,RepC,RepD]at rp⊢
     obtain⟨B,y,h1,h2⟩:=rp
     exact⟨B,_,h1,B,y,by rw[Nat.add_assoc],h2⟩
    ·exact hK.elim
   ·cases hf
  ·cases hf
 ·cases c0
theorem zwf{o:Oper}{T:TypeId}{f off sz:Nat}{ag:Bool}{x:MX}{ox:Operand}(ho:o.op=.field T ox f)(hc:zai P (.field ag off sz x) (.field T ox f)=true){K:AV->Prop}{cs:List AC}
  (ex:X get x=.ag cs) (hK:ldC ag sz cs off K):∃v,zaq P o get m [] [] v/\K v:=by
 simp only[zai,Bool.and_eq_true]at hc
 obtain⟨c0,hx⟩:=hc
 split at c0
 ·rename_i off' U i hf
  simp only[Bool.and_eq_true,beq_iff_eq]at c0
  obtain⟨c1,c2⟩:=c0
  subst c1
  unfold zkf at hf
  split at hf
  ·rename_i fs hu
   split at hf
   ·rename_i fd hfd
    simp only[Option.map_eq_some_iff]at hf
    obtain⟨t,ht,hf⟩:=hf
    injection hf with h1 h2
    injection h2 with h2 h3
    subst h1 h2
    obtain⟨v,kv,H⟩:=zeM c2 hK
    refine⟨v,zaq.of_pure fun m' h1 ph ρ w a hr hg=>?_,kv⟩
    have r1:=zar hx (ph:=ph) (ρ:=ρ) (get:=get) (a:=a) fun k hk=>hg k (by rw[ho];simp[Op.operands,hk])
    rw[ex]at r1
    simp only[RepV]at r1
    obtain⟨vs,e1,e2,e3⟩:=r1
    obtain⟨vC,g1,g2⟩:=H (w:=w) e2 e3
    refine⟨vC,?_,g2⟩
    unfold execOp;rw[ho]
    refine Runs.bind ?_ (Runs.pure _)
    show Runs P (Instr.field T (a.eval ox) f) w _ w
    rw[e1]
    unfold Instr.field
    refine(Runs.underlying hu).bind ?_
    simp only[hfd]
    exact(Runs.pure vs.toArray).bind g1
   ·cases hf
  ·cases hf
 ·cases c0
theorem zz8{T:TypeId}{n:Nat}{i:TypeInfo}(h:znk P T=some (n,i)):∃e,P.underlying T=some (.array n e)/\P.info? e=some i:=by
 unfold znk at h
 split at h
 ·rename_i n' e he
  simp only[Option.map_eq_some_iff]at h
  obtain⟨t,ht,h⟩:=h
  cases h
  exact⟨e,he,ht⟩
 ·cases h
theorem zus{o:Oper}{T:TypeId}{s:Nat}{x i:MX}{ox oi:Operand}(ho:o.op=.indexAddr T ox oi)(hc:zai P (.iaddrS s x i) (.indexAddr T ox oi)=true){K:AV->Prop}
  (hK:match X get x,X get i with
  |.c (.d (.sl _ s' es)),.c (.d (.int _ j))=>s=s'/\0<=j/\(match es[j.toNat]? with|some e=>K (.c (.d (.rp e 0)))|none=>False)
  |.c (.msl s' b off len),.c (.d (.int _ j))=>s=s'/\0<=j/\j<len/\K (.c (.ept s b (off+j.toNat) 0))
  |_,_=>False):∃v,zaq P o get m [] [] v/\K v:=by
 simp only[zai,Bool.and_eq_true]at hc
 obtain⟨⟨c0,hx⟩,hi⟩:=hc
 split at c0
 ·rename_i e he
  simp only[beq_iff_eq]at c0
  obtain⟨et,hu,hei⟩:=zkI he
  have base:∀(v:AV) (j:Int) (k:IntKind) (ei:X get i=.c (.d (.int k j))) (hj:0<=j)
    (H:∀(h:PH) (ρ:RM) (p:Value),RepV h ρ (X get x) p->∃B q len cap,p=.slice (some ⟨B,q,none⟩) len cap/\j<(len:Int)/\RepV h ρ v (.pointer (some ⟨B,q+j.toNat*s,none⟩))),zaq P o get m [] [] v:=by
   intro v j k ei hj H
   refine zaq.of_pure fun m' h1 ph ρ w a hr hg=>?_
   have r1:=zar hx (ph:=ph) (ρ:=ρ) (get:=get) (a:=a) fun k hk=>hg k (by rw[ho];simp[Op.operands,hk])
   have r2:=zar hi (ph:=ph) (ρ:=ρ) (get:=get) (a:=a) fun k hk=>hg k (by rw[ho];simp[Op.operands,hk])
   rw[ei]at r2
   simp only[RepV,RepC,RepD]at r2
   obtain⟨B,q,len,cap,e1,e2,rv⟩:=H ph ρ _ r1
   refine⟨_,?_,rv⟩
   unfold execOp;rw[ho]
   refine Runs.bind ?_ (Runs.pure _)
   show Runs P (Instr.indexAt T (a.eval ox) (a.eval oi)) w _ w
   rw[e1,r2.1]
   unfold Instr.indexAt
   refine(Runs.pure (k,j)).bind ((Runs.underlying hu).bind ?_)
   refine(Runs.pure (some (⟨B,q,none⟩:Addr),len,et)).bind ?_
   refine(Runs.underlying hu).bind ?_
   simp only
   rw[if_pos ⟨hj,e2⟩]
   refine(Runs.sizeOf hei).bind ?_
   rw[addr_add,c0]
   exact Runs.pure _
  split at hK
  ·rename_i fl s' es k j ex ei
   obtain⟨k1,k2,hK⟩:=hK
   subst k1
   split at hK
   ·rename_i e0 he0
    refine⟨_,base _ j k ei k2 fun h ρ p rp=>?_,hK⟩
    rw[ex]at rp
    simp only[RepV,RepC,RepD]at rp⊢
    obtain⟨a,cap,r1,r2,r3,r4,r5,r6,r7⟩:=rp
    have hjl:j.toNat<es.length:=by
     rcases Nat.lt_or_ge j.toNat es.length with h|h
     ·exact h
     ·rw[List.getElem?_eq_none h]at he0;cases he0
    cases a with
    |none=>have:=(r5 rfl).1;subst this;simp at hjl
    |some q=>
     obtain⟨B,off,spot⟩:=q
     have:=r6 _ rfl (by omega)
     simp only at this
     subst this
     have hg:=r7.get he0
     refine⟨B,off,es.length,cap,r1,by omega,B,off+j.toNat*s,by simp,?_⟩
     simp only[cellsAt]at hg
     rw[List.drop_drop]at hg
     exact hg.2
   ·exact hK.elim
  ·rename_i s' b off len k j ex ei
   obtain⟨k1,k2,k3,hK⟩:=hK
   subst k1
   refine⟨_,base _ j k ei k2 fun h ρ p rp=>?_,hK⟩
   rw[ex]at rp
   simp only[RepV,RepC]at rp⊢
   obtain⟨p',a,r1,r2,r3,r4,_⟩:=rp
   have ha:=r4 (by omega)
   subst ha
   refine⟨p'.1,off*s,len,p'.2-off,r2,k3,p',r1,?_⟩
   rw[Nat.add_mul,Nat.add_zero]
  ·exact hK.elim
 ·cases c0
theorem zut{o:Oper}{T:TypeId}{len s:Nat}{x i:MX}{ox oi:Operand}(ho:o.op=.indexAddr T ox oi)(hc:zai P (.iaddrA len s x i) (.indexAddr T ox oi)=true){K:AV->Prop}
  (hK:match X get x,X get i with
  |.c (.ptr b o),.c (.d (.int _ j))=>0<=j/\j<len/\K (.c (.ptr b (o+j.toNat*s)))
  |.c (.ept s' b i' o),.c (.d (.int _ j))=>0<=j/\j<len/\K (.c (.ept s' b i' (o+j.toNat*s)))
  |.c (.d (.rp cs o)),.c (.d (.int _ j))=>0<=j/\j<len/\K (.c (.d (.rp cs (o+j.toNat*s))))
  |_,_=>False):∃v,zaq P o get m [] [] v/\K v:=by
 simp only[zai,Bool.and_eq_true]at hc
 obtain⟨⟨c0,hx⟩,hi⟩:=hc
 split at c0
 ·rename_i n' e he
  simp only[Bool.and_eq_true,beq_iff_eq]at c0
  obtain⟨c1,c2⟩:=c0
  subst c1
  obtain⟨et,hu,hei⟩:=zz8 he
  have base:∀(v:AV) (j:Int) (k:IntKind) (ei:X get i=.c (.d (.int k j))) (hj:0<=j) (hj':j<n')
    (H:∀(h:PH) (ρ:RM) (p:Value),RepV h ρ (X get x) p->∃B q,p=.pointer (some ⟨B,q,none⟩)/\RepV h ρ v (.pointer (some ⟨B,q+j.toNat*s,none⟩))),zaq P o get m [] [] v:=by
   intro v j k ei hj hj' H
   refine zaq.of_pure fun m' h1 ph ρ w a hr hg=>?_
   have r1:=zar hx (ph:=ph) (ρ:=ρ) (get:=get) (a:=a) fun k hk=>hg k (by rw[ho];simp[Op.operands,hk])
   have r2:=zar hi (ph:=ph) (ρ:=ρ) (get:=get) (a:=a) fun k hk=>hg k (by rw[ho];simp[Op.operands,hk])
   rw[ei]at r2
   simp only[RepV,RepC,RepD]at r2
   obtain⟨B,q,e1,rv⟩:=H ph ρ _ r1
   refine⟨_,?_,rv⟩
   unfold execOp;rw[ho]
   refine Runs.bind ?_ (Runs.pure _)
   show Runs P (Instr.indexAt T (a.eval ox) (a.eval oi)) w _ w
   rw[e1,r2.1]
   unfold Instr.indexAt
   refine(Runs.pure (k,j)).bind ((Runs.underlying hu).bind ?_)
   refine Runs.bind (a:=(some (⟨B,q,none⟩:Addr),n',et)) (w':=w) ?_ ?_
   ·exact Runs.pure _
   refine(Runs.underlying hu).bind ?_
   simp only
   rw[if_pos ⟨hj,hj'⟩]
   refine(Runs.sizeOf hei).bind ?_
   rw[addr_add,c2]
   exact Runs.pure _
  split at hK
  ·rename_i b q k j ex ei
   obtain⟨k1,k2,hK⟩:=hK
   refine⟨_,base _ j k ei k1 k2 fun h ρ p rp=>?_,hK⟩
   rw[ex]at rp
   simp only[RepV,RepC]at rp⊢
   obtain⟨y,h1,h2⟩:=rp
   exact⟨y.1,q,h2,y,h1,rfl⟩
  ·rename_i s' b i' q k j ex ei
   obtain⟨k1,k2,hK⟩:=hK
   refine⟨_,base _ j k ei k1 k2 fun h ρ p rp=>?_,hK⟩
   rw[ex]at rp
   simp only[RepV,RepC]at rp⊢
   obtain⟨y,h1,h2⟩:=rp
   exact⟨y.1,_,h2,y,h1,by rw[Nat.add_assoc]⟩
  ·rename_i cs q k j ex ei
   obtain⟨k1,k2,hK⟩:=hK
   refine⟨_,base _ j k ei k1 k2 fun h ρ p rp=>?_,hK⟩
   rw[ex]at rp
   simp only[RepV,RepC,RepD]at rp⊢
   obtain⟨B,y,h1,h2⟩:=rp
   exact⟨B,_,h1,B,y,by rw[Nat.add_assoc],h2⟩
  ·exact hK.elim
 ·cases c0
theorem zx9{o:Oper}{T:TypeId}{ag:Bool}{len s:Nat}{x i:MX}{ox oi:Operand}(ho:o.op=.index T ox oi)(hc:zai P (.idxA ag len s x i) (.index T ox oi)=true){K:AV->Prop}{cs:List AC}{k:IntKind}{j:Int}
  (ex:X get x=.ag cs) (ei:X get i=.c (.d (.int k j))) (hj:0<=j) (hj':j<len) (hK:ldC ag s cs (j.toNat*s) K):∃v,zaq P o get m [] [] v/\K v:=by
 simp only[zai,Bool.and_eq_true]at hc
 obtain⟨⟨c0,hx⟩,hi⟩:=hc
 split at c0
 ·rename_i n' e hu
  simp only[Bool.and_eq_true,beq_iff_eq]at c0
  obtain⟨c1,c2⟩:=c0
  subst c1
  obtain⟨d,it,t1,t2,t3,t4⟩:=zmB c2
  obtain⟨v,kv,H⟩:=zeM c2 hK
  refine⟨v,zaq.of_pure fun m' h1 ph ρ w a hr hg=>?_,kv⟩
  have r1:=zar hx (ph:=ph) (ρ:=ρ) (get:=get) (a:=a) fun k hk=>hg k (by rw[ho];simp[Op.operands,hk])
  have r2:=zar hi (ph:=ph) (ρ:=ρ) (get:=get) (a:=a) fun k hk=>hg k (by rw[ho];simp[Op.operands,hk])
  rw[ei]at r2
  simp only[RepV,RepC,RepD]at r2
  rw[ex]at r1
  simp only[RepV]at r1
  obtain⟨vs,e1,e2,e3⟩:=r1
  obtain⟨vC,g1,g2⟩:=H (w:=w) e2 e3
  refine⟨vC,?_,g2⟩
  unfold execOp;rw[ho]
  refine Runs.bind ?_ (Runs.pure _)
  show Runs P (Instr.index T (a.eval ox) (a.eval oi)) w _ w
  rw[e1,r2.1]
  unfold Instr.index
  refine(Runs.pure (k,j)).bind ((Runs.underlying hu).bind ?_)
  simp only
  rw[if_pos ⟨hj,hj'⟩]
  refine(Runs.sizeOf t2).bind ?_
  rw[t4]
  exact g1
 ·cases c0
theorem zya{o:Oper}{T:TypeId}{x i:MX}{ox oi:Operand}(ho:o.op=.index T ox oi)(hc:zai P (.idxS x i) (.index T ox oi)=true){t:ByteArray}{k:IntKind}{j:Int}{b:UInt8}
  (ex:X get x=.c (.d (.str t))) (ei:X get i=.c (.d (.int k j))) (hj:0<=j) (hb:t.data.toList[j.toNat]?=some b):zaq P o get m [] [] (.c (.d (.int .u8 b.toNat))):=by
 simp only[zai,Bool.and_eq_true]at hc
 obtain⟨⟨c0,hx⟩,hi⟩:=hc
 split at c0
 ·rename_i hu
  refine zaq.of_pure fun m' h1 ph ρ w a hr hg=>?_
  have r1:=zar hx (ph:=ph) (ρ:=ρ) (get:=get) (a:=a) fun k hk=>hg k (by rw[ho];simp[Op.operands,hk])
  have r2:=zar hi (ph:=ph) (ρ:=ρ) (get:=get) (a:=a) fun k hk=>hg k (by rw[ho];simp[Op.operands,hk])
  rw[ei]at r2
  rw[ex]at r1
  simp only[RepV,RepC,RepD]at r1 r2
  refine⟨.int .u8 b.toNat,?_,?_⟩
  ·unfold execOp;rw[ho]
   refine Runs.bind ?_ (Runs.pure _)
   show Runs P (Instr.index T (a.eval ox) (a.eval oi)) w _ w
   rw[r1.1,r2.1]
   unfold Instr.index
   refine(Runs.pure (k,j)).bind ((Runs.underlying hu).bind ?_)
   simp only
   rw[if_pos hj]
   have hb':t[j.toNat]?=some b:=by
    rw[<-hb]
    show(if h:_ then _ else _)=_
    by_cases h:j.toNat<t.size
    ·have:j.toNat<t.data.size:=h
     simp[h,this,Array.getElem?_eq_getElem]
     rfl
    ·have h2:¬j.toNat<t.data.size:=h
     simp[h,h2]
   rw[hb']
   exact Runs.pure _
  ·simp only[RepV,RepC,RepD]
   have:=b.toNat_lt
   refine⟨trivial,by simp[IntKind.min,IntKind.signed],?_⟩
   simp only[IntKind.max,IntKind.signed,IntKind.bits]
   simp
   omega
 ·cases c0
end
end Go.Abs
namespace Go.Abs
theorem zoV(n:Nat):∀(r c:Nat),Builtin.growBy n r c<=max c (n+(n+768)/4)
 |0,c=>by simp only[Builtin.growBy];omega
 | r+1,c=>by
  simp only[Builtin.growBy]
  split
  ·omega
  ·have:=zoV n r (c+(c+768)/4)
   have h2:c+(c+768)/4<=n+(n+768)/4:=by omega
   omega
theorem nextslicecap_le{n c:Nat}(h:c<n):Builtin.nextslicecap n c<=2*n+400:=by
 unfold Builtin.nextslicecap
 split
 ·omega
 ·split
  ·omega
  ·have:=zoV n 4 c
   omega
section
variable {P:Program} {get:Nat->AV} {m:Hp} {n:Nat}
theorem zdt{T T' ty e:TypeId}{i:TypeInfo}{d':TypeDesc}{base:Option Addr}{sLen sCap k:Nat}{x:Value}{w w':World}{new:Array Value}(hu:P.underlying T=some (.slice e))(hi:P.info? e=some i)
  (hu':P.underlying T'=some d') (hnot:∀k,d'≠.int k) (hn:Runs P (Builtin.lenOf x) w k w) (hle:sLen+k<=sCap) (hnew:Runs P (Builtin.firstCells i.size k x) w new w)
  (hst:∀a,base=some a->Runs P (storeCells (a.add (sLen*i.size)) new.toList) w () w') (hst':base=none->w'=w):
  Runs P (Builtin.append_ #[T,T'] ty #[.slice base sLen sCap,x]) w (.slice base (sLen+k) sCap) w':=by
 unfold Builtin.append_
 show Runs P (do
  let d<-underlying T
  _) w _ w'
 refine(Runs.underlying hu).bind ((Runs.sizeOf hi).bind ?_)
 dsimp only[show(#[T,T']:Array TypeId)[1]?=some T' from rfl]
 refine(Runs.underlying hu').bind ?_
 refine Runs.bind (a:=false) (w':=w) ?_ ?_
 ·cases d'<;>first|exact Runs.pure _|exact absurd rfl (hnot _)
 rw[if_neg (by simp)]
 refine Runs.bind hn ?_
 rw[if_pos hle]
 refine Runs.bind hnew ?_
 cases base with
 |none=>
  rw[hst' rfl]
  exact Runs.pure _
 |some a=>
  exact(hst a rfl).bind (Runs.pure _)
def World.drew1(w:World):World:={w with drawn:=w.drawn+1}
theorem zev{T T' ty e:TypeId}{i:TypeInfo}{d':TypeDesc}{zv:Value}{base:Option Addr}{sLen sCap k:Nat}{x:Value}{w:World}{old new:Array Value}(hu:P.underlying T=some (.slice e))(hi:P.info? e=some i)
  (hz:i.zero=some zv) (hu':P.underlying T'=some d') (hnot:∀k,d'≠.int k) (hn:Runs P (Builtin.lenOf x) w k w) (hgt:sCap<sLen+k) (hb:(sLen+k)*i.bytes<=70368744177664) (hb0:0<i.bytes) (hb1:i.bytes<=1073741824)
  (hold:Runs P (Builtin.firstCells i.size sLen (.slice base sLen sCap)) (World.drew1 w) old (World.drew1 w)) (hnew:Runs P (Builtin.firstCells i.size k x) (World.drew1 w) new (World.drew1 w)):
  ∃newCap,sLen+k<=newCap/\Runs P (Builtin.append_ #[T,T'] ty #[.slice base sLen sCap,x]) w (.slice (some ⟨w.heap.size,0,none⟩) (sLen+k) newCap)
   {World.drew1 w with heap:=w.heap.push (.cells (old++new++Builtin.zeroCells zv.cells (newCap-(sLen+k))) e)}:=by
 have hneed:sLen+k<=70368744177664:=by
  have:(sLen+k)*1<=(sLen+k)*i.bytes:=Nat.mul_le_mul_left _ hb0
  omega
 let q:Question:=.appendCap (sLen+k) sCap e
 refine⟨q.cut (w.tape w.drawn q),?_,?_⟩
 ·show sLen+k<=(Question.appendCap (sLen+k) sCap e).cut _
  simp only[Question.cut];omega
 unfold Builtin.append_
 refine(Runs.underlying hu).bind ((Runs.sizeOf hi).bind ?_)
 dsimp only[show(#[T,T']:Array TypeId)[1]?=some T' from rfl]
 refine(Runs.underlying hu').bind ?_
 refine Runs.bind (a:=false) (w':=w) ?_ ?_
 ·cases d'<;>first|exact Runs.pure _|exact absurd rfl (hnot _)
 rw[if_neg (by simp)]
 refine Runs.bind hn ?_
 rw[if_neg (by omega)]
 refine(Runs.typeInfo hi).bind ?_
 rw[if_neg (by
  rintro⟨_,h⟩
  rcases h with h|h
  ·cases h
  ·omega)]
 refine(Runs.typeInfo hi).bind ?_
 rw[if_neg (by
  have h1:=nextslicecap_le hgt
  have h2:Builtin.nextslicecap (sLen+k) sCap*i.bytes<=(2*(sLen+k)+400)*i.bytes:=Nat.mul_le_mul_right _ h1
  have h3:(2*(sLen+k)+400)*i.bytes=2*((sLen+k)*i.bytes)+400*i.bytes:=by rw[Nat.add_mul,Nat.mul_assoc]
  omega)]
 refine Runs.bind (a:=q.cut (w.tape w.drawn q)) (w':=World.drew1 w) ?_ ?_
 ·rfl
 refine(Runs.typeInfo hi).bind ((Runs.askRoom _).bind ?_)
 refine hold.bind ?_
 refine Runs.bind hnew ?_
 refine(Runs.zeroValue hi hz).bind ?_
 unfold newRow
 exact((Runs.newObj _).bind (Runs.pure _)).bind (Runs.pure _)
theorem zam.one{h:PH}{ρ:RM}{s:Nat}:∀{es:List (List AC)} {vs:List Value},zam h ρ s es vs->vs.length=es.length*s->∀v,v∈vs->v.one1=true
 |[],vs,_,e,v,hv=>by
  have:vs=[]:=by simpa using e
  subst this;cases hv
 | e0::es,vs,r,e,v,hv=>by
  simp only[zam]at r
  have hl:vs.length=s+es.length*s:=by simpa[Nat.add_mul,Nat.add_comm]using e
  rw[<-List.take_append_drop s vs]at hv
  rcases List.mem_append.1 hv with hv|hv
  ·have:=r.2.1.take
   rw[r.1]at this
   exact zae.one this (by simp;omega) v hv
  ·exact zam.one r.2.2 (by simp;omega) v hv
theorem zam.takeAll{ph:PH}{ρ:RM}{s:Nat}:∀{es:List (List AC)} {us:List Value},zam ph ρ s es us->zam ph ρ s es (us.take (es.length*s))
 |[],us,_=>by simp[zam]
 | e::es,us,r=>by
  simp only[zam]at r⊢
  have e2:(e::es).length*s=s+es.length*s:=by simp[Nat.add_mul,Nat.add_comm]
  have hl:=r.2.1.length
  refine⟨r.1,?_,?_⟩
  ·have:=r.2.1.take
   rw[r.1]at this
   rw[e2,List.take_add]
   exact this.more _
  ·rw[e2,List.take_add]
   rw[List.drop_append_of_le_length (by simp;omega),List.drop_of_length_le (by simp;omega)]
   simpa using zam.takeAll r.2.2
theorem znH{s:Nat}{y:MX}{K:List (List AC)->List Nat->Prop}(hK:srcs get m s K y):∃ys rd,K ys rd/\∀{m':Hp},(∀b,b∈rd->m' b=m b)->∀{ph:PH} {ρ:RM} {w:World} {v:Value},HRel ph ρ m' w.heap->RepV ph ρ (X get y) v->
  ∃new:List Value,Runs P (Builtin.lenOf v) w ys.length w/\(∀w2:World,w2.heap=w.heap->Runs P (Builtin.firstCells s ys.length v) w2 new.toArray w2)/\new.length=ys.length*s/\zam ph ρ s ys new:=by
 unfold srcs at hK
 split at hK
 ·rename_i fl s' ys ey
  obtain⟨k1,hK⟩:=hK
  subst k1
  refine⟨_,_,hK,fun {m'} hm {ph ρ w v} hr rv=>?_⟩
  rw[ey]at rv
  simp only[RepV,RepC,RepD]at rv
  obtain⟨a,cap,r1,r2,r3,r4,r5,r6,r7⟩:=rv
  subst r1
  have htot:=r7.total
  refine⟨(cellsAt ph a).take (ys.length*s),by simp only[List.length_map];exact Runs.pure _,?_,by simp;omega,?_⟩
  ·intro w2 hw2
   simp only[List.length_map]
   cases a with
   |none=>
    have:=(r5 rfl).1
    subst this
    simp only[Builtin.firstCells]
    simpa using (Runs.pure (#[]:Array Value))
   | some q=>
    obtain⟨B,off,spot⟩:=q
    simp only[Builtin.firstCells]
    by_cases hys:ys.length=0
    ·rw[hys]
     simp only[Nat.zero_mul,List.take_zero]
     simpa using Runs.loadCells0 (P:=P) _ w2
    have:=r6 _ rfl (by omega)
    simp only at this
    subst this
    have hlen:((cellsAt ph (some ⟨B,off,none⟩)).take (ys.length*s)).length=ys.length*s:=by simp;omega
    have:=Runs.loadCells (P:=P) (w:=w2) (B:=B) (o:=off) (vs:=(cellsAt ph (some ⟨B,off,none⟩)).take (ys.length*s)) (fun j u hj=>by
     have hj':=zeT hj
     simp only[cellsAt,List.getElem?_drop]at hj'
     unfold hcells at hj'
     cases hB:ph B with
     |none=>rw[hB]at hj';simp at hj'
     | some ob=>
      rw[hB]at hj'
      cases ob with
      |cells c T' fr=>
       rw[cell_of (by rw[hw2];exact hr.pers B _ hB)]
       simpa using hj'
      |_=>simp at hj')
    rw[hlen]at this
    exact this
  ·have r8:=zam.of_E (ρ:=ρ) r7
   have:=r8.takeAll
   simpa using this
 ·rename_i s' b off len ey
  split at hK
  ·rename_i s'' es eb
   obtain⟨k1,k2,k3,hK⟩:=hK
   subst k1 k2
   refine⟨_,_,hK,fun {m'} hm {ph ρ w v} hr rv=>?_⟩
   rw[ey]at rv
   simp only[RepV,RepC]at rv
   obtain⟨p,a,r1,r2,r3,r4,_⟩:=rv
   subst r2
   have how:=hr.own b p r1
   rw[hm b (by simp),eb]at how
   have hlen:((es.drop off).take len).length=len:=by simp;omega
   rw[hlen]
   rcases how with⟨h1,h2⟩|⟨us,U,g1,g2,g3,g5,g4⟩
   ·subst h2
    have:len=0:=by simp at k3;omega
    subst this
    refine⟨[],Runs.pure _,fun w2 _=>?_,by simp,by simp[zam]⟩
    cases a with
    |none=>exact Runs.pure _
    |some q=>simp only[Builtin.firstCells,Nat.zero_mul];exact Runs.pure _
   ·have hm2:(off+len)*s<=p.2*s:=Nat.mul_le_mul_right s r3
    have e2:(off+len)*s=off*s+len*s:=Nat.add_mul ..
    refine⟨(us.drop (off*s)).take (len*s),Runs.pure _,fun w2 hw2=>?_,by simp;omega,?_⟩
    ·by_cases hlt:off<p.2
     ·have:=r4 hlt
      subst this
      simp only[Builtin.firstCells]
      have hl2:((us.drop (off*s)).take (len*s)).length=len*s:=by simp;omega
      have:=Runs.loadCells (P:=P) (w:=w2) (B:=p.1) (o:=off*s) (vs:=(us.drop (off*s)).take (len*s)) (fun j u hj=>by
       have hj':=zeT hj
       rw[cell_of (by rw[hw2];exact g1)]
       simpa[List.getElem?_drop]using hj')
      rw[hl2]at this
      exact this
     ·have:len=0:=by omega
      subst this
      cases a with
      |none=>simp only[Builtin.firstCells,Nat.zero_mul,List.take_zero];exact rfl
      |some q=>simp only[Builtin.firstCells,Nat.zero_mul,List.take_zero];exact rfl
    ·have r5:=(g4.drop off).takeEs len
     have:=r5.takeAll
     rw[hlen]at this
     exact this
  ·exact hK.elim
 ·exact hK.elim
end
end Go.Abs
namespace Go.Abs
section
variable {P:Program} {get:Nat->AV} {m:Hp} {n:Nat}
theorem Runs.storeAt{B o:Nat}{us:List Value}{U:TypeId}{w:World}{vs:List Value}(hB:w.heap[B]?=some (.cells us.toArray U (0,0)))(hle:o+vs.length<=us.length)(h1:∀x,x∈vs->x.one1=true):
  Runs P (Go.storeCells ⟨B,o,none⟩ vs 0) w () {w with heap:=w.heap.setIfInBounds B (.cells (Abs.splice us o vs).toArray U (0,0))}:=by
 by_cases h0:vs=[]
 ·subst h0
  simp only[Abs.splice]
  have e:w.heap.setIfInBounds B (.cells us.toArray U (0,0))=w.heap:=by
   apply Array.ext_getElem?
   intro j
   by_cases hj:B=j
   ·subst hj
    have hlt:B<w.heap.size:=by
     rcases Nat.lt_or_ge B w.heap.size with h|h
     ·exact h
     ·rw[Array.getElem?_eq_none h]at hB;cases hB
    rw[Array.getElem?_setIfInBounds_self,if_pos hlt,hB]
   ·rw[Array.getElem?_setIfInBounds_ne hj]
  rw[e]
  exact Runs.pure _
 ·have:=Runs.storeCells (P:=P) o vs 0 us w hB (by simpa using hle) h1 h0
  simp only[Nat.add_zero]at this
  exact this
theorem zam.grown{ph:PH}{ρ:RM}{s:Nat}{es ys:List (List AC)}{us new:List Value}{len:Nat}(r:zam ph ρ s es us)(hl:len<=es.length)(r':zam ph ρ s ys new)(hn:new.length=ys.length*s)
  (hle:len*s+new.length<=us.length):zam ph ρ s (es.take len++ys) (Abs.splice us (len*s) new):=by
 rw[zj5 _ _ _ hle,List.append_assoc]
 have h1:=(r.takeEs len).takeAll
 have hlen:(es.take len).length=len:=by simp;omega
 rw[hlen]at h1
 exact h1.append (by rw[hlen];simp;omega) (r'.more _)
theorem zt2 {o:Oper} {c:Call} {T T':TypeId} {ox oy:Operand} {s bytes:Nat} {x y:MX} (ho:o.op=.call c) (hb:c.callee=.builtin .append) (ha:c.args.toList=[ox,oy]) (hta:c.argTypes.toList=[T,T'])
  (hx:chkX x ox=true) (hy:chkX y oy=true) (hni:isInt P T'=false) (hsome:(P.underlying T').isSome=true) {i:TypeInfo} (hi:zdb P T=some i) (c1:i.size=s) (c2:i.bytes=bytes) (c3:0<bytes) (c3':bytes<=1073741824) (c4:0<s)
  (hz:i.zero.isSome=true) (hzl:(zeroOf i).length=s) {K:AV->List Nat->List (Nat × Blk)->Prop}
  (hK:match X get x with
  |.c (.msl s' b off len)=>match m b with
   | .arr s'' es=>s=s'/\s=s''/\off=0/\len<=es.length/\m n=.non/\srcs get m s (fun ys rd=>(len+ys.length)*bytes<=70368744177664/\(rd=[]\/rd=[b]\/b∉rd)/\
     K (.c (.msl s n 0 (len+ys.length))) rd [(b,.dead),(n,.arr s (es.take len++ys))]) y
   |_=>False
  |.c (.d (.sl true s' []))=>m n=.non/\srcs get m s (fun ys rd=>ys.length*bytes<=70368744177664/\K (.c (.msl s n 0 ys.length)) rd [(n,.arr s ys)]) y
  |.c (.d (.sl true s' (e::es)))=>s=s'/\m n=.non/\srcs get m s (fun ys rd=>(ys=[]->K (.c (.d (.sl true s (e::es)))) rd [])/\(ys≠[]->((e::es).length+ys.length)*bytes<=70368744177664/\K (.c (.msl s n 0 ((e::es).length+ys.length))) rd [(n,.arr s ((e::es).map (·.map .d)++ys))])) y
  |_=>False):∃v rd wr,zaq P o get m rd wr v/\K v rd wr:=by
 obtain⟨d',hu'⟩:=Option.isSome_iff_exists.1 hsome
 have hnot:∀k,d'≠.int k:=by
  intro k hk;subst hk
  simp[isInt,hu']at hni
 obtain⟨et,hu,hei⟩:=zkI hi
 obtain⟨zv,ez⟩:=Option.isSome_iff_exists.1 hz
 have e0:zeroOf i=zv.cells.toList:=by simp[zeroOf,ez]
 have hzs:zv.cells.size=s:=by rw[e0]at hzl;simpa using hzl
 have hargs:c.args=#[ox,oy]:=by rw[<-Array.toArray_toList (xs:=c.args),ha]
 have htys:c.argTypes=#[T,T']:=by rw[<-Array.toArray_toList (xs:=c.argTypes),hta]
 -- the operation's run, out of append's
 have wrap:∀{a:Act} {w w':World} {v:Value},Runs P (Builtin.append_ #[T,T'] o.type #[a.eval ox,a.eval oy]) w v w'->Runs P (execOp a.eval o) w (.value v) w':=by
  intro a w w' v h
  unfold execOp;rw[ho]
  show Runs P (do let d<-resolve a.eval c o.type;invoke d.target d.args) w _ w'
  unfold resolve
  rw[hb,hargs,htys]
  refine(Runs.pure _).bind ?_
  simp only[invoke,List.map_toArray,List.map_cons,List.map_nil]
  exact h.bind (Runs.pure _)
 have ops:∀k,(ox=.tmp k\/oy=.tmp k)->Operand.tmp k∈o.op.operands:=by
  intro k hk
  rw[ho]
  simp only[Op.operands,Call.operands,hb,hargs]
  rcases hk with hk|hk<;>simp[hk]
 have blen:∀{k:Nat},k*bytes<=70368744177664->k<=zah:=fun {k} h=>by
  have:k*1<=k*bytes:=Nat.mul_le_mul_left _ c3
  unfold zah;omega
 -- a new block
 have fresh:∀{ph:PH} {ρ:RM} {m':Hp} {w:World} (hr:HRel ph ρ m' w.heap) (hn:m' n=.non) {es ys:List (List AC)} {oldl newl:List Value} {k newCap:Nat} (h1:zam ph ρ s es oldl) (h2:oldl.length=es.length*s)
   (h3:zam ph ρ s ys newl) (h4:newl.length=ys.length*s) (hk:es.length+ys.length=k) (hcap:k<=newCap) (hkl:k<=zah),
   HRel ph (upd ρ n (some (w.heap.size,newCap))) (upd m' n (.arr s (es++ys))) (w.heap.push (.cells (oldl.toArray++newl.toArray++Builtin.zeroCells zv.cells (newCap-k)) et))/\
   Step ph ρ m' w.heap ph (upd ρ n (some (w.heap.size,newCap))) (upd m' n (.arr s (es++ys))) (w.heap.push (.cells (oldl.toArray++newl.toArray++Builtin.zeroCells zv.cells (newCap-k)) et)):=by
  intro ph ρ m' w hr hn es ys oldl newl k newCap h1 h2 h3 h4 hk hcap hkl
  refine hr.pushO _ hn newCap (blk:=.arr s (es++ys)) (by simp) (.inr ⟨oldl++newl++(Builtin.zeroCells zv.cells (newCap-k)).toList,et,?_,?_,?_,?_,?_⟩)
  ·rw[zce]
   congr 2
   apply Array.ext';simp
  ·have hzc:(Builtin.zeroCells zv.cells (newCap-k)).toList.length=(newCap-k)*s:=by simp[Builtin.zeroCells,hzs]
   rw[List.length_append,List.length_append,hzc,h2,h4,<-Nat.add_mul,<-Nat.add_mul]
   congr 1;omega
  ·simp;omega
  ·simp;omega
  ·have rle:=zeU (ρ:=ρ) (p:=(w.heap.size,newCap)) ((hr.dom n).1 hn)
   have:=(h1.append h2 h3).more (Builtin.zeroCells zv.cells (newCap-k)).toList
   exact zam.mono (PH.le_refl ph) rle _ _ this
 split at hK
 ·rename_i s' b off len ex
  split at hK
  ·rename_i s'' es eb
   obtain⟨k1,k2,k3,k4,hn,hK⟩:=hK
   subst k1 k2 k3
   obtain⟨ys,rd,⟨hbnd,hrd,kk⟩,hsrc⟩:=znH (P:=P) hK
   refine⟨_,_,_,zaq.of_value fun m' h1 h2 ph ρ w a hr hg=>?_,kk⟩
   have r1:=zar hx (ph:=ph) (ρ:=ρ) (get:=get) (a:=a) fun k hk=>hg k (ops k (.inl hk))
   have r2:=zar hy (ph:=ph) (ρ:=ρ) (get:=get) (a:=a) fun k hk=>hg k (ops k (.inr hk))
   have eb':m' b=.arr s es:=(h2 (b,.dead) (by simp)).trans eb
   have hn':m' n=.non:=(h2 (n,.arr s (es.take len++ys)) (by simp)).trans hn
   have hnb:n≠b:=fun hh=>by subst hh;rw[eb']at hn';cases hn'
   obtain⟨new,s1,s2,s3,s4⟩:=hsrc (fun b' hb'=>h1 b' hb') hr r2
   rw[ex]at r1
   simp only[RepV,RepC]at r1
   obtain⟨p,base,p1,p2,p3,p4,p5⟩:=r1
   have hone:=zam.one s4 s3
   simp only[Nat.zero_add]at p3
   simp only[Nat.sub_zero]at p2
   have how:=hr.own b p p1
   rw[eb']at how
   have hl:=blen hbnd
   by_cases hin:len+ys.length<=p.2
   ·-- there is room
    by_cases hp0:p.2=0
    ·have hlen0:len=0:=by omega
     have hys:ys=[]:=List.length_eq_zero_iff.1 (by omega)
     subst hlen0 hys
     have hnew:new=[]:=List.length_eq_zero_iff.1 (by simpa using s3)
     subst hnew
     obtain⟨K1,S1⟩:=hr.kill (b:=b) (by rw[eb'];simp)
     obtain⟨K2,S2⟩:=K1.none (b:=n) (by rw[upd_ne _ _ hnb];exact hn') s
     refine⟨ph,_,w,.slice base 0 p.2,wrap ?_,S1.trans S2,K2,Same.refl w,?_⟩
     ·rw[p2]
      have:=zdt (P:=P) (T:=T) (T':=T') (ty:=o.type) (i:=i) (base:=base) (sLen:=0) (sCap:=p.2) (k:=0) (x:=a.eval oy) (w:=w) (w':=w) (new:=#[]) hu hei hu' hnot s1 (by omega) (by rw[c1];exact s2 w rfl)
       (fun q hq=>by simp only[Nat.zero_mul];exact Runs.pure _) (fun _=>rfl)
      simpa using this
     ·simp only[RepV,RepC]
      refine⟨(0,0),base,upd_same _ _ _,by simp[hp0],by simp,fun h=>by simp at h,fun q hq h=>by simp at h⟩
    ·have hreal:Real (m' b) p:=by rw[eb'];show 0<p.2;omega
     have hbase:=p4 (by omega)
     subst hbase
     rcases how with⟨q1,q2⟩|⟨us,U,g1,g2,g3,g5,g4⟩
     ·omega
     have hm3:(len+ys.length)*s<=p.2*s:=Nat.mul_le_mul_right s hin
     have e2:(len+ys.length)*s=len*s+ys.length*s:=Nat.add_mul ..
     have hle:len*s+new.length<=us.length:=by omega
     have hrep:zaC ph (upd ρ n (some p)) p (.arr s (es.take len++ys)) (w.heap.setIfInBounds p.1 (.cells (Abs.splice us (len*s) new).toArray U (0,0))):=by
      refine .inr ⟨_,U,zez _ _ (hr.real_lt p1 hreal),by rw[zbn];exact g2,by simp;omega,by simp;omega,?_⟩
      exact zam.mono (PH.le_refl ph) (zeU ((hr.dom n).1 hn')) _ _ (zam.grown g4 k4 s4 s3 hle)
     obtain⟨K1,S1⟩:=hr.move (.cells (Abs.splice us (len*s) new).toArray U (0,0)) p1 hreal hn' (blk:=.arr s (es.take len++ys)) (by simp) hrep
     refine⟨ph,_,{w with heap:=w.heap.setIfInBounds p.1 (.cells (Abs.splice us (len*s) new).toArray U (0,0))},.slice (some ⟨p.1,0,none⟩) (len+ys.length) p.2,wrap ?_,S1,K1,Same.refl w,?_⟩
     ·rw[p2]
      simp only[Nat.zero_mul]at*
      refine zdt (i:=i) (new:=new.toArray) hu hei hu' hnot s1 hin (by rw[c1];exact s2 w rfl) (fun q hq=>?_) (fun h=>by cases h)
      cases hq
      rw[addr_add,c1]
      simp only[Nat.zero_add]
      exact Runs.storeAt g1 (by simpa using hle) hone
     ·simp only[RepV,RepC]
      exact⟨p,some ⟨p.1,0,none⟩,upd_same _ _ _,by simp,by simpa using hin,fun _=>by simp,fun q hq _=>by cases hq;rfl⟩
   ·-- a new row
    obtain⟨K0,S0⟩:=hr.kill (b:=b) (by rw[eb'];simp)
    have hold:∃oldl:List Value,Runs P (Builtin.firstCells s len (.slice base len p.2)) (World.drew1 w) oldl.toArray (World.drew1 w)/\oldl.length=len*s/\zam ph ρ s (es.take len) oldl:=by
     rcases how with⟨q1,q2⟩|⟨us,U,g1,g2,g3,g5,g4⟩
     ·have:len=0:=by omega
      subst this
      refine⟨[],?_,by simp,by simp[zam]⟩
      cases base with
      |none=>exact rfl
      |some q=>simp only[Builtin.firstCells,Nat.zero_mul];exact rfl
     ·have hm3:len*s<=p.2*s:=Nat.mul_le_mul_right s p3
      have hlen:(es.take len).length=len:=by simp;omega
      refine⟨us.take (len*s),?_,by simp;omega,by have:=(g4.takeEs len).takeAll;rwa[hlen]at this⟩
      by_cases hp0:0<p.2
      ·have hbase:=p4 hp0
       subst hbase
       simp only[Builtin.firstCells,Nat.zero_mul]
       have hl2:(us.take (len*s)).length=len*s:=by simp;omega
       have:=Runs.loadCells (P:=P) (w:=World.drew1 w) (B:=p.1) (o:=0) (vs:=us.take (len*s)) (fun j u hj=>by
        have hj':=zeT hj
        rw[cell_of (show(World.drew1 w).heap[p.1]?=_ from g1)]
        simpa using hj')
       rw[hl2]at this
       exact this
      ·have:len=0:=by omega
       subst this
       simp only[Nat.zero_mul,List.take_zero]
       cases base with
       |none=>exact rfl
       |some q=>simp only[Builtin.firstCells,Nat.zero_mul];exact rfl
    obtain⟨oldl,o1,o2,o3⟩:=hold
    obtain⟨newCap,hcap,hrun⟩:=zev (P:=P) (T:=T) (T':=T') (ty:=o.type) (i:=i) (base:=base) (sLen:=len) (sCap:=p.2) (k:=ys.length) (x:=a.eval oy) (w:=w) (old:=oldl.toArray) (new:=new.toArray) hu hei ez hu' hnot s1
     (by omega) (by rw[c2];exact hbnd) (by omega) (by omega) (by rw[c1];exact o1) (by rw[c1];exact s2 _ rfl)
    have hlen:(es.take len).length=len:=by simp;omega
    obtain⟨K1,S1⟩:=fresh (w:=w) K0 (by rw[upd_ne _ _ hnb];exact hn') (k:=len+ys.length) (newCap:=newCap) o3 (by rw[hlen];exact o2) s4 s3 (by rw[hlen]) hcap hl
    refine⟨ph,_,{World.drew1 w with heap:=w.heap.push (.cells (oldl.toArray++new.toArray++Builtin.zeroCells zv.cells (newCap-(len+ys.length))) et)},_,wrap (by rw[p2];exact hrun),S0.trans S1,K1,⟨rfl,rfl,rfl⟩,?_⟩
    simp only[RepV,RepC]
    exact⟨_,some ⟨w.heap.size,0,none⟩,upd_same _ _ _,by simp,by simpa using hcap,fun _=>by simp,fun q hq _=>by cases hq;rfl⟩
  ·exact hK.elim
 ·rename_i s' ex
  obtain⟨hn,hK⟩:=hK
  obtain⟨ys,rd,⟨hbnd,kk⟩,hsrc⟩:=znH (P:=P) hK
  refine⟨_,_,_,zaq.of_value fun m' h1 h2 ph ρ w a hr hg=>?_,kk⟩
  have r1:=zar hx (ph:=ph) (ρ:=ρ) (get:=get) (a:=a) fun k hk=>hg k (ops k (.inl hk))
  have r2:=zar hy (ph:=ph) (ρ:=ρ) (get:=get) (a:=a) fun k hk=>hg k (ops k (.inr hk))
  have hn':m' n=.non:=(h2 (n,.arr s ys) (by simp)).trans hn
  obtain⟨new,s1,s2,s3,s4⟩:=hsrc (fun b' hb'=>h1 b' hb') hr r2
  rw[ex]at r1
  simp only[RepV,RepC,RepD]at r1
  obtain⟨base,cap,p1,p2,p3,p4,p5,p6,p7⟩:=r1
  have hcap0:cap=0:=by simpa using p3
  subst hcap0
  simp only[List.length_nil]at p1
  by_cases hys:ys.length=0
  ·have hys':ys=[]:=List.length_eq_zero_iff.1 hys
   subst hys'
   have hnew:new=[]:=List.length_eq_zero_iff.1 (by simpa using s3)
   subst hnew
   obtain⟨K2,S2⟩:=hr.none (b:=n) hn' s
   refine⟨ph,_,w,.slice base 0 0,wrap ?_,S2,K2,Same.refl w,?_⟩
   ·rw[p1]
    have:=zdt (P:=P) (T:=T) (T':=T') (ty:=o.type) (i:=i) (base:=base) (sLen:=0) (sCap:=0) (k:=0) (x:=a.eval oy) (w:=w) (w':=w) (new:=#[]) hu hei hu' hnot s1 (by omega) (by rw[c1];exact s2 w rfl)
     (fun q hq=>by simp only[Nat.zero_mul];exact Runs.pure _) (fun _=>rfl)
    simpa using this
   ·simp only[RepV,RepC]
    exact⟨(0,0),base,upd_same _ _ _,by simp,by simp,fun h=>by simp at h,fun q hq h=>by simp at h⟩
  ·obtain⟨newCap,hcap,hrun⟩:=zev (P:=P) (T:=T) (T':=T') (ty:=o.type) (i:=i) (base:=base) (sLen:=0) (sCap:=0) (k:=ys.length) (x:=a.eval oy) (w:=w) (old:=#[]) (new:=new.toArray) hu hei ez hu' hnot s1
    (by omega) (by rw[c2];simpa using hbnd) (by omega) (by omega)
    (by
     cases base with
     |none=>exact rfl
     |some q=>simp only[Builtin.firstCells,Nat.zero_mul];exact rfl) (by rw[c1];exact s2 _ rfl)
   obtain⟨K1,S1⟩:=fresh (w:=w) hr hn' (es:=[]) (oldl:=[]) (k:=ys.length) (newCap:=newCap) (by simp[zam]) (by simp) s4 s3 (by simp) (by omega) (blen hbnd)
   simp only[List.nil_append,Nat.zero_add]at K1 S1 hrun
   refine⟨ph,_,{World.drew1 w with heap:=w.heap.push (.cells ((#[]:Array Value)++new.toArray++Builtin.zeroCells zv.cells (newCap-ys.length)) et)},_,wrap (by rw[p1];exact hrun),S1,K1,⟨rfl,rfl,rfl⟩,?_⟩
   simp only[RepV,RepC]
   exact⟨_,some ⟨w.heap.size,0,none⟩,upd_same _ _ _,by simp,by simp;omega,fun _=>by simp,fun q hq _=>by cases hq;rfl⟩
 ·rename_i s' e es ex
  obtain⟨k1,hn,hK⟩:=hK
  subst k1
  obtain⟨ys,rd,⟨hemp,hfull⟩,hsrc⟩:=znH (P:=P) hK
  by_cases hye:ys=[]
  ·have kk:=hemp hye
   subst hye
   refine⟨_,_,_,zaq.of_value fun m' h1 h2 ph ρ w a hr hg=>?_,kk⟩
   have r1:=zar hx (ph:=ph) (ρ:=ρ) (get:=get) (a:=a) fun k hk=>hg k (ops k (.inl hk))
   have r2:=zar hy (ph:=ph) (ρ:=ρ) (get:=get) (a:=a) fun k hk=>hg k (ops k (.inr hk))
   obtain⟨new,s1,s2,s3,s4⟩:=hsrc (fun b' hb'=>h1 b' hb') hr r2
   have hnew:new=[]:=List.length_eq_zero_iff.1 (by simpa using s3)
   subst hnew
   rw[ex]at r1
   have r1':=r1
   simp only[RepV,RepC,RepD]at r1
   obtain⟨base,cap,p1,p2,p3,p4,p5,p6,p7⟩:=r1
   have hcap0:cap=(e::es).length:=p3 trivial
   refine⟨ph,ρ,w,a.eval ox,wrap ?_,Step.refl _ _ _ _,hr,Same.refl w,r1'⟩
   rw[p1]
   have:=zdt (P:=P) (T:=T) (T':=T') (ty:=o.type) (i:=i) (base:=base) (sLen:=(e::es).length) (sCap:=cap) (k:=0) (x:=a.eval oy) (w:=w) (w':=w) (new:=#[]) hu hei hu' hnot s1 (by omega) (by rw[c1];exact s2 w rfl)
    (fun q hq=>Runs.pure _) (fun _=>rfl)
   simpa using this
  obtain⟨hbnd,kk⟩:=hfull hye
  have hne:=hye
  generalize hes:e::es=l at ex hbnd kk
  refine⟨_,_,_,zaq.of_value fun m' h1 h2 ph ρ w a hr hg=>?_,kk⟩
  have r1:=zar hx (ph:=ph) (ρ:=ρ) (get:=get) (a:=a) fun k hk=>hg k (ops k (.inl hk))
  have r2:=zar hy (ph:=ph) (ρ:=ρ) (get:=get) (a:=a) fun k hk=>hg k (ops k (.inr hk))
  have hn':m' n=.non:=(h2 (n,.arr s (l.map (·.map .d)++ys)) (by simp)).trans hn
  obtain⟨new,s1,s2,s3,s4⟩:=hsrc (fun b' hb'=>h1 b' hb') hr r2
  rw[ex]at r1
  simp only[RepV,RepC,RepD]at r1
  obtain⟨base,cap,p1,p2,p3,p4,p5,p6,p7⟩:=r1
  have hcap0:cap=l.length:=p3 trivial
  subst hcap0
  have hl0:0<l.length:=by rw[<-hes];simp
  have hys:0<ys.length:=by cases ys<;>simp_all
  have htot:=p7.total
  have hold:∃oldl:List Value,Runs P (Builtin.firstCells s l.length (.slice base l.length l.length)) (World.drew1 w) oldl.toArray (World.drew1 w)/\oldl.length=l.length*s/\zam ph ρ s (l.map (·.map .d)) oldl:=by
   refine⟨(cellsAt ph base).take (l.length*s),?_,by simp;omega,?_⟩
   ·cases base with
    |none=>have:=(p5 rfl).1;rw[this]at hl0;simp at hl0
    | some q=>
     obtain⟨B,off,spot⟩:=q
     have:=p6 _ rfl hl0
     simp only at this
     subst this
     simp only[Builtin.firstCells]
     have hlen:((cellsAt ph (some ⟨B,off,none⟩)).take (l.length*s)).length=l.length*s:=by simp;omega
     have:=Runs.loadCells (P:=P) (w:=World.drew1 w) (B:=B) (o:=off) (vs:=(cellsAt ph (some ⟨B,off,none⟩)).take (l.length*s)) (fun j u hj=>by
      have hj':=zeT hj
      simp only[cellsAt,List.getElem?_drop]at hj'
      unfold hcells at hj'
      cases hB:ph B with
      |none=>rw[hB]at hj';simp at hj'
      | some ob=>
       rw[hB]at hj'
       cases ob with
       |cells c T' fr=>
        rw[cell_of (show(World.drew1 w).heap[B]?=_ from hr.pers B _ hB)]
        simpa using hj'
       |_=>simp at hj')
     rw[hlen]at this
     exact this
   ·have r8:=zam.of_E (ρ:=ρ) p7
    have:=r8.takeAll
    rwa[List.length_map]at this
  obtain⟨oldl,o1,o2,o3⟩:=hold
  obtain⟨newCap,hcap,hrun⟩:=zev (P:=P) (T:=T) (T':=T') (ty:=o.type) (i:=i) (base:=base) (sLen:=l.length) (sCap:=l.length) (k:=ys.length) (x:=a.eval oy) (w:=w) (old:=oldl.toArray) (new:=new.toArray) hu hei ez hu' hnot s1
   (by omega) (by rw[c2];exact hbnd) (by omega) (by omega) (by rw[c1];exact o1) (by rw[c1];exact s2 _ rfl)
  obtain⟨K1,S1⟩:=fresh (w:=w) hr hn' (es:=l.map (·.map .d)) (k:=l.length+ys.length) (newCap:=newCap) o3 (by simpa using o2) s4 s3 (by simp) hcap (blen hbnd)
  refine⟨ph,_,{World.drew1 w with heap:=w.heap.push (.cells (oldl.toArray++new.toArray++Builtin.zeroCells zv.cells (newCap-(l.length+ys.length))) et)},_,wrap (by rw[p1];exact hrun),S1,K1,⟨rfl,rfl,rfl⟩,?_⟩
  simp only[RepV,RepC]
  exact⟨_,some ⟨w.heap.size,0,none⟩,upd_same _ _ _,by simp,by simp;omega,fun _=>by simp,fun q hq _=>by cases hq;rfl⟩
 ·exact hK.elim
end
end Go.Abs
namespace Go.Abs
section
variable {P:Program} {get:Nat->AV} {m:Hp} {n:Nat}
theorem zkz{o:Oper}{c:Call}{ox:Operand}{T:TypeId}(ho:o.op=.call c)(hb:c.callee=.builtin .len)(hargs:c.args=#[ox])(htys:c.argTypes=#[T]){k:Nat}{ph:PH}{ρ:RM}{w:World}{a:Act}(hk:k<=zah)
  (hr:Runs P (Builtin.len_ #[T] o.type #[a.eval ox]) w (goInt k) w):∃vC,Runs P (execOp a.eval o) w (.value vC) w/\RepV ph ρ (.c (.d (.int .i64 k))) vC:=by
 refine⟨goInt k,?_,?_⟩
 ·unfold execOp;rw[ho]
  show Runs P (do let d<-resolve a.eval c o.type;invoke d.target d.args) w _ w
  unfold resolve
  rw[hb,hargs,htys]
  refine(Runs.pure _).bind ?_
  simp only[invoke,List.map_toArray,List.map_cons,List.map_nil]
  exact hr.bind (Runs.pure _)
 ·simp only[RepV,RepC]
  unfold RepD
  unfold zah at hk
  refine⟨rfl,?_,?_⟩
  ·simp only[IntKind.min,IntKind.signed,IntKind.bits];simp
  ·simp only[IntKind.max,IntKind.signed,IntKind.bits];simp;omega
theorem zzc{o:Oper}{c:Call}{x:MX}(ho:o.op=.call c)(hc:zai P (.len x) (.call c)=true){K:AV->List Nat->Prop}
  (hK:match X get x with
  |.c (.d (.sl _ _ es))=>K (.c (.d (.int .i64 es.length))) []
  |.c (.msl _ b off l)=>match m b with
   |.arr _ es=>off+l<=es.length/\K (.c (.d (.int .i64 l))) [b]
   |_=>False
  |_=>False):∃v rd,zaq P o get m rd [] v/\K v rd:=by
 simp only[zai]at hc
 split at hc
 ·rename_i ox T hb ha hta
  simp only[Bool.and_eq_true]at hc
  obtain⟨hx,ht⟩:=hc
  have hargs:c.args=#[ox]:=by rw[<-Array.toArray_toList (xs:=c.args),ha]
  have htys:c.argTypes=#[T]:=by rw[<-Array.toArray_toList (xs:=c.argTypes),hta]
  have hop:∀k,ox=.tmp k->Operand.tmp k∈o.op.operands:=by
   intro k hk;rw[ho];simp[Op.operands,Call.operands,hb,hargs,hk]
  split at ht
  ·rename_i e hu
   have sl:∀{w:World} {a:Option Addr} {l cp:Nat},Runs P (Builtin.len_ #[T] o.type #[.slice a l cp]) w (goInt l) w:=by
    intro w a l cp
    unfold Builtin.len_
    refine(Runs.underlying hu).bind ?_
    exact Runs.pure _
   split at hK
   ·rename_i fl s es ex
    refine⟨_,[],zaq.of_pure fun m' h1 ph ρ w a hr hg=>?_,hK⟩
    have r1:=zar hx (ph:=ph) (ρ:=ρ) (get:=get) (a:=a) fun k hk=>hg k (hop k hk)
    rw[ex]at r1
    simp only[RepV,RepC,RepD]at r1
    obtain⟨b,cap,e1,e2,e3,e4,_⟩:=r1
    refine zkz ho hb hargs htys e4 ?_
    rw[e1]
    exact sl
   ·rename_i s b off l ex
    split at hK
    ·rename_i s' es eb
     obtain⟨k1,hK⟩:=hK
     refine⟨_,[b],zaq.of_pure fun m' h1 ph ρ w a hr hg=>?_,hK⟩
     have r1:=zar hx (ph:=ph) (ρ:=ρ) (get:=get) (a:=a) fun k hk=>hg k (hop k hk)
     rw[ex]at r1
     simp only[RepV,RepC]at r1
     obtain⟨p,q,e0,e1,e2⟩:=r1
     have how:=hr.own b p e0
     rw[h1 b (by simp),eb]at how
     have hlm:l<=zah:=by
      rcases how with⟨_,h0⟩|⟨us,U,g1,g2,g3,g5,g4⟩
      ·rw[h0]at k1;simp at k1;unfold zah;omega
      ·omega
     refine zkz ho hb hargs htys hlm ?_
     rw[e1]
     exact sl
    ·exact hK.elim
   ·exact hK.elim
  ·cases ht
 ·cases hc
theorem zxN{o:Oper}{c:Call}{x:MX}(ho:o.op=.call c)(hc:zai P (.lenS x) (.call c)=true){t:ByteArray}(ex:X get x=.c (.d (.str t))):zaq P o get m [] [] (.c (.d (.int .i64 t.size))):=by
 simp only[zai]at hc
 split at hc
 ·rename_i ox T hb ha hta
  simp only[Bool.and_eq_true]at hc
  obtain⟨hx,ht⟩:=hc
  have hargs:c.args=#[ox]:=by rw[<-Array.toArray_toList (xs:=c.args),ha]
  have htys:c.argTypes=#[T]:=by rw[<-Array.toArray_toList (xs:=c.argTypes),hta]
  have hop:∀k,ox=.tmp k->Operand.tmp k∈o.op.operands:=by
   intro k hk;rw[ho];simp[Op.operands,Call.operands,hb,hargs,hk]
  split at ht
  ·rename_i hu
   refine zaq.of_pure fun m' h1 ph ρ w a hr hg=>?_
   have r1:=zar hx (ph:=ph) (ρ:=ρ) (get:=get) (a:=a) fun k hk=>hg k (hop k hk)
   rw[ex]at r1
   simp only[RepV,RepC,RepD]at r1
   refine zkz ho hb hargs htys r1.2 ?_
   rw[r1.1]
   unfold Builtin.len_
   refine(Runs.underlying hu).bind ?_
   exact Runs.pure _
  ·cases ht
 ·cases hc
theorem zjP{o:Oper}{x:MX}{ox:Operand}(ho:o.op=.nilCheck ox)(hx:chkX x ox=true)(hp:∀{ph:PH} {ρ:RM} {v:Value},RepV ph ρ (X get x) v->∃q,v=.pointer (some q)):zaq P o get m [] [] (X get x):=by
 refine zaq.of_pure fun m' h1 ph ρ w a hr hg=>⟨a.eval ox,?_,?_⟩
 ·have r1:=zar hx (ph:=ph) (ρ:=ρ) (get:=get) (a:=a) fun k hk=>hg k (by rw[ho];simp[Op.operands,hk])
  obtain⟨q,e⟩:=hp r1
  unfold execOp;rw[ho]
  simp only[e]
  exact Runs.pure _
 ·exact zar hx fun k hk=>hg k (by rw[ho];simp[Op.operands,hk])
theorem zat.nth{h:PH}{ρ:RM}:∀{xs:List AV} {vs:List Value} {j:Nat} {x:AV},zat h ρ xs vs->xs[j]?=some x->∃v,vs[j]?=some v/\RepV h ρ x v
 |[],_,j,x,_,e=>by simp at e
 |_::_,[],_,_,r,_=>by simp[zat]at r
 |d::ds,v::vs,0,x,r,e=>by
  simp only[zat]at r
  simp at e
  subst e
  exact⟨v,by simp,r.1⟩
 |d::ds,v::vs,j+1,x,r,e=>by
  simp only[zat]at r
  simp only[List.getElem?_cons_succ]at e⊢
  exact zat.nth r.2 e
theorem zrV{o:Oper}{x:MX}{ox:Operand}{i:Nat}{vs:List AV}{v:AV}(ho:o.op=.extract ox i)(hx:chkX x ox=true)(ex:X get x=.tup vs)(ev:vs[i]?=some v):zaq P o get m [] [] v:=by
 refine zaq.of_pure fun m' h1 ph ρ w a hr hg=>?_
 have r1:=zar hx (ph:=ph) (ρ:=ρ) (get:=get) (a:=a) fun k hk=>hg k (by rw[ho];simp[Op.operands,hk])
 rw[ex]at r1
 simp only[RepV]at r1
 obtain⟨us,e1,e2⟩:=r1
 obtain⟨u,e3,e4⟩:=e2.nth ev
 refine⟨u,?_,e4⟩
 unfold execOp;rw[ho]
 refine Runs.bind ?_ (Runs.pure _)
 show Runs P (Instr.extract (a.eval ox) i) w u w
 rw[e1]
 unfold Instr.extract
 simp only[List.getElem?_toArray,e3]
 exact Runs.pure _
theorem zhL{get:Nat->AV}{d:Nat}{K:Nat->Prop}{x:Option MX}{ox:Option Operand}(h:bnd get d K x)(hc:zcL x ox=true):∃j,K j/\(ox=none->j=d)/\
  ∀{ph:PH} {ρ:RM} {a:Act},(∀k,ox=some (.tmp k)->RepV ph ρ (get k) (a.tmps.getD k undef))->∀y,ox=some y->∃k,a.eval y=.int k j:=by
 unfold bnd at h
 split at h
 ·cases ox with
  |none=>exact⟨d,h,fun _=>rfl,fun _ y hy=>by cases hy⟩
  |some _=>simp[zcL]at hc
 ·rename_i x
  cases ox with
  |none=>simp[zcL]at hc
  | some y=>
   simp only[zcL]at hc
   split at h
   ·rename_i k j ex
    obtain⟨h1,h2⟩:=h
    refine⟨j.toNat,h2,fun hh=>(by cases hh),fun {ph ρ a} hg y' hy'=>?_⟩
    cases hy'
    have r1:=zar hc (ph:=ph) (ρ:=ρ) (get:=get) (a:=a) fun k hk=>hg k (by rw[hk])
    rw[ex]at r1
    simp only[RepV,RepC,RepD]at r1
    exact⟨k,by rw[r1.1];congr 1;omega⟩
   ·exact h.elim
theorem zc8{x:Value}{k:IntKind}{j y:Nat}{code:BoundsCode}{w:World}(e:x=.int k j)(h:j<=y):Runs P (Instr.sliceBound x y code) w j w:=by
 rw[e]
 unfold Instr.sliceBound
 refine(Runs.pure (k,(j:Int))).bind ?_
 dsimp only
 rw[if_pos (by omega)]
 have:((j:Int)).toNat=j:=by simp
 rw[this]
 exact Runs.pure _
theorem zgp{isSlice:Bool}{len cap:Nat}{low high:Option Value}{l h:Nat}{w:World}(hl:∀x,low=some x->∃k,x=.int k l)(hl0:low=none->l=0)(hh:∀x,high=some x->∃k,x=.int k h)(hh0:high=none->h=len)
  (h1:l<=h) (h2:h<=cap):Runs P (Instr.sliceBounds isSlice len cap low high none) w (l,h,cap) w:=by
 unfold Instr.sliceBounds
 refine(Runs.pure cap).bind ?_
 dsimp only
 have e2:∀(K:Nat->Sem (Nat × Nat × Nat)),(∀v,K v=Pure.pure (v,h,cap))->Runs P (match low with
   |some v=>do
    let l<-Instr.sliceBound v h (if(none:Option Value).isSome=true then .slice3C else .sliceB)
    K l
   |none=>do
    let l<-Pure.pure 0
    K l) w (l,h,cap) w:=by
  intro K hK
  cases low with
  |none=>
   have:=hl0 rfl
   subst this
   refine(Runs.pure 0).bind ?_
   rw[hK];exact Runs.pure _
  |some v=>
   obtain⟨k,e⟩:=hl v rfl
   refine(zc8 e h1).bind ?_
   rw[hK];exact Runs.pure _
 cases high with
 |none=>
  have:=hh0 rfl
  subst this
  refine(Runs.pure _).bind ?_
  exact e2 _ fun _=>rfl
 |some v=>
  obtain⟨k,e⟩:=hh v rfl
  refine(zc8 e h2).bind ?_
  exact e2 _ fun _=>rfl
theorem zgq{α β:Type}{x:Option α}{f:α->β}(h:x.map f=none):x=none:=by cases x<;>simp_all
theorem zt0{x:Option MX}{o:Option Operand}(h:zcL x o=true):x.isNone=o.isNone:=by cases x<;>cases o<;>simp_all[zcL]
theorem zvL{o:Oper}{T:TypeId}{s:Nat}{x:MX}{lo hi:Option MX}{ox:Operand}{l h mx:Option Operand}(ho:o.op=.slice T ox l h mx)(hc:zai P (.slice s x lo hi) (.slice T ox l h mx)=true){K:AV->Prop}
  (hK:match X get x with
  |.c (.d (.sl e s' es))=>s=s'/\bnd get es.length (fun h=>bnd get 0 (fun l=>l<=h/\h<=es.length/\K (.c (.d (.sl (e&&hi.isNone) s ((es.take h).drop l))))) lo) hi
  |.c (.msl s' b off len)=>s=s'/\bnd get len (fun h=>bnd get 0 (fun l=>l<=h/\h<=len/\K (.c (.msl s b (off+l) (h-l)))) lo) hi
  |_=>False):∃v,zaq P o get m [] [] v/\K v:=by
 simp only[zai,Bool.and_eq_true]at hc
 obtain⟨⟨⟨⟨c0,c1⟩,hx⟩,c2⟩,c3⟩:=hc
 have hmx:mx=none:=by cases mx<;>simp_all
 subst hmx
 split at c0
 ·rename_i et het
  simp only[beq_iff_eq]at c0
  obtain⟨e,hu,hei⟩:=zkI het
  have ops:∀k,(ox=.tmp k\/l=some (.tmp k)\/h=some (.tmp k))->Operand.tmp k∈o.op.operands:=by
   intro k hk;rw[ho];simp only[Op.operands]
   rcases hk with hk|hk|hk<;>simp[hk]
  have base:∀(v:AV) (L H:Nat)
    (HL:∀{ph:PH} {ρ:RM} {a:Act},(∀k,l=some (.tmp k)->RepV ph ρ (get k) (a.tmps.getD k undef))->∀y,l=some y->∃k,a.eval y=.int k L)
    (HH:∀{ph:PH} {ρ:RM} {a:Act},(∀k,h=some (.tmp k)->RepV ph ρ (get k) (a.tmps.getD k undef))->∀y,h=some y->∃k,a.eval y=.int k H)
    (hl0:l=none->L=0) (hLH:L<=H)
    (HV:∀(ph:PH) (ρ:RM) (p:Value),RepV ph ρ (X get x) p->∃A len cap,p=.slice A len cap/\(h=none->H=len)/\H<=cap/\RepV ph ρ v (.slice (if cap=L then A else A.map (·.add (L*s))) (H-L) (cap-L))),zaq P o get m [] [] v:=by
   intro v L H HL HH hl0 hLH HV
   refine zaq.of_pure fun m' h1 ph ρ w a hr hg=>?_
   have r1:=zar hx (ph:=ph) (ρ:=ρ) (get:=get) (a:=a) fun k hk=>hg k (ops k (.inl hk))
   obtain⟨A,len,cap,e1,e2,e3,rv⟩:=HV ph ρ _ r1
   refine⟨_,?_,rv⟩
   unfold execOp;rw[ho]
   refine Runs.bind ?_ (Runs.pure _)
   show Runs P (Instr.sliceAt T (a.eval ox) (l.map a.eval) (h.map a.eval) none) w _ w
   rw[e1]
   unfold Instr.sliceAt
   refine(Runs.underlying hu).bind ?_
   unfold Instr.slice
   refine(Runs.underlying hu).bind ?_
   refine(zgp (l:=L) (h:=H) ?_ (fun hh=>hl0 (zgq hh)) ?_ (fun hh=>e2 (zgq hh)) hLH e3).bind ?_
   ·intro y hy
    cases hl:l with
    |none=>rw[hl]at hy;cases hy
    |some z=>
     rw[hl]at hy
     simp only[Option.map_some,Option.some.injEq]at hy
     subst hy
     exact HL (fun k hk=>hg k (ops k (.inr (.inl hk)))) z hl
   ·intro y hy
    cases hh:h with
    |none=>rw[hh]at hy;cases hy
    |some z=>
     rw[hh]at hy
     simp only[Option.map_some,Option.some.injEq]at hy
     subst hy
     exact HH (fun k hk=>hg k (ops k (.inr (.inr hk)))) z hh
   refine(Runs.sizeOf hei).bind ?_
   rw[c0]
   exact Runs.pure _
  split at hK
  ·rename_i fl s' es ex
   obtain⟨k1,hK⟩:=hK
   subst k1
   obtain⟨H,hK,hH0,HH⟩:=zhL hK c3
   obtain⟨L,⟨g1,g2,kk⟩,hL0,HL⟩:=zhL hK c2
   refine⟨_,base _ L H HL HH hL0 g1 fun ph ρ p rp=>?_,kk⟩
   rw[ex]at rp
   simp only[RepV,RepC,RepD]at rp⊢
   obtain⟨A,cap,r1,r2,r3,r4,r5,r6,r7⟩:=rp
   have hlen:((es.take H).drop L).length=H-L:=by simp;omega
   refine⟨A,es.length,cap,r1,hH0,by omega,_,_,by rw[hlen],by omega,?_,by omega,?_,?_,?_⟩
   ·intro hf
    simp only[Bool.and_eq_true]at hf
    have hn:=zt0 c3
    rw[hf.2]at hn
    have hh:h=none:=by
     cases h with
     |none=>rfl
     |some _=>cases hn
    have:=hH0 hh
    have:=r3 hf.1
    omega
   ·intro hA
    split at hA
    ·have:=r5 hA;rw[this.1];simp;omega
    ·have hA':A=none:=zgq hA
     have:=r5 hA';rw[this.1];simp;omega
   ·intro p hp hcap
    split at hp
    ·exact r6 p hp (by omega)
    ·cases A with
     |none=>cases hp
     |some q=>
      simp only[Option.map_some,Option.some.injEq]at hp
      rw[<-hp]
      have:=r6 q rfl (by omega)
      obtain⟨B,of,sp⟩:=q
      simp only at this
      subst this
      rw[addr_add]
   ·split
    ·rename_i hcl
     have:(es.take H).drop L=[]:=List.length_eq_zero_iff.1 (by rw[hlen];omega)
     rw[this];simp[RepE]
    ·cases A with
     |none=>have:=(r5 rfl).1;subst this;simp[RepE]
     |some q=>
      have:=r6 q rfl (by omega)
      obtain⟨B,of,sp⟩:=q
      simp only at this
      subst this
      simp only[Option.map_some,addr_add,cellsAt]at r7⊢
      rw[<-List.drop_drop]
      exact(r7.take H).drop L
  ·rename_i s' b off len ex
   obtain⟨k1,hK⟩:=hK
   subst k1
   obtain⟨H,hK,hH0,HH⟩:=zhL hK c3
   obtain⟨L,⟨g1,g2,kk⟩,hL0,HL⟩:=zhL hK c2
   refine⟨_,base _ L H HL HH hL0 g1 fun ph ρ p rp=>?_,kk⟩
   rw[ex]at rp
   simp only[RepV,RepC]at rp⊢
   obtain⟨q,A,r1,r2,r3,r4,r5⟩:=rp
   refine⟨A,len,q.2-off,r2,hH0,by omega,q,_,r1,by rw[Nat.sub_sub],by omega,fun hlt=>?_,fun z hz hcap=>?_⟩
   ·rw[if_neg (by omega),r4 (by omega)]
    simp only[Option.map_some,addr_add,Nat.add_mul]
   ·split at hz
    ·exact r5 z hz (by omega)
    ·cases A with
     |none=>cases hz
     |some y=>
      simp only[Option.map_some,Option.some.injEq]at hz
      rw[<-hz]
      have:=r5 y rfl (by omega)
      obtain⟨B,of,sp⟩:=y
      simp only at this
      subst this
      rw[addr_add]
  ·exact hK.elim
 ·cases c0
theorem zrW{o:Oper}{T:TypeId}{s:Nat}{x:MX}{ox:Operand}{l h mx:Option Operand}(ho:o.op=.slice T ox l h mx)(hc:zai P (.slice00 s x) (.slice T ox l h mx)=true){fl:Bool}{s':Nat}{es:List (List D)}
  (ex:X get x=.c (.d (.sl fl s' es))):zaq P o get m [] [] (.c (.d (.sl true s []))):=by
 simp only[zai,Bool.and_eq_true]at hc
 obtain⟨⟨⟨⟨c0,hx⟩,c1⟩,c2⟩,c3⟩:=hc
 have hl:l=none:=by cases l<;>simp_all
 subst hl
 split at c0
 ·rename_i et het
  simp only[beq_iff_eq]at c0
  obtain⟨e,hu,hei⟩:=zkI het
  cases h with
  |none=>simp[zcL]at c2
  | some h=>
   cases mx with
   |none=>simp[zcL]at c3
   | some mx=>
    simp only[zcL]at c2 c3
    refine zaq.of_pure fun m' h1 ph ρ w a hr hg=>?_
    have r1:=zar hx (ph:=ph) (ρ:=ρ) (get:=get) (a:=a) fun k hk=>hg k (by rw[ho];simp[Op.operands,hk])
    have r2:=zar c2 (ph:=ph) (ρ:=ρ) (get:=get) (a:=a) fun k hk=>hg k (by rw[ho];simp[Op.operands,hk])
    have r3:=zar c3 (ph:=ph) (ρ:=ρ) (get:=get) (a:=a) fun k hk=>hg k (by rw[ho];simp[Op.operands,hk])
    simp only[X,RepV,RepC,RepD]at r2 r3
    rw[ex]at r1
    simp only[RepV,RepC,RepD]at r1
    obtain⟨A,cap,q1,q2,q3,q4,q5,q6,q7⟩:=r1
    refine⟨.slice A 0 0,?_,?_⟩
    ·unfold execOp;rw[ho]
     refine Runs.bind ?_ (Runs.pure _)
     show Runs P (Instr.sliceAt T (a.eval ox) none (some (a.eval h)) (some (a.eval mx))) w _ w
     rw[q1,r2.1,r3.1]
     unfold Instr.sliceAt
     refine(Runs.underlying hu).bind ?_
     unfold Instr.slice
     refine(Runs.underlying hu).bind ?_
     refine Runs.bind (a:=(0,0,0)) (w':=w) ?_ ?_
     ·unfold Instr.sliceBounds
      refine Runs.bind (a:=0) (w':=w) (zc8 (k:=.i64) (j:=0) rfl (Nat.zero_le _)) ?_
      refine Runs.bind (a:=0) (w':=w) (zc8 (k:=.i64) (j:=0) rfl (Nat.zero_le _)) ?_
      exact(Runs.pure 0).bind (Runs.pure _)
     ·refine(Runs.sizeOf hei).bind ?_
      exact Runs.pure _
    ·simp only[RepV,RepC,RepD]
     refine⟨A,0,rfl,by simp,fun _=>rfl,by simp,fun _=>⟨trivial,rfl⟩,fun q hq h=>absurd h (by simp),by simp[RepE]⟩
 ·cases c0
theorem zt1{o:Oper}{T:TypeId}{x:MX}{lo hi:Option MX}{ox:Operand}{l h mx:Option Operand}(ho:o.op=.slice T ox l h mx)(hc:zai P (.sliceS x lo hi) (.slice T ox l h mx)=true){K:AV->Prop}{t:ByteArray}
  (ex:X get x=.c (.d (.str t))) (hK:bnd get t.size (fun h=>bnd get 0 (fun l=>l<=h/\h<=t.size/\K (.c (.d (.str (t.extract l h))))) lo) hi):∃v,zaq P o get m [] [] v/\K v:=by
 simp only[zai,Bool.and_eq_true]at hc
 obtain⟨⟨⟨⟨c0,c1⟩,hx⟩,c2⟩,c3⟩:=hc
 have hmx:mx=none:=by cases mx<;>simp_all
 subst hmx
 split at c0
 ·rename_i hu
  have ops:∀k,(ox=.tmp k\/l=some (.tmp k)\/h=some (.tmp k))->Operand.tmp k∈o.op.operands:=by
   intro k hk;rw[ho];simp only[Op.operands]
   rcases hk with hk|hk|hk<;>simp[hk]
  obtain⟨H,hK,hH0,HH⟩:=zhL hK c3
  obtain⟨L,⟨g1,g2,kk⟩,hL0,HL⟩:=zhL hK c2
  refine⟨_,zaq.of_pure fun m' h1 ph ρ w a hr hg=>?_,kk⟩
  have r1:=zar hx (ph:=ph) (ρ:=ρ) (get:=get) (a:=a) fun k hk=>hg k (ops k (.inl hk))
  rw[ex]at r1
  simp only[RepV,RepC,RepD]at r1
  refine⟨.string (t.extract L H),?_,?_⟩
  ·unfold execOp;rw[ho]
   refine Runs.bind ?_ (Runs.pure _)
   show Runs P (Instr.sliceAt T (a.eval ox) (l.map a.eval) (h.map a.eval) none) w _ w
   rw[r1.1]
   unfold Instr.sliceAt
   refine(Runs.underlying hu).bind ?_
   unfold Instr.slice
   refine(Runs.underlying hu).bind ?_
   refine(zgp (l:=L) (h:=H) ?_ (fun hh=>hL0 (zgq hh)) ?_ (fun hh=>hH0 (zgq hh)) g1 g2).bind ?_
   ·intro y hy
    cases hl:l with
    |none=>rw[hl]at hy;cases hy
    |some z=>
     rw[hl]at hy
     simp only[Option.map_some,Option.some.injEq]at hy
     subst hy
     exact HL (fun k hk=>hg k (ops k (.inr (.inl hk)))) z hl
   ·intro y hy
    cases hh:h with
    |none=>rw[hh]at hy;cases hy
    |some z=>
     rw[hh]at hy
     simp only[Option.map_some,Option.some.injEq]at hy
     subst hy
     exact HH (fun k hk=>hg k (ops k (.inr (.inr hk)))) z hh
   exact Runs.pure _
  ·simp only[RepV,RepC]
   unfold RepD
   refine⟨rfl,?_⟩
   have:=r1.2
   rw[ByteArray.size_extract]
   omega
 ·cases c0
end
end Go.Abs
