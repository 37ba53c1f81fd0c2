/- Texts of ours, joined and written short by a program of ours. -/
import Derived.Test.YtlfjlokfciejnaaGreatDoorCJ02
import Derived.Laws.StructEq
set_option maxRecDepth 20000
set_option maxHeartbeats 4000000
set_option linter.unusedVariables false
set_option linter.unusedSimpArgs false
namespace Go.Abs
section
variable {P:Program} {get:Nat->AV} {m:Hp} {n:Nat}
theorem LM(a b:fI):(a==b)=decide (a=b):=by
 rw[beq_toListBytes,toList_inj]
def uK:Nat->TypeDesc->Prop
 |0,.int _=>True
 |1,.string=>True
 |2,.bool=>True
 |_,_=>False
theorem LP{T:TypeId}{kk:Nat}(h:BS P T kk=true):∃k e d,P.underlying T=some (.map k e)/\P.underlying k=some d/\uK kk d:=by
 unfold BS at h;split at h
 · rename_i k e hu;split at h<;>first|(cases h;done)|skip
   all_goals
     rename_i hk;simp only[aY]at h;subst h;exact⟨k,e,_,hu,hk,trivial⟩
 · cases h
theorem Ri{kk:Nat}{kind:TypeDesc}(hk:uK kk kind){ph:PH}{d d':D}{u u':Value}{t:Bool}(r:RepD ph d u)(r':RepD ph d' u')(h:C8 kk d d'=some t):Instr.sameNow kind u u'=some t:=by
 unfold C8 at h;split at h
 · split at h
   · rename_i hkk;cases h;simp only[RepD]at r r';obtain⟨rfl,_⟩:=r;obtain⟨rfl,_⟩:=r';cases kind<;>first|exact hk.elim|skip
     subst hkk;simp only[Instr.sameNow,if_true];exact dP some (by rw[dO];simp)
   · cases h
 · cases h;simp only[RepD]at r r';obtain⟨rfl,_⟩:=r;obtain⟨rfl,_⟩:=r';cases kind<;>first|exact hk.elim|skip
   simp[Instr.sameNow,LM]
 · cases h;simp only[RepD]at r r';subst r;subst r';cases kind<;>first|exact hk.elim|skip
   simp[Instr.sameNow]
 · cases h
theorem IQ {kk:Nat} {kind:TypeDesc} (hk:uK kk kind) {ph:PH} {ρ:RM} {d:D} {u:Value} (r:RepD ph d u):∀{es:List (D × AV)} {ms:List MapEntry} {i:Nat} {res:Option (Nat × AV)},RepM ph ρ es ms->kN kk d es i=some res->
   ∃ res',Instr.findNow kind u ms i=some res'/\(match res,res' with
     |none,none=>True
     |some (j,v),some (j',x)=>j=j'/\i<=j/\(∃e,ms[j-i]?=some e/\e.val=x/\Instr.sameNow kind u e.key=some true)/\RepV ph ρ v x
     |_,_=>False)
 | [],ms,i,res,rm,h=>by
   simp only[RepM]at rm;subst rm;simp only[kN]at h;cases h;exact⟨none,rfl,trivial⟩
 |e::es,[],i,res,rm,h=>by simp[RepM]at rm
 | e ::es,x::ms,i,res,rm,h=>by
   simp only[RepM]at rm;simp only[kN]at h;split at h
   · rename_i hq;cases h;have:=Ri hk r rm.1.1 hq;exact⟨some (i,x.val),by simp[Instr.findNow,this],rfl,aQ _,⟨x,by simp,rfl,this⟩,rm.1.2⟩
   · rename_i hq;have:=Ri hk r rm.1.1 hq;obtain⟨res',h1,h2⟩:=IQ hk r rm.2 h;refine⟨res',by simp only[Instr.findNow,this];exact h1,?_⟩
     match res,res',h2 with
     |none,none,_=>trivial
     | some (j,v),some (j',y),⟨g1,g2,⟨e',g3,g4⟩,g5⟩=>
       refine⟨g1,by omega,⟨e',?_,g4⟩,g5⟩;rw[show j-i=(j-(i+1))+1 by omega];simpa using g3
   · cases h
theorem Ey{k:TypeId}{kind:TypeDesc}(hu:P.underlying k=some kind){u:Value}{ms:List MapEntry}{w:World}{r:Option (Nat × Value)}(h:Instr.findNow kind u ms 0=some r):iA P (Instr.findKey k u ms) w r w:=by
 unfold Instr.findKey;refine(fZ hu).bind ?_;rw[h];exact fK _
theorem Ez{k:TypeId}{kind:TypeDesc}{kk:Nat}(hk:uK kk kind)(hu:P.underlying k=some kind)(b:Bool)(u:Value)(w:World):iA P (Instr.checkKey b 10000 k u) w () w:=by
 unfold Instr.checkKey;refine(fZ hu).bind ?_
 match kk,kind,hk with
 |0,.int _,_=>cases u<;>exact fK _
 |1,.string,_=>cases u<;>exact fK _
 |2,.bool,_=>cases u<;>exact fK _
theorem zne{kind:TypeDesc}{kk:Nat}(hk:uK kk kind){u e:Value}(h:Instr.sameNow kind u e=some true)(w:World):iA P (Instr.keyThatStays e u) w u w:=by
 unfold Instr.keyThatStays;have:Instr.sameBits 10000 e u=true:=by
   match kk,kind,hk with
   | 0,.int _,_=>
     cases u<;>cases e<;>simp[Instr.sameNow]at h;simp[Instr.sameBits,h]
   | 1,.string,_=>
     cases u<;>cases e<;>simp[Instr.sameNow,LM]at h;simp[Instr.sameBits,LM,h]
   | 2,.bool,_=>
     cases u<;>cases e<;>simp[Instr.sameNow]at h;simp[Instr.sameBits,h]
 rw[aC this];exact fK _
theorem zms{o:Oper}{T:TypeId}{r:Option Operand}(ho:o.op=.makeMap T r)(hr:r.isNone=true)(hn:m n=.non):ic P o get m [] [(n,.map [])] (.c (.map n)):=by
 refine ic.of_value λm' h1 h2 ph ρ w a hr' hg=>?_;have hn':m' n=.non:=(h2 (n,.map []) (by simp)).trans hn;have hr0:r=none:=by cases r<;>simp_all
 subst hr0;obtain⟨H,S⟩:=hr'.pushO (.map #[] 0) hn' 0 (blk:=.map []) (by simp) ⟨[],0,Dr _ _,by simp[RepM],by simp,by simp⟩;refine⟨_,_,{w with heap:=w.heap.push (.map #[] 0)},.map (some w.heap.size),?_,S,H,gD w,?_⟩
 · unfold execOp;rw[ho];refine fM (a:=.map (some w.heap.size)) ?_ (fK _);show iA P (Instr.makeMap T none) w _ _;unfold Instr.makeMap;exact(gM _).bind (fK _)
 · simp only[RepV,RepC];exact⟨_,zaE _ _ _,rfl⟩
theorem znf{e:TypeId}{i:TypeInfo}{z:List D}{ag:Bool}{zv:Value}(ez:i.zero=some zv)(hc:xz z (zeroOf i)=true)(hag:(match i.zero with|some (.agg _)=>ag|some (.tuple _)=>false|some _=> !ag|none=>false)=true)(ph:PH)(ρ:RM):RepV ph ρ (rU ag z) zv:=by
 have e0:zeroOf i=zv.cells.toList:=by simp[zeroOf,ez]
 obtain⟨c1,c2⟩:=Dy hc;have c3:=c2 ph;rw[e0]at c1 c3;rw[ez]at hag;cases zv with
 | agg cs=>
   simp only at hag;subst hag;simp only[rU,RepV];exact⟨cs.toList,by simp,by simpa[Value.cells]using c1,iJ.of_D (by simpa[Value.cells]using c3)⟩
 |tuple cs=>cases hag
 | _=>
   have:ag=false:=by simpa using hag
   subst this;simp only[Value.cells,List.length_cons,List.length_nil]at c1 c3
   match z,c1 with
   |[d],_=>simp only[rU,List.headD_cons,RepV,RepC];simp only[RepL]at c3;exact c3.1.2
def LQ(ok ag:Bool)(z:List D):Option (Nat × AV)->AV
 |some (_,v)=>if ok then .tup [v,.c (.d (.bool true))]else v
 |none=>if ok then .tup [rU ag z,.c (.d (.bool false))]else rU ag z
def Rj(es:List (D × AV))(d:D)(v:AV):Option (Nat × AV)->List (D × AV)
 |some (i,_)=>es.set i (d,v)
 |none=>es++[(d,v)]
def Rk(es:List (D × AV)):Option (Nat × AV)->List (D × AV)
 |some (i,_)=>es.eraseIdx i
 |none=>es
theorem Rl {o:Oper} {T:TypeId} {kk:Nat} {ok ag:Bool} {z:List D} {x k:MX} {ox okk:Operand} {ok':Bool} (ho:o.op=.lookup T ox okk ok') (hc:iP P (.mlook kk ok ag z x k) (.lookup T ox okk ok')=true) {b:Nat} {d:D} {es:List (D × AV)}
   (ex:X get x=.c (.map b)) (ek:X get k=.c (.d d)) (em:m b=.map es) {res:Option (Nat × AV)} (hf:kN kk d es 0=some res):
   ic P o get m [b] [] (LQ ok ag z res):=by
 simp only[iP,aG,aY]at hc;obtain⟨⟨⟨⟨rfl,hx⟩,hk⟩,hT⟩,hz⟩:=hc;obtain⟨kt,et,kind,hu,huk,hkk⟩:=LP hT;unfold IG at hz;rw[hu]at hz;simp only at hz;split at hz
 · rename_i i hi;simp only[aG,aY]at hz;obtain⟨⟨⟨z1,z2⟩,z3⟩,z4⟩:=hz;obtain⟨zv,ez⟩:=bI.1 z1;refine ic.of_pure λm' h1 ph ρ w a hr hg=>?_;have r1:=jf hx (ph:=ph) (ρ:=ρ) (get:=get) (a:=a) λk hk=>hg k (by rw[ho];simp[Op.operands,hk]);have r2:=jf hk (ph:=ph) (ρ:=ρ) (get:=get) (a:=a) λk hk=>hg k (by rw[ho];simp[Op.operands,hk]);rw[ex]at r1;rw[ek]at r2;simp only[RepV,RepC]at r1 r2;obtain⟨p,hp,e1⟩:=r1;have how:=hr.own b p hp;rw[h1 b (by simp),em]at how;obtain⟨ms,clock,g1,g2,g3,g4⟩:=how;obtain⟨res',f1,f2⟩:=IQ hkk r2 g2 hf;have run:∀(v:Value) (t:Bool),(Option.elim res' (zv,false) λy=>(y.2,true))=(v,t)->iA P (execOp a.eval o) w (.value (if ok then .tuple #[v,.bool t]else v)) w:=by
     intro v t hv;unfold execOp;rw[ho];refine fM (a:=if ok then .tuple #[v,.bool t]else v) ?_ (fK _);show iA P (Instr.lookup T (a.eval ox) (a.eval okk) ok) w _ w;unfold Instr.lookup;rw[e1];refine(fZ hu).bind ?_;simp only;refine(gN g1 (by simp)).bind ?_;refine(fK ms.toArray).bind ?_;refine(Ez hkk huk _ _ _).bind ?_;refine(Ey huk (by simpa using f1)).bind ?_;cases res' with
     | none=>
       simp only[Option.elim,bV]at hv;obtain⟨rfl,rfl⟩:=hv;refine(gG hi ez).bind ?_;refine(fK (zv,false)).bind ?_;exact fK _
     | some y=>
       simp only[Option.elim,bV]at hv;obtain⟨rfl,rfl⟩:=hv;refine(fK (y.2,true)).bind ?_;exact fK _
   clear f1 hf
   match res,res',f2,run with
   | none,none,_,run=>
     refine⟨_,run zv false rfl,?_⟩;simp only[LQ];have:=znf (e:=et) ez z2 z4 ph ρ;cases ok
     · exact this
     · simp only[if_true,RepV];exact⟨[zv,.bool false],rfl,by simp[zai,RepV,RepC,RepD,this]⟩
   | some (j,v),some (j',y),⟨q1,q2,q3,q4⟩,run=>
     refine⟨_,run y true rfl,?_⟩;simp only[LQ];cases ok
     · exact q4
     · simp only[if_true,RepV];exact⟨[y,.bool true],rfl,by simp[zai,RepV,RepC,RepD,q4]⟩
 · cases hz
theorem RepM.append{ph:PH}{ρ:RM}:∀{es es':List (D × AV)} {ms ms':List MapEntry},RepM ph ρ es ms->RepM ph ρ es' ms'->RepM ph ρ (es++es') (ms++ms')
 |[],_,ms,_,h,h'=>by simp only[RepM]at h;subst h;simpa using h'
 |_::_,_,[],_,h,_=>by simp[RepM]at h
 | e::es,_,x::ms,_,h,h'=>by
   simp only[RepM]at h;simp only[List.cons_append,RepM];exact⟨h.1,RepM.append h.2 h'⟩
theorem RepM.set{ph:PH}{ρ:RM}{e:D × AV}{x:MapEntry}(hx:RepD ph e.1 x.key/\RepV ph ρ e.2 x.val):∀{es:List (D × AV)} {ms:List MapEntry} (i:Nat),RepM ph ρ es ms->RepM ph ρ (es.set i e) (ms.set i x)
 |[],ms,i,h=>by simp only[RepM]at h;subst h;simp[RepM]
 |_::_,[],_,h=>by simp[RepM]at h
 | f::es,y::ms,0,h=>by
   simp only[RepM]at h;simp only[List.set_cons_zero,RepM];exact⟨hx,h.2⟩
 | f::es,y::ms,i+1,h=>by
   simp only[RepM]at h;simp only[List.set_cons_succ,RepM];exact⟨h.1,RepM.set hx i h.2⟩
theorem RepM.erase{ph:PH}{ρ:RM}:∀{es:List (D × AV)} {ms:List MapEntry} (i:Nat),RepM ph ρ es ms->RepM ph ρ (es.eraseIdx i) (ms.eraseIdx i)
 |[],ms,i,h=>by simp only[RepM]at h;subst h;simp[RepM]
 |_::_,[],_,h=>by simp[RepM]at h
 | f::es,y::ms,0,h=>by
   simp only[RepM]at h;simpa using h.2
 | f::es,y::ms,i+1,h=>by
   simp only[RepM]at h;simp only[List.eraseIdx_cons_succ,RepM];exact⟨h.1,RepM.erase i h.2⟩
theorem RepM.length{ph:PH}{ρ:RM}:∀{es:List (D × AV)} {ms:List MapEntry},RepM ph ρ es ms->es.length=ms.length
 |[],ms,h=>by simp only[RepM]at h;subst h;rfl
 |_::_,[],h=>by simp[RepM]at h
 |e::es,x::ms,h=>by simp only[RepM]at h;simp[RepM.length h.2]
theorem IR{b:Nat}{es es':List (D × AV)}{m':Hp}{ph:PH}{ρ:RM}{w:World}{p:Nat × Nat}{ms ms':List MapEntry}{clock clock':Nat}(hr:HRel ph ρ m' w.heap)(hp:ρ b=some p)(em:m' b=.map es)(g1:w.heap[p.1]?=some (.map ms.toArray clock))
   (g2:RepM ph ρ es' ms') (g3:∀e,e∈ms'->e.born<clock') (g4:(ms'.map (·.born)).Nodup):
   HRel ph ρ (upd m' b (.map es')) (w.heap.setIfInBounds p.1 (.map ms'.toArray clock'))/\Step ph ρ m' w.heap ph ρ (upd m' b (.map es')) (w.heap.setIfInBounds p.1 (.map ms'.toArray clock')):=by
 have hreal:Real (m' b) p:=by rw[em];trivial
 exact hr.set _ hp hreal (by simp) ⟨ms',clock',Hz _ _ (hr.real_lt hp hreal),g2,g3,g4⟩
theorem IU {o:Oper} {T:TypeId} {kk:Nat} {x k v:MX} {ox okk ov:Operand} (ho:o.op=.mapUpdate T ox okk ov\/o.op=.insert T ox okk ov) (hx:iI x ox=true) (hk:iI k okk=true) (hv:iI v ov=true) (hT:BS P T kk=true) {b:Nat} {d:D} {es:List (D × AV)}
   (ex:X get x=.c (.map b)) (ek:X get k=.c (.d d)) (em:m b=.map es) {res:Option (Nat × AV)} (hf:kN kk d es 0=some res):
   ic P o get m [] [(b,.map (Rj es d (X get v) res))] (.c (.d .any)):=by
 obtain⟨kt,et,kind,hu,huk,hkk⟩:=LP hT;refine ic.of_skip λm' h1 h2 ph ρ w a hr hg=>?_;have ops:∀k,(ox=.tmp k\/okk=.tmp k\/ov=.tmp k)->Operand.tmp k∈o.op.operands:=by
   intro k hk;rcases ho with ho|ho<;>rw[ho]<;>rcases hk with hk|hk|hk<;>simp[Op.operands,hk]
 have r1:=jf hx (ph:=ph) (ρ:=ρ) (get:=get) (a:=a) λk hk=>hg k (ops k (.inl hk));have r2:=jf hk (ph:=ph) (ρ:=ρ) (get:=get) (a:=a) λk hk=>hg k (ops k (.inr (.inl hk)));have r3:=jf hv (ph:=ph) (ρ:=ρ) (get:=get) (a:=a) λk hk=>hg k (ops k (.inr (.inr hk)));rw[ex]at r1;rw[ek]at r2;simp only[RepV,RepC]at r1 r2;obtain⟨p,hp,e1⟩:=r1;have em':m' b=.map es:=(h2 (b,.map (Rj es d (X get v) res)) (aK.2 rfl)).trans em;have how:=hr.own b p hp;rw[em']at how;obtain⟨ms,clock,g1,g2,g3,g4⟩:=how;obtain⟨res',f1,f2⟩:=IQ hkk r2 g2 hf;have run:∀w',iA P (Instr.mapUpdate T (a.eval ox) (a.eval okk) (a.eval ov)) w () w'->iA P (execOp a.eval o) w .skip w':=by
   intro w' h;rcases ho with ho|ho<;>(unfold execOp;rw[ho];exact h.bind (fK _))
 match res,res',f2,f1 with
 | none, none,_,f1=>
   obtain⟨H,S⟩:=IR (es':=es++[(d,X get v)]) (ms':=ms++[{key:=a.eval okk,val:=a.eval ov,born:=clock}]) (clock':=clock+1) hr hp em' g1 (g2.append (by simp only[RepM];exact⟨⟨r2,r3⟩,trivial⟩))
     (by intro e he;rw[aM]at he;rcases he with he|he
         · have:=g3 e he;omega
         · simp at he;subst he;simp)
     (by rw[List.map_append,bX]
         refine⟨g4,by simp,?_⟩;intro q hq q' hq' hqq;simp at hq';obtain⟨e,he,rfl⟩:=aa.1 hq;have:=g3 e he
         omega)
   refine⟨_,_,{w with heap:=w.heap.setIfInBounds p.1 (.map (ms++[({key:=a.eval okk,val:=a.eval ov,born:=clock}:MapEntry)]).toArray (clock+1))},run _ ?_,S,H,gD w⟩;unfold Instr.mapUpdate;rw[e1];refine(fZ hu).bind ?_;simp only;refine(gN g1 (by simp)).bind ?_;refine(Ez hkk huk _ _ _).bind ?_;refine(Ey huk (by simpa using f1)).bind ?_;simp only;have:=iA.setObj (P:=P) (w:=w) (o':=.map (ms.toArray.push {key:=a.eval okk,val:=a.eval ov,born:=clock}) (clock+1)) g1 (by simp);simpa using this
 | some (j,y),some (j',z),⟨q1,q2,⟨e,q3,q4,q5⟩,q6⟩,f1=>
   subst q1;simp only[eP]at q3;have hjl:j<ms.length:=by
     rcases aW j ms.length with h|h
     · exact h
     · rw[aS h]at q3;cases q3
   have hget:ms[j]'hjl=e:=by rw[aA hjl]at q3;simpa using q3
   have hmem:e∈ms:=by rw[<-hget];exact aP hjl
   have hborn:(ms.set j {key:=a.eval okk,val:=a.eval ov,born:=e.born}).map (·.born)=ms.map (·.born):=by
     rw[List.map_set];simp only;apply cu;intro q;rw[List.getElem?_set];split
     · rename_i hq;subst hq;split
       · simp[aA hjl,hget]
       · rw[aS (by omega)]
     · rfl
   obtain⟨H,S⟩:=IR (es':=es.set j (d,X get v)) (ms':=ms.set j {key:=a.eval okk,val:=a.eval ov,born:=e.born}) (clock':=clock) hr hp em' g1 (RepM.set ⟨r2,r3⟩ j g2)
     (by intro e' he;rcases List.mem_or_eq_of_mem_set he with he|he
         · exact g3 e' he
         · subst he;exact g3 e hmem)
     (by rw[hborn];exact g4)
   refine⟨_,_,{w with heap:=w.heap.setIfInBounds p.1 (.map (ms.set j {key:=a.eval okk,val:=a.eval ov,born:=e.born}).toArray clock)},run _ ?_,S,H,gD w⟩;unfold Instr.mapUpdate;rw[e1];refine(fZ hu).bind ?_;simp only;refine(gN g1 (by simp)).bind ?_;refine(Ez hkk huk _ _ _).bind ?_;refine(Ey huk (by simpa using f1)).bind ?_;simp only;have hk2:(((ms.toArray[j]?).map (·.key)).getD (a.eval okk))=e.key:=by simp[q3]
   rw[hk2];refine(zne hkk q5 _).bind ?_;have:=iA.setObj (P:=P) (w:=w) (o':=.map (ms.toArray.modify j λe=>{e with key:=a.eval okk,val:=a.eval ov}) clock) g1 (by simp);have e2:(ms.toArray.modify j λe=>{e with key:=a.eval okk,val:=a.eval ov})=(ms.set j {key:=a.eval okk,val:=a.eval ov,born:=e.born}).toArray:=by
     apply dD;simp only[Array.toList_modify];apply cu;intro q;rw[List.getElem?_modify,List.getElem?_set];by_cases hq:j=q
     · subst hq;have:ms[j].born=e.born:=by rw[hget]
       simp[q3,hjl,this]
     · simp[hq]
   rw[e2];rw[e2]at this;exact this
theorem Rm {o:Oper} {c:Call} {kk:Nat} {x k:MX} (ho:o.op=.call c) (hc:iP P (.mdel kk x k) (.call c)=true) {b:Nat} {d:D} {es:List (D × AV)}
   (ex:X get x=.c (.map b)) (ek:X get k=.c (.d d)) (em:m b=.map es) {res:Option (Nat × AV)} (hf:kN kk d es 0=some res):
   ic P o get m [] [(b,.map (Rk es res))] (.tup []):=by
 simp only[iP]at hc;obtain⟨ox,okk,T,tl,hb,ha,hta,⟨hx,hk⟩,hT⟩:=zlq hc
 · obtain⟨kt,et,kind,hu,huk,hkk⟩:=LP hT;have hargs:c.args=#[ox,okk]:=by rw[<-au (xs:=c.args),ha]
   have hty0:c.argTypes[0]?=some T:=by rw[<-eQ,hta];rfl
   refine ic.of_value λm' h1 h2 ph ρ w a hr hg=>?_;have ops:∀k,(ox=.tmp k\/okk=.tmp k)->Operand.tmp k∈o.op.operands:=by
     intro k hk;rw[ho];simp only[Op.operands,Call.operands,hb,hargs];rcases hk with hk|hk<;>simp[hk]
   have r1:=jf hx (ph:=ph) (ρ:=ρ) (get:=get) (a:=a) λk hk=>hg k (ops k (.inl hk));have r2:=jf hk (ph:=ph) (ρ:=ρ) (get:=get) (a:=a) λk hk=>hg k (ops k (.inr hk));rw[ex]at r1;rw[ek]at r2;simp only[RepV,RepC]at r1 r2;obtain⟨p,hp,e1⟩:=r1;have em':m' b=.map es:=(h2 (b,.map (Rk es res)) (aK.2 rfl)).trans em;have how:=hr.own b p hp;rw[em']at how;obtain⟨ms,clock,g1,g2,g3,g4⟩:=how;obtain⟨res',f1,f2⟩:=IQ hkk r2 g2 hf;have run:∀w',iA P (Builtin.delete_ c.argTypes o.type #[a.eval ox,a.eval okk]) w (.tuple #[]) w'->iA P (execOp a.eval o) w (.value (.tuple #[])) w':=by
     intro w' h;unfold execOp;rw[ho];show iA P (do let d<-resolve a.eval c o.type;invoke d.target d.args) w _ w';unfold resolve;rw[hb,hargs];refine(fK _).bind ?_;simp only[invoke,List.map_toArray,List.map_cons,List.map_nil];exact h.bind (fK _)
   match res,res',f2,f1 with
   | none,none,_,f1=>
     obtain⟨H,S⟩:=IR (es':=es) (ms':=ms) (clock':=clock) hr hp em' g1 g2 g3 g4;refine⟨_,_,{w with heap:=w.heap.setIfInBounds p.1 (.map ms.toArray clock)},_,run _ ?_,S,H,gD w,by simp only[RepV];exact⟨[],rfl,by simp[zai]⟩⟩;unfold Builtin.delete_;rw[hty0,e1];simp only[eT,List.getElem?_cons_zero,List.getElem?_cons_succ];refine(fZ hu).bind ?_;simp only;refine(gN g1 (by simp)).bind ?_;refine(Ez hkk huk _ _ _).bind ?_;refine(Ey huk (by simpa using f1)).bind ?_;simp only;exact(iA.setObj (P:=P) (w:=w) (o':=.map ms.toArray clock) g1 (by simp)).bind (fK _)
   | some (j,y),some (j',z),⟨q1,q2,⟨e,q3,q4,q5⟩,q6⟩,f1=>
     subst q1
     obtain⟨H,S⟩:=IR (es':=es.eraseIdx j) (ms':=ms.eraseIdx j) (clock':=clock) hr hp em' g1 (g2.erase j) (λe he=>g3 e (List.mem_of_mem_eraseIdx he))
       (g4.sublist ((List.eraseIdx_sublist ms j).map _))
     refine⟨_,_,{w with heap:=w.heap.setIfInBounds p.1 (.map (ms.eraseIdx j).toArray clock)},_,run _ ?_,S,H,gD w,by simp only[RepV];exact⟨[],rfl,by simp[zai]⟩⟩;unfold Builtin.delete_;rw[hty0,e1];simp only[eT,List.getElem?_cons_zero,List.getElem?_cons_succ];refine(fZ hu).bind ?_;simp only;refine(gN g1 (by simp)).bind ?_;refine(Ez hkk huk _ _ _).bind ?_;refine(Ey huk (by simpa using f1)).bind ?_;simp only;have:=iA.setObj (P:=P) (w:=w) (o':=.map (ms.toArray.eraseIdxIfInBounds j) clock) g1 (by simp);have e2:ms.toArray.eraseIdxIfInBounds j=(ms.eraseIdx j).toArray:=by simp
     rw[e2]at this⊢;exact this.bind (fK _)
theorem zng{o:Oper}{c:Call}{x:MX}(ho:o.op=.call c)(hc:iP P (.mlen x) (.call c)=true){b:Nat}{es:List (D × AV)}
   (ex:X get x=.c (.map b)) (em:m b=.map es) (hl:es.length<=zah):ic P o get m [b] [] (.c (.d (.int .i64 es.length))):=by
 simp only[iP]at hc;obtain⟨ox,T,kt,et,hb,ha,hta,hx,hu⟩:=zkK hc
 · have hargs:c.args=#[ox]:=by rw[<-au (xs:=c.args),ha]
   have htys:c.argTypes=#[T]:=by rw[<-au (xs:=c.argTypes),hta]
   have hop:∀k,ox=.tmp k->Operand.tmp k∈o.op.operands:=by
     intro k hk;rw[ho];simp[Op.operands,Call.operands,hb,hargs,hk]
   · refine ic.of_pure λm' h1 ph ρ w a hr hg=>?_;have r1:=jf hx (ph:=ph) (ρ:=ρ) (get:=get) (a:=a) λk hk=>hg k (hop k hk);rw[ex]at r1;simp only[RepV,RepC]at r1;obtain⟨p,hp,e1⟩:=r1;have how:=hr.own b p hp;rw[h1 b (by simp),em]at how;obtain⟨ms,clock,g1,g2,g3,g4⟩:=how;refine IM ho hb hargs htys hl ?_;rw[e1];unfold Builtin.len_;refine(fZ hu).bind ?_;refine(gN g1 (by simp)).bind ?_;rw[g2.length];have:ms.toArray.size=ms.length:=by simp
     rw[<-this];exact fK _
theorem RepL.total{ph:PH}{z:List D}{vs:List Value}(r:RepL ph z vs)(e:vs.length=z.length):∀k,RepE ph z.length (List.replicate k z) (List.replicate k vs).flatten
 |0=>by simp[RepE]
 | k +1=>by
   rw[List.replicate_succ,List.replicate_succ,List.flatten_cons];simp only[RepE];refine⟨trivial,?_,?_⟩
   · have:=RepL.mono (fu ph) z vs (List.replicate k vs).flatten r;exact this
   · rw[<-e,List.drop_left];exact RepL.total r e k|>λh=>by rw[e];exact h
theorem zmv{zs:List Value}(h:zs≠[])(k:Nat):(Array.range (k*zs.length)).map (λi=>zs.toArray[i%zs.toArray.size]!)=(List.replicate k zs).flatten.toArray:=by
 have h0:0<zs.length:=by cases zs<;>simp_all
 apply dD;simp only[Array.toList_map,Array.toList_range]
 induction k with
 |zero=>simp
 | succ k ih=>
   rw[List.replicate_succ',List.flatten_append,<-ih,bC,bu,List.range_add,List.map_append];congr 1;simp only[bv,List.flatten_cons,List.flatten_nil,bN];apply cu;intro j;simp only[List.getElem?_map];by_cases hj:j<zs.length
   · rw[List.getElem?_range hj];simp only[Option.map_some,Function.comp];rw[List.size_toArray,Nat.mul_comm,Nat.mul_add_mod,Nat.mod_eq_of_lt hj];simp[aA hj,hj]
   · rw[aS (by simpa using hj),aS (by omega)];rfl
theorem Rn {T:TypeId} {z:List D} {bytes:Nat} (hc:II P T z bytes=true) {j l:Int} (h0:0<=j) (hjl:j<=l) (hl:l*bytes<=70368744177664) (w:World):
   ∃ (zs:List Value) (et:TypeId),zs.length=z.length/\(∀ph,RepL ph z zs)/\0<z.length/\0<bytes/\l.toNat<=zah/\
     iA P (Instr.makeSlice T (.int .i64 j) (.int .i64 l)) w (.slice (some ⟨w.heap.size,0,none⟩) j.toNat l.toNat) {w with heap:=w.heap.push (.cells (List.replicate l.toNat zs).flatten.toArray et)}:=by
 unfold II at hc;split at hc
 · rename_i i hi;simp only[aG,aY,aI]at hc;obtain⟨⟨⟨⟨⟨c1,c2⟩,c3⟩,c4⟩,c5⟩,c6⟩:=hc;unfold yT at hi;split at hi
   · rename_i e hu;obtain⟨zv,ez⟩:=bI.1 c5;have e0:zeroOf i=zv.cells.toList:=by simp[zeroOf,ez]
     obtain⟨d1,d2⟩:=Dy c6;rw[e0]at d1 d2;have hb1:l*1<=l*(bytes:Int):=Int.mul_le_mul_of_nonneg_left (by omega) (by omega);have hbw:∀q:Int,0<=q->q<=l->(bytes:Int)*q<=70368744177664:=λq hq hql=>by
       have:(bytes:Int)*q<=bytes*l:=Int.mul_le_mul_of_nonneg_left hql (by omega);rw[Int.mul_comm (bytes:Int) l]at this;omega
     have hwrap:∀q:Int,0<=q->q<=l->IntKind.i64.wrap q=q:=λq hq hql=>by
       have:q<=70368744177664:=by omega
       have h1:q%18446744073709551616=q:=Int.emod_eq_of_lt hq (by omega);have h2:¬(9223372036854775808<=q):=by omega
       simp[IntKind.wrap,IntKind.bits,IntKind.signed,h1,h2]
     refine⟨zv.cells.toList,e,by simpa using d1,λph=>by simpa using d2 ph,c4,c3,by unfold zah;omega,?_⟩;unfold Instr.makeSlice;refine(fZ hu).bind ?_;simp only;refine fM (a:=j) (fM (a:=(.i64,j)) (fK _) (fK _)) ?_;refine fM (a:=l) (fM (a:=(.i64,l)) (fK _) (fK _)) ?_;refine(gI hi).bind ?_;rw[hwrap j h0 hjl,hwrap l (by omega) (Int.le_refl _),c2];have hl2:=hbw l (by omega) (Int.le_refl _);rw[aB (by
       simp only[dG,aI,dU,Int.not_lt];refine⟨⟨⟨by omega,?_⟩,by omega⟩,by omega⟩;have:(2:Int)^48=281474976710656:=by decide
       omega)]
     refine(iA.askRoom _).bind ?_;refine(gF hi).bind ?_;rw[c1];have hz1:zv.cells.toList≠[]:=by
       intro h;rw[h]at d1;simp at d1;omega
     have hsz:zv.cells.toList.length=z.length:=by simpa using d1
     by_cases hl0:l.toNat*z.length=0
     · rw[aC hl0];refine(fK _).bind ?_;unfold newRow;have hl1:l.toNat=0:=by
         rcases Nat.mul_eq_zero.1 hl0 with h|h
         · exact h
         · omega
       rw[hl1];simp only[bR,List.replicate_zero,List.flatten_nil];rw[show Array.range 0=#[]from rfl,Array.map_empty];exact((gM _).bind (fK (⟨w.heap.size,0,none⟩:Addr))).bind (fK _)
     · rw[aB hl0];refine(gG hi ez).bind ?_;refine(fK zv.cells).bind ?_;have:=zmv hz1 l.toNat;rw[hsz,au]at this;rw[this];unfold newRow;exact((gM _).bind (fK _)).bind (fK _)
   · cases hi
 · cases hc
theorem zki{zs:List Value}(k:Nat):(List.replicate k zs).flatten.length=k*zs.length:=by
 induction k with
 |zero=>simp
 |succ k ih=>rw[List.replicate_succ,List.flatten_cons,aX,ih,bC,bu,dH]
theorem znh{o:Oper}{T:TypeId}{z:List D}{bytes:Nat}{x:MX}{ol oc:Operand}(ho:o.op=.makeSlice T ol oc)(hc:iP P (.mksl z bytes x) (.makeSlice T ol oc)=true){j:Int}(ex:X get x=.c (.d (.int .i64 j)))(h0:0<=j)(hb:j*bytes<=70368744177664):
   ic P o get m [] [] (.c (.d (.sl true z.length (List.replicate j.toNat z)))):=by
 simp only[iP,aG]at hc;obtain⟨⟨hx,hx'⟩,hmk⟩:=hc;refine ic.of_value λm' h1 h2 ph ρ w a hr hg=>?_;have r1:=jf hx (ph:=ph) (ρ:=ρ) (get:=get) (a:=a) λk hk=>hg k (by rw[ho];simp[Op.operands,hk]);have r2:=jf hx' (ph:=ph) (ρ:=ρ) (get:=get) (a:=a) λk hk=>hg k (by rw[ho];simp[Op.operands,hk]);rw[ex]at r1 r2;simp only[RepV,RepC,RepD]at r1 r2;obtain⟨zs,et,g1,g2,g3,g4,g5,run⟩:=Rn hmk h0 (Int.le_refl j) hb w;obtain⟨H,S⟩:=hr.pushP (.cells (List.replicate j.toNat zs).flatten.toArray et);refine⟨_,ρ,{w with heap:=w.heap.push (.cells (List.replicate j.toNat zs).flatten.toArray et)},.slice (some ⟨w.heap.size,0,none⟩) j.toNat j.toNat,?_,S,H,gD w,?_⟩
 · unfold execOp;rw[ho];refine fM (a:=.slice (some ⟨w.heap.size,0,none⟩) j.toNat j.toNat) ?_ (fK _);show iA P (Instr.makeSlice T (a.eval ol) (a.eval oc)) w _ _;rw[r1.1,r2.1];exact run
 · simp only[RepV,RepC];unfold RepD;refine⟨some ⟨w.heap.size,0,none⟩,j.toNat,by simp,by simp,λ_=>(by simp),(by simpa using g5),λh=>(by cases h),λp hp _=>(by cases hp;rfl),?_⟩;have e4:cellsAt (upd ph w.heap.size (some (.cells (List.replicate j.toNat zs).flatten.toArray et))) (some ⟨w.heap.size,0,none⟩)=(List.replicate j.toNat zs).flatten:=by simp[cellsAt,hcells,zaE]
   rw[e4];exact RepL.total (g2 _) g1 _
theorem zmw{o:Oper}{T:TypeId}{z:List D}{bytes:Nat}{x y:MX}{ol oc:Operand}(ho:o.op=.makeSlice T ol oc)(hc:iP P (.mkslM z bytes x y) (.makeSlice T ol oc)=true){j l:Int}(ex:X get x=.c (.d (.int .i64 j)))(ey:X get y=.c (.d (.int .i64 l)))
   (h0:0<=j) (hjl:j<=l) (hb:l*bytes<=70368744177664) (hn:m n=.non):
   ic P o get m [] [(n,.arr z.length ((List.replicate j.toNat z).map (·.map .d)))] (.c (.msl z.length n 0 j.toNat)):=by
 simp only[iP,aG]at hc;obtain⟨⟨hx,hx'⟩,hmk⟩:=hc;refine ic.of_value λm' h1 h2 ph ρ w a hr hg=>?_;have r1:=jf hx (ph:=ph) (ρ:=ρ) (get:=get) (a:=a) λk hk=>hg k (by rw[ho];simp[Op.operands,hk]);have r2:=jf hx' (ph:=ph) (ρ:=ρ) (get:=get) (a:=a) λk hk=>hg k (by rw[ho];simp[Op.operands,hk]);rw[ex]at r1;rw[ey]at r2;simp only[RepV,RepC,RepD]at r1 r2;obtain⟨zs,et,g1,g2,g3,g4,g5,run⟩:=Rn hmk h0 hjl hb w;have hn':m' n=.non:=(h2 (n,_) (aK.2 rfl)).trans hn;have e0:=(hr.dom n).1 hn'
 obtain⟨H,S⟩:=hr.pushO (.cells (List.replicate l.toNat zs).flatten.toArray et) hn' l.toNat (blk:=.arr z.length ((List.replicate j.toNat z).map (·.map .d))) (by simp)
   (.inr ⟨(List.replicate l.toNat zs).flatten,et,Dr _ _,by rw[zki,g1],by simp;omega,by simp;unfold zah at*;omega,by
     refine iR.of_E ?_;have:=(RepL.total (g2 ph) g1 l.toNat).take j.toNat;rw[List.take_replicate]at this
     rwa[Nat.min_eq_left (by omega)]at this⟩)
 refine⟨_,_,{w with heap:=w.heap.push (.cells (List.replicate l.toNat zs).flatten.toArray et)},.slice (some ⟨w.heap.size,0,none⟩) j.toNat l.toNat,?_,S,H,gD w,?_⟩
 · unfold execOp;rw[ho];refine fM (a:=.slice (some ⟨w.heap.size,0,none⟩) j.toNat l.toNat) ?_ (fK _);show iA P (Instr.makeSlice T (a.eval ol) (a.eval oc)) w _ _;rw[r1.1,r2.1];exact run
 · simp only[RepV,RepC];exact⟨_,some ⟨w.heap.size,0,none⟩,zaE _ _ _,by simp,by simp;omega,λ_=>by simp,λq hq _=>by cases hq;rfl⟩
theorem zol{kk:Nat}{kind:TypeDesc}(hk:uK kk kind){ph:PH}{a b:D}{u v:Value}{t:Bool}(ra:RepD ph a u)(rb:RepD ph b v)(h:C8 kk a b=some t){T:TypeId}(hu:P.underlying T=some kind)
   (k:Nat) (w:World):(Op.equalIn (k+1) T u v).run P w=.ok t w:=by
 unfold C8 at h;split at h
 · split at h
   · rename_i hkk;cases h;subst hkk;simp only[RepD]at ra rb;obtain⟨rfl,_⟩:=ra;obtain⟨rfl,_⟩:=rb;cases kind<;>first|exact hk.elim|skip
     rw[run_equalIn_int w k T _ _ _ _ hu];congr 1
   · cases h
 · cases h;simp only[RepD]at ra rb;obtain⟨rfl,_⟩:=ra;obtain⟨rfl,_⟩:=rb;cases kind<;>first|exact hk.elim|skip
   rw[run_equalIn_string w k T _ _ hu,toList_inj]
 · cases h;simp only[RepD]at ra rb;subst ra;subst rb;cases kind<;>first|exact hk.elim|skip
   exact run_equalIn_bool' w k T _ _ hu
 · cases h
theorem Ro{T:TypeId}{kk:Nat}{kind:TypeDesc}(hk:uK kk kind)(hu:P.underlying T=some kind){us:List Value}{i:Nat}{u:Value}(h:us[i]?=some u)(w:World):(part T us.toArray i).run P w=.ok u w:=by
 have ha:AB kind=false:=by
   match kk,kind,hk with
   |0,.int _,_=>rfl
   |1,.string,_=>rfl
   |2,.bool,_=>rfl
 have:iA P (part T us.toArray i) w u w:=by
   unfold part;refine(iA.isAgg hu).bind ?_;rw[ha];simp only[ai,if_false];rw[show us.toArray[i]?=some u from by simpa using h];exact fK _
 exact this
theorem Rp {ph:PH} {us vs:List Value} {w:World} {dep:Nat}:∀{ks:List Nat} {fs:List Field} {i:Nat} {a b:List D} {t:Bool},Cc P ks i fs=true->RepL ph a (us.drop i)->RepL ph b (vs.drop i)->zJ ks a b=some t->
   (Op.eqFields (dep+1) us.toArray vs.toArray fs).run P w=.ok t w
 | [],[],i,a,b,t,_,ra,rb,h=>by
   match a,b,h with
   |[],[],h=>simp only[zJ,af]at h;subst h;rfl
 |[],_::_,_,_,_,_,hf,_,_,_=>by simp[Cc]at hf
 |_::_,[],_,_,_,_,hf,_,_,_=>by simp[Cc]at hf
 |k::ks,f::fs,i,[],b,t,_,ra,rb,h=>by simp[zJ]at h
 |k::ks,f::fs,i,_::_,[],t,_,ra,rb,h=>by simp[zJ]at h
 | k ::ks,f::fs,i,x::a,y::b,t,hf,ra,rb,h=>by
   simp only[Cc,aG,aY,bne_iff_ne]at hf;obtain⟨⟨⟨h1,h2⟩,h3⟩,h4⟩:=hf;have hk:∃kind,P.underlying f.type=some kind/\uK k kind:=by
     split at h3<;>first|(cases h3;done)|skip
     all_goals
       rename_i hu;simp only[aY]at h3;subst h3;exact⟨_,hu,trivial⟩
   obtain⟨kind,hu,hk⟩:=hk;obtain⟨u,e1,_,e3⟩:=ra.get (j:=0) rfl;obtain⟨v,f1,_,f3⟩:=rb.get (j:=0) rfl;rw[ay,Nat.add_zero]at e1 f1;have ra':=ra.drop 1;have rb':=rb.drop 1;rw[bO]at ra' rb';simp only[List.drop_succ_cons,List.drop_zero]at ra' rb';simp only[zJ]at h;split at h
   · rename_i p q hp hq;cases h;have ih:=Rp (w:=w) (dep:=dep) h4 ra' rb' hq;simp only[Op.eqFields,h2,ne_eq,not_false_eq_true,if_true,h1,Sem.run_bind,Ro hk hu e1,Ro hk hu f1,zol hk e3 f3 hp hu,Result.andThen_ok];cases p
     · simp
     · simp[ih]
   · cases h
theorem zni{o:Oper}{op:BinOp}{T U:TypeId}{ne:Bool}{ks:List Nat}{x y:MX}{ox oy:Operand}(ho:o.op=.binOp op T ox oy U)(hc:iP P (.eqAg ne ks x y) (.binOp op T ox oy U)=true){a b:List D}{t:Bool}
   {cs cs':List AC} (hcs:X get x=.ag cs) (hcs':X get y=.ag cs') (ex:jc cs=some a) (ey:jc cs'=some b) (h:zJ ks a b=some t):ic P o get m [] [] (.c (.d (.bool (t^^ne)))):=by
 simp only[iP,aG,bD,aI]at hc;obtain⟨⟨⟨⟨⟨hop,hx⟩,hy⟩,hst⟩,hgd⟩,hfl⟩:=hc;obtain⟨fs,hu,hfs⟩:=zlp hfl;refine ic.of_pure λm' h1 ph ρ w ac hr hg=>?_;have r1:=jf hx (ph:=ph) (ρ:=ρ) (get:=get) (a:=ac) λk hk=>hg k (by rw[ho];simp[Op.operands,hk]);have r2:=jf hy (ph:=ph) (ρ:=ρ) (get:=get) (a:=ac) λk hk=>hg k (by rw[ho];simp[Op.operands,hk]);obtain⟨us,c1,c2,c3⟩:=Kr r1 (ds:=a) (by rw[hcs];exact ex);obtain⟨vs,d1,d2,d3⟩:=Kr r2 (ds:=b) (by rw[hcs'];exact ey);rw[hcs]at r1;rw[hcs']at r2;simp only[RepV]at r1 r2;obtain⟨us',e1,_,_⟩:=r1;obtain⟨vs',f1,_,_⟩:=r2;rw[e1]at c1;rw[f1]at d1;simp only[Value.cells]at c1 d1;have eu:us'=us:=by simpa using c1
 have ev:vs'=vs:=by simpa using d1
 subst eu;subst ev;have hfo:P.fieldsOf T=fs:=by unfold Program.fieldsOf;rw[hu]
 have hrun:(Op.equalIn 10000 T (.agg us'.toArray) (.agg vs'.toArray)).run P w=.ok t w:=by
   rw[run_equalIn_struct w 9999 T _ _ (by rw[hfo];exact hu) hst,hfo];exact Rp (dep:=9998) hfs (by simpa using c3) (by simpa using d3) h
 refine⟨.bool (t^^ne),?_,by simp[RepV,RepC,RepD]⟩;unfold execOp;rw[ho];refine fM (a:=.bool (t^^ne)) ?_ (fK _);show iA P (do eqGuard op T ox oy (ac.eval ox) (ac.eval oy);binOp op T (ac.eval ox) (ac.eval oy)) w _ w;rw[e1,f1];refine fM (a:=()) (w':=w) (run_eqGuard_agg w op T ox oy _ _ hgd) ?_;show(binOp op T _ _).run P w=_;cases ne
 · simp only[ai,if_false]at hop;subst hop;rw[run_eql_struct,hrun];simp
 · simp only[if_true]at hop;subst hop;rw[run_neq_struct,hrun];simp
theorem zmx{T E:TypeId}(hu:P.underlying T=some (.slice E))(w:World)(a:Option Addr)(l c:Nat):(Op.equal T (.slice a l c) (.slice none 0 0)).run P w=.ok a.isNone w:=by
 have:iA P (Op.equal T (.slice a l c) (.slice none 0 0)) w a.isNone w:=by
   show iA P (Op.equalIn (9999+1) T (.slice a l c) (.slice none 0 0)) w a.isNone w;unfold Op.equalIn;refine(fZ hu).bind ?_;cases a<;>exact fK _
 exact this
theorem Rq {o:Oper} {op:BinOp} {T U:TypeId} {ne:Bool} {x:MX} {ox oy:Operand} (ho:o.op=.binOp op T ox oy U) (hc:iP P (.isNil ne x) (.binOp op T ox oy U)=true) {full:Bool} {s:Nat} {es:List (List D)}
   (ex:X get x=.c (.d (.sl full s es))) {v:AV} (hv:(v=.c (.op Dw))\/(es≠[]/\v=.c (.d (.bool ne)))):ic P o get m [] [] v:=by
 simp only[iP,aG,aI]at hc;obtain⟨⟨⟨hop,hx⟩,hy⟩,ht⟩:=hc;split at hy
 · split at ht
   · rename_i E hu;refine ic.of_pure λm' h1 ph ρ w ac hr hg=>?_;have r1:=jf hx (ph:=ph) (ρ:=ρ) (get:=get) (a:=ac) λk hk=>hg k (by rw[ho];simp[Op.operands,hk]);rw[ex]at r1;simp only[RepV,RepC,RepD]at r1;obtain⟨a,cap,e1,e2,e3,e4,e5,e6,e7⟩:=r1;refine⟨.bool (a.isNone^^ne),?_,?_⟩
     · unfold execOp;rw[ho];refine fM (a:=.bool (a.isNone^^ne)) ?_ (fK _);show iA P (do eqGuard op T ox (.const (.slice none 0 0)) (ac.eval ox) (.slice none 0 0);binOp op T (ac.eval ox) (.slice none 0 0)) w _ w;rw[e1];refine fM (a:=()) (w':=w) ?_ ?_
       · unfold eqGuard;split<;>exact fK _
       · show(binOp op T _ _).run P w=_;have hrun:=zmx hu w a es.length cap;cases ne
         · simp only[ai,if_false]at hop;subst hop;show(do pure (Value.bool (<-Op.equal T (.slice a es.length cap) (.slice none 0 0))):Sem Value).run P w=_;rw[Sem.run_bind,hrun];simp
         · simp only[if_true]at hop;subst hop;show(do pure (Value.bool (!(<-Op.equal T (.slice a es.length cap) (.slice none 0 0)))):Sem Value).run P w=_;rw[Sem.run_bind,hrun];simp
     · rcases hv with rfl|⟨hne,rfl⟩
       · simp only[RepV,RepC];exact⟨_,rfl⟩
       · simp only[RepV,RepC,RepD];cases a with
         |none=>exact(hne (e5 rfl).1).elim
         |some q=>simp
   · cases ht
 · cases hy
theorem zlm{T E:TypeId}(hu:P.underlying T=some (.pointer E))(w:World)(a:Option Addr):(Op.equal T (.pointer a) (.pointer none)).run P w=.ok a.isNone w:=by
 have:iA P (Op.equal T (.pointer a) (.pointer none)) w a.isNone w:=by
   show iA P (Op.equalIn (9999+1) T (.pointer a) (.pointer none)) w a.isNone w;unfold Op.equalIn;refine(fZ hu).bind ?_;cases a<;>exact fK _
 exact this
theorem Rs {o:Oper} {op:BinOp} {T U:TypeId} {ne:Bool} {x:MX} {ox oy:Operand} (ho:o.op=.binOp op T ox oy U) (hc:iP P (.isNilP ne x) (.binOp op T ox oy U)=true)
   {v:AV} (hv:(X get x=.c (.d (.sc (.pointer none)))/\v=.c (.d (.bool !ne)))\/((∃cs off,X get x=.c (.d (.rp cs off)))/\v=.c (.d (.bool ne)))):ic P o get m [] [] v:=by
 simp only[iP,aG,aI]at hc;obtain⟨⟨⟨hop,hx⟩,hy⟩,ht⟩:=hc;split at hy
 · split at ht
   · rename_i E hu;refine ic.of_pure λm' h1 ph ρ w ac hr hg=>?_;have r1:=jf hx (ph:=ph) (ρ:=ρ) (get:=get) (a:=ac) λk hk=>hg k (by rw[ho];simp[Op.operands,hk]);have key:∃a:Option Addr,ac.eval ox=.pointer a/\RepV ph ρ v (.bool (a.isNone^^ne)):=by
       rcases hv with⟨ex,rfl⟩|⟨⟨cs,off,ex⟩,rfl⟩
       · rw[ex]at r1;simp only[RepV,RepC,RepD]at r1;exact⟨none,r1,by simp[RepV,RepC,RepD]⟩
       · rw[ex]at r1;simp only[RepV,RepC,RepD]at r1;obtain⟨B,o',e1,_⟩:=r1;exact⟨_,e1,by simp[RepV,RepC,RepD]⟩
     obtain⟨a,e1,e2⟩:=key;refine⟨.bool (a.isNone^^ne),?_,e2⟩;unfold execOp;rw[ho];refine fM (a:=.bool (a.isNone^^ne)) ?_ (fK _);show iA P (do eqGuard op T ox (.const (.pointer none)) (ac.eval ox) (.pointer none);binOp op T (ac.eval ox) (.pointer none)) w _ w;rw[e1];refine fM (a:=()) (w':=w) ?_ ?_
     · unfold eqGuard;split<;>exact fK _
     · show(binOp op T _ _).run P w=_;have hrun:=zlm hu w a;cases ne
       · simp only[ai,if_false]at hop;subst hop;show(do pure (Value.bool (<-Op.equal T (.pointer a) (.pointer none))):Sem Value).run P w=_;rw[Sem.run_bind,hrun];simp
       · simp only[if_true]at hop;subst hop;show(do pure (Value.bool (!(<-Op.equal T (.pointer a) (.pointer none)))):Sem Value).run P w=_;rw[Sem.run_bind,hrun];simp
   · cases ht
 · cases hy
theorem Rt{ph:PH}{ρ:RM}{k:IntKind}{a b:Int}{u v:Value}{mx:Bool}(r1:RepV ph ρ (.c (.d (.int k a))) u)(r2:RepV ph ρ (.c (.d (.int k b))) v):RepV ph ρ (.c (.d (.int k (wL mx a b)))) (.int k (wL mx a b)):=by
 simp only[RepV,RepC,RepD]at r1 r2⊢;refine⟨trivial,?_⟩;unfold wL;split<;>split<;>first|exact r1.2|exact r2.2
theorem znj{o:Oper}{c:Call}{mx:Bool}{x y:MX}(ho:o.op=.call c)(hc:iP P (.minI mx x y) (.call c)=true){k:IntKind}{a b:Int}(ex:X get x=.c (.d (.int k a)))(ey:X get y=.c (.d (.int k b))):
   ic P o get m [] [] (.c (.d (.int k (wL mx a b)))):=by
 simp only[iP]at hc;split at hc
 · rename_i ox oy hb ha;simp only[aG,bD]at hc;obtain⟨⟨hm,hx⟩,hy⟩:=hc;have hargs:c.args=#[ox,oy]:=by rw[<-au (xs:=c.args),ha]
   refine ic.of_pure λm' h1 ph ρ w ac hr hg=>?_;have r1:=jf hx (ph:=ph) (ρ:=ρ) (get:=get) (a:=ac) λk hk=>hg k (by rw[ho];simp[Op.operands,Call.operands,hb,hargs,hk]);have r2:=jf hy (ph:=ph) (ρ:=ρ) (get:=get) (a:=ac) λk hk=>hg k (by rw[ho];simp[Op.operands,Call.operands,hb,hargs,hk]);rw[ex]at r1;rw[ey]at r2;refine⟨.int k (wL mx a b),?_,Rt r1 r2⟩;simp only[RepV,RepC,RepD]at r1 r2;unfold execOp;rw[ho];show iA P (do let d<-resolve ac.eval c o.type;invoke d.target d.args) w _ w;unfold resolve;rw[hb,hargs];refine(fK _).bind ?_;simp only[invoke,List.map_toArray,List.map_cons,List.map_nil];refine fM (a:=.int k (wL mx a b)) ?_ (fK _);rw[r1.1,r2.1,hm];exact fK _
 · rename_i ox oy hb ha;simp only[aG]at hc;obtain⟨⟨hm,hx⟩,hy⟩:=hc;have hargs:c.args=#[ox,oy]:=by rw[<-au (xs:=c.args),ha]
   refine ic.of_pure λm' h1 ph ρ w ac hr hg=>?_;have r1:=jf hx (ph:=ph) (ρ:=ρ) (get:=get) (a:=ac) λk hk=>hg k (by rw[ho];simp[Op.operands,Call.operands,hb,hargs,hk]);have r2:=jf hy (ph:=ph) (ρ:=ρ) (get:=get) (a:=ac) λk hk=>hg k (by rw[ho];simp[Op.operands,Call.operands,hb,hargs,hk]);rw[ex]at r1;rw[ey]at r2;refine⟨.int k (wL mx a b),?_,Rt r1 r2⟩;simp only[RepV,RepC,RepD]at r1 r2;unfold execOp;rw[ho];show iA P (do let d<-resolve ac.eval c o.type;invoke d.target d.args) w _ w;unfold resolve;rw[hb,hargs];refine(fK _).bind ?_;simp only[invoke,List.map_toArray,List.map_cons,List.map_nil];refine fM (a:=.int k (wL mx a b)) ?_ (fK _);rw[r1.1,r2.1,hm];exact fK _
 · cases hc
end
end Go.Abs
namespace Go.Abs
theorem IV:∀(n d:Nat),(jN n d).length=d
|_,0=>rfl
|n,d+1=>by simp[jN,IV (n+1) d]
theorem FB:∀(n d j:Nat),j<d->(jN n d)[j]?=some (n+j)
|n,d+1,0,_=>by simp[jN]
|n,d+1,j+1,h=>by
 simp only[jN,List.getElem?_cons_succ];rw[FB (n+1) d j (by omega)];congr 1;omega
theorem Ru{n d x:Nat}(h:x∈jN n d):n<=x/\x<n+d:=by
 obtain⟨j,hj,rfl⟩:=bW h;rw[IV]at hj;have:=FB n d j hj;rw[aA (by rw[IV];exact hj)]at this;simp only[af]at this;omega
theorem Rv:∀(n d:Nat),(jN n d).Nodup
|_,0=>by simp[jN]
|n,d+1=>by
 simp only[jN,bf];exact⟨λh=>by have:=Ru h;omega,Rv (n+1) d⟩
theorem Rw{m:Hp}:∀{n d:Nat},CZ m n d->∀j,j<d->m (n+j)=.non
|n,d+1,h,0,_=>h.1
|n,d+1,h,j+1,hj=>by
 have:=Rw h.2 j (by omega);rwa[show n+1+j=n+(j+1) by omega]at this
theorem ED{m:Hp}{f:Nat->Nat}:∀{js:List Nat} {bs:List Blk},vL m f js bs->js.length=bs.length/\∀i,i<js.length->m (js.getD i 0)=(hpOf bs i).ren f
|[],[],_=>⟨rfl,λi hi=>by simp at hi⟩
|[],_::_,h=>by simp[vL]at h
|_::_,[],h=>by simp[vL]at h
|j::js,b::bs,h=>by
 simp only[vL]at h;obtain⟨h1,h2⟩:=ED h.2;refine⟨by simp[h1],λi hi=>?_⟩;cases i with
 |zero=>simpa[hpOf]using h.1
 |succ i=>simpa[hpOf]using h2 i (by simpa using hi)
theorem LU{f:Nat->Nat}:∀{js:List Nat} {bs:List Blk} {m:Hp} {b:Nat},b∉js->pG m (uJ f js bs) b=m b
|[],_,m,b,_=>by simp[uJ,pG]
|_::_,[],m,b,_=>by simp[uJ,pG]
|j::js,x::bs,m,b,h=>by
 simp only[aN,dU]at h;simp only[uJ,pG];have:=LU (f:=f) (js:=js) (bs:=bs) (m:=upd m j (x.ren f)) h.2;rw[this,zcg _ _ h.1]
theorem Rx{f:Nat->Nat}:∀{js:List Nat} {bs:List Blk} {m:Hp},js.Nodup->js.length=bs.length->∀i,i<js.length->pG m (uJ f js bs) (js.getD i 0)=(hpOf bs i).ren f
|[],_,m,_,_,i,hi=>by simp at hi
|_::_,[],m,_,h,_,_=>by simp at h
|j::js,x::bs,m,hn,h,0,hi=>by
 simp only[bf]at hn;simp only[uJ,pG,List.getD_cons_zero];rw[LU hn.1,zaE];simp[hpOf]
|j::js,x::bs,m,hn,h,i+1,hi=>by
 simp only[bf]at hn;simp only[uJ,pG,List.getD_cons_succ];rw[Rx hn.2 (by simpa using h) i (by simpa using hi)];simp[hpOf]
theorem Ry{f:Nat->Nat}:∀{js:List Nat} {bs:List Blk},js.length=bs.length->∀j,j∈js->∃b,(j,b)∈uJ f js bs
| j::js,x::bs,h,k,hk=>by
 cases aN.1 hk with
 |inl e=>subst e;exact⟨x.ren f,by simp[uJ]⟩
 |inr e=>
  obtain⟨b,hb⟩:=Ry (f:=f) (js:=js) (bs:=bs) (by simpa using h) k e;exact⟨b,by simp[uJ,hb]⟩
section
variable {P:Program} {get:Nat->AV} {m:Hp} {n:Nat}
theorem HRel.sub{h:PH}{ρ:RM}{m:Hp}{w:Heap}{l:List Nat}{bs:List Blk}(H:HRel h ρ m w)(hnd:l.Nodup)(hlt:∀b,b∈bs->b.lt l.length=true)(hat:vL m (jJ l) l bs):HRel h (qF (jJ l) l.length ρ) (hpOf bs) w:=by
 obtain⟨hlen,hb⟩:=ED hat;have at_:∀b,b<l.length->m (jJ l b)=(hpOf bs b).ren (jJ l):=λb hbl=>hb b hbl;have inj:∀b c,b<l.length->c<l.length->jJ l b=jJ l c->b=c:=by
  intro b c h1 h2 e;unfold jJ at e;rw[aH,aH,aA h1,aA h2]at e;simp only[Option.getD_some]at e;exact(List.getElem?_inj h1 hnd).1 (by rw[aA h1,aA h2,e])
 have beyond:∀b,¬b<l.length->hpOf bs b=.non:=by
  intro b hb';unfold hpOf;rw[aH,aS (by omega)];rfl
 have rs:∀{b:Nat} {p:Nat × Nat},qF (jJ l) l.length ρ b=some p->b<l.length/\ρ (jJ l b)=some p:=by
  intro b p h;unfold qF at h;split at h
  ·exact⟨by assumption,h⟩
  ·cases h
 have mem:∀b,b<l.length->(hpOf bs b).lt l.length=true:=by
  intro b hb';unfold hpOf;rw[aH,aA (by omega)];exact hlt _ (aP _)
 refine⟨H.pers,?_,?_,?_,?_⟩
 ·intro b;unfold qF;by_cases hbl:b<l.length
  ·rw[aC hbl,<-H.dom,at_ b hbl];cases hpOf bs b<;>simp[Blk.ren]
  ·rw[aB hbl];simp[beyond b hbl]
 ·intro b p hp';obtain⟨h1,h2⟩:=rs hp';have:=H.own _ p h2;rw[at_ b h1]at this;exact zaI.ren (mem b h1) this
 ·intro b c' p q h1 h2 hr hs e;obtain⟨g1,g2⟩:=rs h1;obtain⟨g3,g4⟩:=rs h2;refine inj b c' g1 g3 (H.inj _ _ p q g2 g4 ?_ ?_ e)
  ·rw[at_ b g1];exact Real.ren.2 hr
  ·rw[at_ c' g3];exact Real.ren.2 hs
 ·intro b p h1 hr;obtain⟨g1,g2⟩:=rs h1;exact H.sep _ p g2 (by rw[at_ b g1];exact Real.ren.2 hr)
theorem Rz{o:Oper}{f:FuncId}{l:List Nat}{args:List AV}{bs:List Blk}{v:AV}{bs':List Blk}(hp:MCall P f args bs v bs')(hnd:l.Nodup)(hln:∀i,i∈l->i<n)(hal:AV.lts l.length args=true)
  (hlt:∀b,b∈bs->b.lt l.length=true) (hat:vL m (jJ l) l bs) (hfr:CZ m n (bs'.length-bs.length))
  (H:∀(ph:PH) (ρ:RM) (w:World) (a:Act),(∀k,Operand.tmp k∈o.op.operands->RepV ph ρ (get k) (a.tmps.getD k undef))->
   ∃argsC:List Value,zai ph ρ (AV.rens (jJ l) args) argsC/\iA P (execOp a.eval o) w (.enter f argsC.toArray) w):
  ic P o get m [] (uJ (jJ (l++jN n (bs'.length-bs.length))) (l++jN n (bs'.length-bs.length)) bs') (v.ren (jJ (l++jN n (bs'.length-bs.length)))):=by
 intro m' h1 h2 ph ρ w a hr hG hg next Q hn;obtain⟨hcal,hle,hnon,hvl,hbl,hp⟩:=hp;obtain⟨hk,hat'⟩:=ED hat;generalize hd:bs'.length-bs.length=d at*
 have hlen':(l++jN n d).length=bs'.length:=by rw[aX,IV];omega
 have hnd':(l++jN n d).Nodup:=by
  rw[bX];refine⟨hnd,Rv n d,λa ha b hb e=>?_⟩;have:=hln a ha;have:=Ru hb;omega
 have agree:∀j,j∈l++jN n d->m' j=m j:=λj hj=>by
  obtain⟨b,hb⟩:=Ry (f:=jJ (l++jN n d)) hlen' j hj;exact h2 (j,b) hb
 have hatm:vL m' (jJ l) l bs:=by
  have:∀(js:List Nat) (bs:List Blk),(∀j,j∈js->m' j=m j)->vL m (jJ l) js bs->vL m' (jJ l) js bs:=by
   intro js
   induction js with
   |nil=>intro bs _ h;cases bs<;>first|exact h|exact h.elim
   | cons j js ih=>
    intro bs hj h;cases bs with
    |nil=>exact h.elim
    |cons b bs=>
     simp only[vL]at h⊢;exact⟨(hj j (by simp)).trans h.1,ih bs (λk hk=>hj k (by simp[hk])) h.2⟩
  exact this l bs (λj hj=>agree j (by simp[hj])) hat
 have hfrm:∀j,j<d->m' (n+j)=.non:=λj hj=>by
  rw[agree (n+j) (by
   rw[aM]
   exact .inr (ae (FB n d j hj)))]
  exact Rw hfr j hj
 obtain⟨argsC,ra,hrun⟩:=H ph ρ w a hg;have hc:=hr.sub hnd hlt hatm;have hra:=zai.ren args argsC hal ra;unfold Oper.wp;rw[show(execOp a.eval o).run P w=.ok (.enter f argsC.toArray) w from hrun];rw[Oper.upon_enter];refine(hp ph _ w argsC hc hG hra).mono λe w' hh=>?_;obtain⟨vC,h',ρ',e1,st,hr',e7,rv,pins⟩:=hh;subst e1
 -- the caller's own numbers
 have inl:∀i,i<l.length->jJ (l++jN n d) i=jJ l i:=by
  intro i hi;unfold jJ;rw[aH,aH,dF hi]
 have inr:∀j,j<d->jJ (l++jN n d) (l.length+j)=n+j:=by
  intro j hj;unfold jJ;rw[aH,bY (by omega),cZ,FB n d j hj];rfl
 have lmem:∀i,i<l.length->jJ l i∈l:=by
  intro i hi;unfold jJ;rw[aH,aA hi];exact aP hi
 let ρ2:RM:=λb=>if n<=b/\b<n+d then ρ' (l.length+(b-n))else ρ b;let m2:Hp:=pG m' (uJ (jJ (l++jN n d)) (l++jN n d) bs');have m2in:∀i,i<bs'.length->m2 (jJ (l++jN n d) i)=(hpOf bs' i).ren (jJ (l++jN n d)):=λi hi=>Rx hnd' hlen' i (by omega);have m2out:∀b,b∉l++jN n d->m2 b=m' b:=λb hb=>LU hb;have r2:∀i,i<bs'.length->ρ2 (jJ (l++jN n d) i)=ρ' i:=by
  intro i hi;by_cases hil:i<l.length
  ·rw[inl i hil];have hlt:=hln _ (lmem i hil);show(if n<=jJ l i/\jJ l i<n+d then _ else ρ (jJ l i))=_;rw[aB (by omega),pins i (by omega)];unfold qF;rw[aC hil]
  ·obtain⟨j,rfl⟩:∃j,i=l.length+j:=⟨i-l.length,by omega⟩
   rw[inr j (by omega)];show(if n<=n+j/\n+j<n+d then ρ' (l.length+(n+j-n))else _)=_;rw[aC (by omega),cZ]
 have r2out:∀b,b∉l++jN n d->ρ2 b=ρ b:=by
  intro b hb;show(if n<=b/\b<n+d then _ else ρ b)=_;rw[aB];intro hh;refine hb (aM.2 (.inr ?_));have:=FB n d (b-n) (by omega);rw[show n+(b-n)=b by omega]at this;exact ae this
 have cases_:∀b,b∉l++jN n d\/∃i,i<bs'.length/\b=jJ (l++jN n d) i:=by
  intro b;by_cases hb:b∈l++jN n d
  ·obtain⟨i,hi,e⟩:=bW hb;refine .inr ⟨i,by omega,?_⟩;unfold jJ;rw[aH,aA hi];exact e.symm
  ·exact .inl hb
 have rle:ρ.le ρ2:=by
  intro b p hb;rcases cases_ b with h|⟨i,hi,rfl⟩
  ·rw[r2out b h];exact hb
  ·rw[r2 i hi];by_cases hil:i<l.length
   ·rw[pins i (by omega)];unfold qF;rw[aC hil];rwa[inl i hil]at hb
   ·obtain⟨j,rfl⟩:∃j,i=l.length+j:=⟨i-l.length,by omega⟩
    rw[inr j (by omega),(hr.dom _).1 (hfrm j (by omega))]at hb;cases hb
 have mvH:∀b q,live bs' b=true->ρ' (id b)=some q->ρ2 (jJ (l++jN n d) b)=some q:=by
  intro b q hb hq;have:b<bs'.length:=by
   unfold live at hb;rcases aW b bs'.length with h|h
   ·exact h
   ·rw[aS h]at hb;cases hb
  rw[r2 b this];exact hq
 -- what lies outside is not touched
 have freeOut:∀b p,b∉l++jN n d->ρ b=some p->Real (m' b) p->pM (qF (jJ l) l.length ρ) (hpOf bs) p.1:=by
  intro b p hb hp' hreal c q hcq hrq he;unfold qF at hcq;split at hcq
  ·rename_i hcl;have hmc:m' (jJ l c)=(hpOf bs c).ren (jJ l):=(ED hatm).2 c hcl;have:=hr.inj (jJ l c) b q p hcq hp' (by rw[hmc];exact Real.ren.2 hrq) hreal he;exact hb (this▸aM.2 (.inl (lmem c hcl)))
  ·cases hcq
 have freeSub:∀B,pM ρ m' B->pM (qF (jJ l) l.length ρ) (hpOf bs) B:=by
  intro B hB c q hcq hrq he;unfold qF at hcq;split at hcq
  ·rename_i hcl;have hmc:m' (jJ l c)=(hpOf bs c).ren (jJ l):=(ED hatm).2 c hcl;exact hB (jJ l c) q hcq (by rw[hmc];exact Real.ren.2 hrq) he
  ·cases hcq
 have K2:HRel h' ρ2 m2 w'.heap:=by
  refine⟨hr'.pers,?_,?_,?_,?_⟩
  ·intro b;rcases cases_ b with h|⟨i,hi,rfl⟩
   ·rw[m2out b h,r2out b h];exact hr.dom b
   ·rw[m2in i hi,r2 i hi,<-hr'.dom];cases hpOf bs' i<;>simp[Blk.ren]
  ·intro b p hb;rcases cases_ b with h|⟨i,hi,rfl⟩
   ·rw[r2out b h]at hb;rw[m2out b h];by_cases hreal:Real (m' b) p
    ·exact zaI.congr st.hle rle (st.frame p.1 (hr.real_lt hb hreal) (freeOut b p h hb hreal)) (hr.own b p hb)
    ·exact zaI.notReal hreal (hr.own b p hb) _ rle _
   ·rw[r2 i hi]at hb;rw[m2in i hi];have:=hr'.own i p hb;have hmem:hpOf bs' i∈bs':=by
     unfold hpOf;rw[aH,aA hi];exact aP hi
    refine zaI.mv (f:=id) mvH (hbl _ hmem) ?_;rw[Blk.ren_id];exact this
  ·intro b c p q hb hc' hrb hrc he;rcases cases_ b with h|⟨i,hi,rfl⟩<;>rcases cases_ c with k|⟨j,hj,rfl⟩
   ·rw[r2out b h]at hb;rw[r2out c k]at hc';rw[m2out b h]at hrb;rw[m2out c k]at hrc;exact hr.inj b c p q hb hc' hrb hrc he
   ·exfalso;rw[r2out b h]at hb;rw[m2out b h]at hrb;rw[r2 j hj]at hc';rw[m2in j hj]at hrc;rcases st.own j q hc' (Real.ren.1 hrc)with h3|⟨c'',q'',h3,h4,h5⟩
    ·have:=hr.real_lt hb hrb;omega
    ·exact freeOut b p h hb hrb c'' q'' h3 h4 (h5.trans he.symm)
   ·exfalso;rw[r2out c k]at hc';rw[m2out c k]at hrc;rw[r2 i hi]at hb;rw[m2in i hi]at hrb;rcases st.own i p hb (Real.ren.1 hrb)with h3|⟨c'',q'',h3,h4,h5⟩
    ·have:=hr.real_lt hc' hrc;omega
    ·exact freeOut c q k hc' hrc c'' q'' h3 h4 (h5.trans he)
   ·rw[r2 i hi]at hb;rw[r2 j hj]at hc';rw[m2in i hi]at hrb;rw[m2in j hj]at hrc;rw[hr'.inj i j p q hb hc' (Real.ren.1 hrb) (Real.ren.1 hrc) he]
  ·intro b p hb hrb;rcases cases_ b with h|⟨i,hi,rfl⟩
   ·rw[r2out b h]at hb;rw[m2out b h]at hrb;rw[st.hlow p.1 (hr.real_lt hb hrb) (freeOut b p h hb hrb)];exact hr.sep b p hb hrb
   ·rw[r2 i hi]at hb;rw[m2in i hi]at hrb;exact hr'.sep i p hb (Real.ren.1 hrb)
 have S2:Step ph ρ m' w.heap h' ρ2 m2 w'.heap:=by
  refine⟨st.hle,λB hB hf=>st.hlow B hB (freeSub B hf),rle,st.size,λB hB hf=>st.frame B hB (freeSub B hf),?_⟩;intro b p hb hrb;rcases cases_ b with h|⟨i,hi,rfl⟩
  ·rw[r2out b h]at hb;rw[m2out b h]at hrb;exact .inr ⟨b,p,hb,hrb,rfl⟩
  ·rw[r2 i hi]at hb;rw[m2in i hi]at hrb;rcases st.own i p hb (Real.ren.1 hrb)with h3|⟨c,q,h3,h4,h5⟩
   ·exact .inl h3
   ·unfold qF at h3;split at h3
    ·rename_i hcl;have hmc:m' (jJ l c)=(hpOf bs c).ren (jJ l):=(ED hatm).2 c hcl;exact .inr ⟨jJ l c,q,h3,by rw[hmc];exact Real.ren.2 h4,h5⟩
    ·cases h3
 refine hn h' ρ2 w' vC S2 K2 e7 ?_;refine RepV.mv (f:=id) mvH v vC hvl ?_;rw[AV.ren_id];exact rv
end
end Go.Abs
