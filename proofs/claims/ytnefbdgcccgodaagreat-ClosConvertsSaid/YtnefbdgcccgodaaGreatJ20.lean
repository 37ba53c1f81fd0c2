/- Texts of ours, joined and written short by a program of ours. -/
import Derived.Test.YtnefbdgcccgodaaGreatJ19
set_option linter.unusedVariables false
set_option linter.unusedSimpArgs false
namespace Go.Gr
open Go.Abs Go.Proofs
theorem zeq(a b:ByteArray):Op.bytesLess a.data.toList b.data.toList=decide (ltB a b):=ziz _ _
structure Mrg (a b:List ByteArray) (i k:Nat) (l:List ByteArray):Prop where
 hi:i<=a.length
 hk:k<=b.length
 len:l.length<=i+k
 rises:l.Pairwise ltB
 mem:∀x,x∈l↔x∈a.take i\/x∈b.take k
 la:∀x,x∈l->∀j (h:j<a.length),i<=j->ltB x a[j]
 lb:∀x,x∈l->∀j (h:j<b.length),k<=j->ltB x b[j]
theorem zfX{l:List ByteArray}(h:l.Pairwise ltB){i j:Nat}(hj:j<l.length)(hij:i<j):ltB (l[i]'(by omega)) l[j]:=(List.pairwise_iff_getElem.1 h) i j (by omega) hj hij
theorem Mrg.left{a b l:List ByteArray}{i k:Nat}(ha:a.Pairwise ltB)(hb:b.Pairwise ltB)(M:Mrg a b i k l)(h:i<a.length)(hl:∀(hk:k<b.length),ltB a[i] b[k]):Mrg a b (i+1) k (l++[a[i]]) where
 hi:=h
 hk:=M.hk
 len:=by have:=M.len;simp;omega
 rises:=List.pairwise_append.2 ⟨M.rises,by simp,fun x hx y hy=>by rw[List.mem_singleton.1 hy];exact M.la x hx i h (Nat.le_refl _)⟩
 mem x:=by rw[List.mem_append,M.mem,zib h,List.mem_singleton];exact⟨fun h=>h.elim (fun h=>h.elim (fun h=>.inl (.inl h)) .inr) (fun h=>.inl (.inr h)),fun h=>h.elim (fun h=>h.elim (fun h=>.inl (.inl h)) .inr) (fun h=>.inl (.inr h))⟩
 la x hx j hj hij:=by
  rcases List.mem_append.1 hx with q|q
  ·exact M.la x q j hj (by omega)
  ·rw[List.mem_singleton.1 q];exact zfX ha hj (by omega)
 lb x hx j hj hkj:=by
  rcases List.mem_append.1 hx with q|q
  ·exact M.lb x q j hj hkj
  ·rw[List.mem_singleton.1 q]
   have h1:=hl (by omega)
   by_cases e:k=j
   ·subst e;exact h1
   ·exact zck h1 (zfX hb hj (by omega))
theorem Mrg.right{a b l:List ByteArray}{i k:Nat}(ha:a.Pairwise ltB)(hb:b.Pairwise ltB)(M:Mrg a b i k l)(h:k<b.length)(hl:∀(hi:i<a.length),ltB b[k] a[i]):Mrg a b i (k+1) (l++[b[k]]) where
 hi:=M.hi
 hk:=h
 len:=by have:=M.len;simp;omega
 rises:=List.pairwise_append.2 ⟨M.rises,by simp,fun x hx y hy=>by rw[List.mem_singleton.1 hy];exact M.lb x hx k h (Nat.le_refl _)⟩
 mem x:=by rw[List.mem_append,M.mem,zib h,List.mem_singleton,or_assoc]
 la x hx j hj hij:=by
  rcases List.mem_append.1 hx with q|q
  ·exact M.la x q j hj hij
  ·rw[List.mem_singleton.1 q]
   have h1:=hl (by omega)
   by_cases e:i=j
   ·subst e;exact h1
   ·exact zck h1 (zfX ha hj (by omega))
 lb x hx j hj hkj:=by
  rcases List.mem_append.1 hx with q|q
  ·exact M.lb x q j hj (by omega)
  ·rw[List.mem_singleton.1 q];exact zfX hb hj (by omega)
theorem Mrg.both{a b l:List ByteArray}{i k:Nat}(ha:a.Pairwise ltB)(hb:b.Pairwise ltB)(M:Mrg a b i k l)(h:i<a.length)(h':k<b.length)(e:a[i]=b[k]):Mrg a b (i+1) (k+1) (l++[b[k]]) where
 hi:=h
 hk:=h'
 len:=by have:=M.len;simp;omega
 rises:=List.pairwise_append.2 ⟨M.rises,by simp,fun x hx y hy=>by rw[List.mem_singleton.1 hy];exact M.lb x hx k h' (Nat.le_refl _)⟩
 mem x:=by
  rw[List.mem_append,M.mem,zib h,zib h',List.mem_singleton,e]
  exact⟨fun h=>h.elim (fun h=>h.elim (fun h=>.inl (.inl h)) (fun h=>.inr (.inl h))) (fun h=>.inr (.inr h)),fun h=>h.elim (fun h=>h.elim (fun h=>.inl (.inl h)) .inr) (fun h=>h.elim (fun h=>.inl (.inr h)) .inr)⟩
 la x hx j hj hij:=by
  rcases List.mem_append.1 hx with q|q
  ·exact M.la x q j hj (by omega)
  ·rw[List.mem_singleton.1 q,<-e];exact zfX ha hj (by omega)
 lb x hx j hj hkj:=by
  rcases List.mem_append.1 hx with q|q
  ·exact M.lb x q j hj (by omega)
  ·rw[List.mem_singleton.1 q];exact zfX hb hj (by omega)
set_option maxRecDepth 20000 in
theorem zu7(a b:List ByteArray)(ha:a.Pairwise ltB)(hb:b.Pairwise ltB)(sa:a.length<=536870912)(sb:b.length<=536870912):
  PCall Pg 96 [.one (.sl false 1 (encS a)),.one (.sl false 1 (encS b))] (.one (.sl false 1 (encS (zeW (a++b.filter fun k=> !decide (k∈a)))))):=by
 have hfin:∀l,Mrg a b a.length b.length l->l=zeW (a++b.filter fun k=> !decide (k∈a)):=fun l M=>by
  have hnd:(a++b.filter fun k=> !decide (k∈a)).Nodup:=by
   refine List.nodup_append.2 ⟨zei ha,(zei hb).filter _,fun x hx y hy e=>?_⟩
   simp only[List.mem_filter,Bool.not_eq_true',decide_eq_false_iff_not]at hy
   exact hy.2 (e▸hx)
  refine zvI M.rises (zk8 hnd) fun x=>?_
  rw[M.mem,zoN,List.take_length,List.take_length]
  simp only[List.mem_append,List.mem_filter,Bool.not_eq_true',decide_eq_false_iff_not]
  by_cases h:x∈a<;>simp[h]
 refine zr3 (by simp) fun o c hN hp=>?_
 unfold zj0
 simp
 refine owK.mk [.t 5] ?_
 simp
 refine W.loop zab hp (fun x:Nat × Nat × List ByteArray=>Mrg a b x.1 x.2.1 x.2.2) (fun x=>[(6,.c (.d (.int .i64 x.1))),(7,.c (.d (.int .i64 x.2.1))),(5,.c (.msl 1 0 0 x.2.2.length)),(0,.c (.d (.sl false 1 (encS a)))),(1,.c (.d (.sl false 1 (encS b))))])
  (fun x=>[.arr 1 ((encS x.2.2).map (·.map .d))]) (fun x=>(a.length-x.1)+(b.length-x.2.1)) (0,0,[]) [0] ⟨by simp,by simp,by simp,by simp,by simp,by simp,by simp⟩ (by simp) fun⟨i,k,l⟩ M=>?_
 have m1:=M.hi
 have m2:=M.hk
 have m3:=M.len
 simp only at m1 m2 m3 M
 unfold lp_g10_names_0
 simp
 have ta:∀{l:List ByteArray},(encS l).take l.length=encS l:=List.take_of_length_le (by simp)
 by_cases hi:i<a.length
 ·by_cases hk:k<b.length
  ·have kne:¬((k:Int)=b.length):=by omega
   have hd:ltB a[i] b[k]\/a[i]=b[k]\/(ltB b[k] a[i]/\¬a[i]=b[k]/\¬ltB a[i] b[k]):=by
    by_cases e:a[i]=b[k]
    ·exact .inr (.inl e)
    ·rcases zgW e with q|q
     ·exact .inl q
     ·exact .inr (.inr ⟨q,e,fun h=>zcN _ (zck h q)⟩)
   rcases hd with q|q|⟨q,q1,q2⟩
   ·have q':=(zeq a[i] b[k]).trans (decide_eq_true q)
    simp[hi,hk,kne,List.getElem?_eq_getElem hi,List.getElem?_eq_getElem hk,q',ta]
    refine⟨by decide,by omega,?_⟩
    refine Abs.Next.mk (i+1,k,l++[a[i]]) [1] (M.left ha hb hi fun _=>q) (by simp;omega) ?_
    simp
    exact⟨wrap_i64 (by omega) (by omega),by rw[List.take_of_length_le (by simp)];try simp[encS]⟩
   ·have q':=(zeq a[i] b[k]).trans (decide_eq_false (by rw[q];exact zcN _))
    simp[hi,hk,kne,List.getElem?_eq_getElem hi,List.getElem?_eq_getElem hk,q',ta]
    refine⟨by decide,by omega,?_⟩
    refine⟨by decide,?_⟩
    simp only[q,decide_true,zAl]
    refine owK.mk [] ?_
    simp
    refine Abs.Next.mk (i+1,k+1,l++[b[k]]) [1] (M.both ha hb hi hk q) (by simp;omega) ?_
    simp
    exact⟨⟨wrap_i64 (by omega) (by omega),wrap_i64 (by omega) (by omega)⟩,by rw[List.take_of_length_le (by simp)];try simp[encS]⟩
   ·have q':=(zeq a[i] b[k]).trans (decide_eq_false q2)
    simp[hi,hk,kne,List.getElem?_eq_getElem hi,List.getElem?_eq_getElem hk,q',ta]
    refine⟨by decide,by omega,?_⟩
    refine⟨by decide,?_⟩
    simp only[q1,decide_false,zAm]
    refine owK.mk [] ?_
    simp
    refine Abs.Next.mk (i,k+1,l++[b[k]]) [1] (M.right ha hb hk fun _=>q) (by simp;omega) ?_
    simp
    exact⟨wrap_i64 (by omega) (by omega),by rw[List.take_of_length_le (by simp)];try simp[encS]⟩
  ·have ek:k=b.length:=by omega
   subst ek
   simp[hi,List.getElem?_eq_getElem hi,ta]
   refine⟨by decide,by omega,?_⟩
   refine Abs.Next.mk (i+1,b.length,l++[a[i]]) [1] (M.left ha hb hi fun h=>absurd h hk) (by simp;omega) ?_
   simp
   exact⟨wrap_i64 (by omega) (by omega),by rw[List.take_of_length_le (by simp)];try simp[encS]⟩
 ·have ei:i=a.length:=by omega
  subst ei
  by_cases hk:k<b.length
  ·have kne:¬((k:Int)=b.length):=by omega
   simp[hk,kne,List.getElem?_eq_getElem hk,ta]
   refine⟨by decide,by omega,by decide,?_⟩
   refine owK.mk [] ?_
   simp
   refine Abs.Next.mk (a.length,k+1,l++[b[k]]) [1] (M.right ha hb hk fun h=>absurd h hi) (by simp;omega) ?_
   simp
   exact⟨wrap_i64 (by omega) (by omega),by rw[List.take_of_length_le (by simp)];try simp[encS]⟩
  ·have ek:k=b.length:=by omega
   subst ek
   simp[ta]
   rw[hfin l M]
end Go.Gr
namespace Go.Gr
open Go.Abs Go.Proofs
theorem zol(d:Coe)(k:ByteArray)(hn:d.names.length=d.fields.length)(hl:d.names.length<=536870912):PCall Pg 98 [.agg d.enc,.one (.str k)] (.agg (za7 d k).enc):=by
 refine zr2 (by simp) fun o c hN hp=>?_
 unfold zjZ
 simp
 refine W.loopL zab hp lv_g10_field_0 [5] (fun j:Nat=>j<=d.names.length/\atN (d.names.drop j) (d.fields.drop j) k=za7 d k) (fun j=>[.c (.d (.int .i64 j))])
  (fun _=>[box5]) (fun j=>d.names.length-j) 0 [0] ⟨by simp,by simp[za7]⟩ (by simp[lv_g10_field_0]) fun j ⟨g1,g2⟩=>?_
 unfold zhS lv_g10_field_0
 simp
 refine gd.mk (fun h=>?_) (fun h=>?_)
 ·have hj:j<d.names.length:=by simpa using h
  have hj':j<d.fields.length:=by omega
  rw[List.drop_eq_getElem_cons hj,List.drop_eq_getElem_cons hj',atN]at g2
  simp[List.getElem?_eq_getElem hj,List.getElem?_eq_getElem hj']
  refine gd.mk (fun q=>?_) (fun q=>?_)
  ·have q':k=d.names[j]:=(of_decide_eq_true q).symm
   rw[if_pos q']at g2
   simp[g2]
  ·have q':¬k=d.names[j]:=fun e=>by rw[e]at q;simp at q
   rw[if_neg q']at g2
   exact Abs.Next.mk (j+1) [0] ⟨by omega,g2⟩ (by omega) (by simp;exact wrap_i64 (by omega) (by omega))
 ·have hj:j=d.names.length:=by simp at h;omega
  subst hj
  refine zac.mk zcr ?_
  rw[List.drop_length]at g2
  simp[atN]at g2
  simp[<-g2]
theorem zik(a b:Coe):PCall Pg 93 [.agg a.enc,.agg b.enc] (.one (.sl false 5 ((funCZ a b).map Coe.enc))):=by
 refine zt6 (by simp) fun o c hN hp=>?_
 unfold mc_g10_pair
 simp
 refine zac.mk (zdH a) ?_
 simp
 refine zac.mk (zdH b) ?_
 simp
 refine gd.mk (fun h1=>gd.mk (fun h2=>?_) (fun h2=>?_)) (fun h1=>?_)
 ·simp[funCZ,h1,h2]
 ·simp at h2
  simp[funCZ,h2]
 ·simp at h1
  simp[funCZ,h1]
theorem zyW(a b f:D)(N:List ByteArray)(F':List Coe)(k:ByteArray)(d:Coe)(hd:zaM d idC=true):
  MCall Pg 97 [.ag [.d a,.d b,.msl 1 0 0 N.length,.msl 5 1 0 F'.length,.d f],.c (.d (.str k)),.ag (d.enc.map .d)] [.arr 1 ((encS N).map (·.map .d)),.arr 5 ((F'.map Coe.enc).map (·.map .d))]
   (.ag [.d a,.d b,.msl 1 0 0 N.length,.msl 5 1 0 F'.length,.d f]) [.arr 1 ((encS N).map (·.map .d)),.arr 5 ((F'.map Coe.enc).map (·.map .d))]:=by
 refine ziF ⟨by simp,by simp,by simp,by simp,by simp,by simp[live],by simp⟩ fun ts hts ok hb c hN hp=>?_
 obtain⟨t0,t1,rfl⟩:=zvG hts
 unfold mc_g10_put
 simp
 refine zac.mk (zdH d) ?_
 simp[hd]
 exact EndM.mk [0,1] [2,3] (by simp)
theorem zw7(a b f:D)(N:List ByteArray)(F':List Coe)(k:ByteArray)(d:Coe)(hd:zaM d idC=false)(h1:N.length<=1073741824)(h2:F'.length<=1073741824):
  MCall Pg 97 [.ag [.d a,.d b,.msl 1 0 0 N.length,.msl 5 1 0 F'.length,.d f],.c (.d (.str k)),.ag (d.enc.map .d)] [.arr 1 ((encS N).map (·.map .d)),.arr 5 ((F'.map Coe.enc).map (·.map .d))]
   (.ag [.d a,.d b,.msl 1 2 0 (N++[k]).length,.msl 5 3 0 (F'++[d]).length,.d f]) [.dead,.dead,.arr 1 ((encS (N++[k])).map (·.map .d)),.arr 5 (((F'++[d]).map Coe.enc).map (·.map .d))]:=by
 refine ziF ⟨by simp,by simp,by simp,by simp,by simp,by simp[live],by simp[live]⟩ fun ts hts ok hb c hN hp=>?_
 obtain⟨t0,t1,rfl⟩:=zvG hts
 unfold mc_g10_put
 simp
 refine zac.mk (zdH d) ?_
 simp[hd]
 refine⟨by omega,by omega,EndM.mk [0,1,6,7] [2,3] ?_⟩
 simp[encS]
 exact⟨List.take_of_length_le (by simp),List.take_of_length_le (by simp)⟩
theorem rcm0{c:Ctx}(hp:c.pure){a b:Coe}(Ma:May a)(Mb:May b){Q:Exit->St->Prop}{S:St}{g}
  (h0:Match [0,1,2] S ((6,.c (.d (.int .i64 0)))::zfH a b) [box5,.arr 1 ((encI six0).map (·.map .d)),.box [.msl 1 1 0 6,.d (.sl true 2 []),.d (.sl true 1 []),.d (.sl true 5 []),.d (.sl true 5 [])]])
  (hQ:∀T,Abs.look T 2=.c (.d (.rp a.enc 0))->Abs.look T 3=.c (.d (.rp b.enc 0))->Abs.look T 4=.c (.ptr 0 0)->Abs.look T 5=.c (.ptr 2 0)->
   Q (.exit 0) ⟨T,hpOf [box5,.arr 1 ((encI (zbc a.tags b.tags)).map (·.map .d)),.box [.msl 1 1 0 6,.d (.sl true 2 []),.d (.sl true 1 []),.d (.sl true 5 []),.d (.sl true 5 [])]],3⟩):lw_ Pg c lp_g10_composed_0 Q g S:=by
 have hL:(zbc a.tags b.tags).length=6:=zjO Ma.tags Mb.tags
 refine W.loop zab hp (fun j:Nat=>j<=6) (fun j=>(6,.c (.d (.int .i64 j)))::zfH a b)
  (fun j=>[box5,.arr 1 ((encI (upT (zbc a.tags b.tags) j)).map (·.map .d)),.box [.msl 1 1 0 6,.d (.sl true 2 []),.d (.sl true 1 []),.d (.sl true 5 []),.d (.sl true 5 [])]])
  (fun j=>6-j) 0 [0,1,2] (by simp) h0 fun j h1=>?_
 unfold lp_g10_composed_0
 simp
 refine gd.mk (fun h=>?_) (fun h=>?_)
 ·have hj:j<6:=by simp at h;omega
  have hja:j<a.tags.length:=by rw[Ma.tags];exact hj
  have hjb:j<b.tags.length:=by rw[Mb.tags];exact hj
  have hup:(upT (zbc a.tags b.tags) j).length=6:=by simp[upT,hL];omega
  have hju:j<(upT (zbc a.tags b.tags) j).length:=by omega
  have hset:∀x,x=(zbc a.tags b.tags)[j]'(by omega)->(encI (upT (zbc a.tags b.tags) j)).set j [.int .i64 x]=encI (upT (zbc a.tags b.tags) (j+1)):=fun x e=>by
   rw[e,<-zpW,zyN hL hj]
  have hval:(zbc a.tags b.tags)[j]'(by omega)=if a.tags[j]=0 then b.tags[j]else a.tags[j]:=by simp[zbc]
  simp[List.getElem?_eq_getElem hja,List.getElem?_eq_getElem hjb,List.getElem?_eq_getElem hju]
  refine⟨by omega,by decide,?_⟩
  refine gd.mk (fun h=>?_) (fun h=>?_)
  ·simp at h
   have hju2:((List.map (fun x=>List.map AC.d x) (encI (upT (zbc a.tags b.tags) j))).set j [AC.d (D.int IntKind.i64 a.tags[j])])[j]?=some [AC.d (D.int IntKind.i64 a.tags[j])]:=by
    rw[List.getElem?_set_self (by simp[hup];exact hj)]
   rw[hju2]
   refine⟨by omega,?_⟩
   refine⟨by decide,?_⟩
   refine Abs.Next.mk (j+1) [0,1,2] (by omega) (by omega) ?_
   simp
   refine⟨wrap_i64 (by omega) (by omega),?_⟩
   rw[<-hset b.tags[j] (by rw[hval,if_pos h])]
   simp[List.map_set]
  ·simp at h
   refine Abs.Next.mk (j+1) [0,1,2] (by omega) (by omega) ?_
   simp
   refine⟨wrap_i64 (by omega) (by omega),?_⟩
   rw[<-hset a.tags[j] (by rw[hval,if_neg h])]
   simp[List.map_set]
 ·have hj:j=6:=by simp at h;omega
  subst hj
  have hup:upT (zbc a.tags b.tags) 6=zbc a.tags b.tags:=by
   unfold upT;rw[List.take_of_length_le (by omega)];simp
  rw[hup]
  exact hQ _ (by simp) (by simp) (by simp) (by simp)
def zc3(a b:Coe)(j:Nat):List (ByteArray × Int):=zdT a.needs (b.needs.take j)
theorem ztt{a b:Coe}{j:Nat}(h:j<b.needs.length):zc3 a b (j+1)=if(a.needs.any fun m=>decide (m.1=b.needs[j].1))=true then zc3 a b j else zc3 a b j++[b.needs[j]]:=by
 unfold zc3 zdT
 rw[List.take_succ_eq_append_getElem h,List.filter_append]
 by_cases q:(a.needs.any fun m=>decide (m.1=b.needs[j].1))=true
 ·rw[if_pos q];simp[q]
 ·rw[if_neg q];simp[q]
theorem zu8(a b:Coe)(j:Nat):(zc3 a b j).length<=a.needs.length+b.needs.length:=by
 have h1:=zmf a.needs (b.needs.take j)
 have h2:(b.needs.take j).length<=b.needs.length:=by rw[List.length_take];omega
 unfold zc3;omega
abbrev boxN(n:Nat):Blk:=.box [.msl 1 1 0 6,.msl 2 3 0 n,.d (.sl true 1 []),.d (.sl true 5 []),.d (.sl true 5 [])]
theorem rcm2{c:Ctx}(hp:c.pure){a b:Coe}(Ma:May a)(Mb:May b)(T:List Int)(hal:a.needs.length<=536870912)(hbl:b.needs.length<=536870912){Q:Exit->St->Prop}{S:St}{g}{ms:List Nat}
  (h0:Match ms S ((7,.c (.d (.int .i64 0)))::zfH a b) [box5,.arr 1 ((encI T).map (·.map .d)),boxN a.needs.length,.arr 2 ((encN a.needs).map (·.map .d))])
  (hQ:∀T',Abs.look T' 2=.c (.d (.rp a.enc 0))->Abs.look T' 3=.c (.d (.rp b.enc 0))->Abs.look T' 4=.c (.ptr 0 0)->Abs.look T' 5=.c (.ptr 2 0)->
   Q (.exit 2) ⟨T',hpOf [box5,.arr 1 ((encI T).map (·.map .d)),boxN (zcO a b).length,.arr 2 ((encN (zcO a b)).map (·.map .d))],4⟩):lw_ Pg c zcx Q g S:=by
 have ha4:a.tags[4]?=some (tagZ a 4):=zkk Ma.tags (by omega)
 by_cases q4:tagZ a 4=0
 rotate_left
 ·have hn:zcO a b=a.needs:=by unfold zcO;rw[if_neg q4]
  rw[hn]at hQ
  refine W.loop zab hp (fun j:Nat=>j=0) (fun j=>(7,.c (.d (.int .i64 0)))::zfH a b) (fun _=>[box5,.arr 1 ((encI T).map (·.map .d)),boxN a.needs.length,.arr 2 ((encN a.needs).map (·.map .d))])
   (fun j=>0) 0 ms rfl h0 fun j h1=>?_
  unfold zcx
  simp
  refine gd.mk (fun h=>?_) (fun h=>?_)
  ·simp[ha4,q4]
   exact hQ _ (by simp) (by simp) (by simp) (by simp)
  ·exact hQ _ (by simp) (by simp) (by simp) (by simp)
 have hn:zcO a b=zc3 a b b.needs.length:=by unfold zcO zc3;rw[if_pos q4,List.take_length]
 have hn0:zc3 a b 0=a.needs:=by simp[zc3,zdT]
 rw[hn]at hQ
 refine W.loop zab hp (fun j:Nat=>j<=b.needs.length) (fun j=>(7,.c (.d (.int .i64 j)))::zfH a b) (fun j=>[box5,.arr 1 ((encI T).map (·.map .d)),boxN (zc3 a b j).length,.arr 2 ((encN (zc3 a b j)).map (·.map .d))])
  (fun j=>b.needs.length-j) 0 ms (by simp) (by simpa[hn0]using h0) fun j h1=>?_
 unfold zcx
 simp
 refine gd.mk (fun h=>?_) (fun h=>?_)
 ·have hj:j<b.needs.length:=by simpa using h
  simp[ha4,q4]
  refine W.loop zab hp (fun k:Nat=>k<=a.needs.length) (fun k=>(9,.c (.d (.int .i64 k)))::(8,.c (.d (.bool ((a.needs.take k).any fun m=>decide (m.1=b.needs[j].1)))))::(7,.c (.d (.int .i64 j)))::zfH a b)
   (fun k=>[box5,.arr 1 ((encI T).map (·.map .d)),boxN (zc3 a b j).length,.arr 2 ((encN (zc3 a b j)).map (·.map .d))])
   (fun k=>a.needs.length-k) 0 [0,1,2,3] (by simp) (by simp) fun k h2=>?_
  unfold zfE
  simp
  refine gd.mk (fun h=>?_) (fun h=>?_)
  ·have hk:k<a.needs.length:=by simpa using h
   have hany:((a.needs.take (k+1)).any fun m=>decide (m.1=b.needs[j].1))=(((a.needs.take k).any fun m=>decide (m.1=b.needs[j].1))||decide (a.needs[k].1=b.needs[j].1)):=by
    rw[List.take_succ_eq_append_getElem hk,List.any_append];simp
   refine gd.mk (fun h=>?_) (fun h=>?_)
   ·rw[h,Bool.false_or]at hany
    simp[encN,List.getElem?_eq_getElem hk,List.getElem?_eq_getElem hj]
    refine⟨by decide,?_⟩
    refine Abs.Next.mk (k+1) [0,1,2,3] (by omega) (by omega) ?_
    rw[hany]
    simp
    exact wrap_i64 (by omega) (by omega)
   ·simp only[Bool.not_false]at h
    rw[h,Bool.true_or]at hany
    refine⟨by decide,?_⟩
    refine Abs.Next.mk (k+1) [0,1,2,3] (by omega) (by omega) ?_
    rw[hany]
    simp
    exact wrap_i64 (by omega) (by omega)
  ·have hk:k=a.needs.length:=by simp at h;omega
   subst hk
   have hs:=ztt (a:=a) hj
   have hlen:=zu8 a b j
   simp
   refine gd.mk (fun h=>?_) (fun h=>?_)
   ·have hf:(a.needs.any fun m=>decide (m.1=b.needs[j].1))=false:=by simpa using h
    rw[if_neg (by simp[hf])]at hs
    simp[encN,List.getElem?_eq_getElem hj]
    refine⟨by omega,by decide,?_⟩
    refine Abs.Next.mk (j+1) [0,1,2,4] (by omega) (by omega) ?_
    rw[hs]
    simp
    refine⟨wrap_i64 (by omega) (by omega),?_⟩
    rw[List.take_of_length_le (by simp)]
    try simp[encN]
   ·have hf:(a.needs.any fun m=>decide (m.1=b.needs[j].1))=true:=by simpa using h
    rw[if_pos hf]at hs
    refine Abs.Next.mk (j+1) [0,1,2,3] (by omega) (by omega) ?_
    rw[hs]
    simp
    exact wrap_i64 (by omega) (by omega)
 ·have hj:j=b.needs.length:=by simp at h;omega
  subst hj
  exact hQ _ (by simp) (by simp) (by simp) (by simp)
def bzJ(V:ByteArray->Coe)(l:List ByteArray)(j:Nat):List (ByteArray × Coe):=busy ((l.take j).map fun k=>(k,V k))
theorem zw8{V:ByteArray->Coe}{l:List ByteArray}{j:Nat}(h:j<l.length):bzJ V l (j+1)=if zaM (V l[j]) idC=true then bzJ V l j else bzJ V l j++[(l[j],V l[j])]:=by
 unfold bzJ busy
 rw[List.take_succ_eq_append_getElem h,List.map_append,List.filter_append]
 by_cases q:zaM (V l[j]) idC=true
 ·rw[if_pos q];simp[q]
 ·rw[if_neg q];simp[q]
theorem zyX(V:ByteArray->Coe)(l:List ByteArray)(j:Nat):(bzJ V l j).length<=l.length:=by
 unfold bzJ busy
 refine Nat.le_trans (List.length_filter_le _ _) ?_
 rw[List.length_map,List.length_take];omega
abbrev boxF(A B:D)(n:Nat):Blk:=.box [.d A,.d B,.msl 1 4 0 n,.msl 5 5 0 n,.d (.sl true 5 [])]
abbrev arrS(L:List (ByteArray × Coe)):Blk:=.arr 1 ((encS (L.map (·.1))).map (·.map .d))
abbrev arrF(L:List (ByteArray × Coe)):Blk:=.arr 5 (((L.map (·.2)).map Coe.enc).map (·.map .d))
set_option maxRecDepth 20000 in
theorem rcm6{c:Ctx}(hp:c.pure){a b:Coe}(Ma:May a)(Mb:May b)(V:ByteArray->Coe)(l:List ByteArray)(hl:l.length<=1073741824)(sa:a.names.length<=536870912)(sb:b.names.length<=536870912)
  (H1:∀k,k∈l->PCall Pg 61 [.agg (za7 a k).enc,.agg (za7 b k).enc] (.agg (V k).enc))
  (T:List Int) (hT:T.length=6) (B:D) {Q:Exit->St->Prop} {S:St} {g} {ms:List Nat}
  (h0:Match ms S ((11,.c (.d (.int .i64 0)))::(10,.c (.d (.sl false 1 (encS l))))::zfH a b) [box5,.dead,boxF (.sl false 1 (encI T)) B 0,.dead,.arr 1 [],.arr 5 []])
  (hQ:∀T' L,L=(if T.getD 4 0=0 then bzJ V l l.length else [])->Abs.look T' 2=.c (.d (.rp a.enc 0))->Abs.look T' 3=.c (.d (.rp b.enc 0))->Abs.look T' 4=.c (.ptr 0 0)->Abs.look T' 5=.c (.ptr 2 0)->
   Q (.exit 6) ⟨T',hpOf [box5,.dead,boxF (.sl false 1 (encI T)) B L.length,.dead,arrS L,arrF L],6⟩):lw_ Pg c zcy Q g S:=by
 have hT4:T[4]?=some (T.getD 4 0):=zkk hT (by omega)
 have hb0:bzJ V l 0=[]:=by simp[bzJ,busy]
 generalize T.getD 4 0=t4 at*
 by_cases q4:t4=0
 rotate_left
 ·rw[if_neg q4]at hQ
  refine W.loop zab hp (fun j:Nat=>j=0) (fun j=>(11,.c (.d (.int .i64 0)))::(10,.c (.d (.sl false 1 (encS l))))::zfH a b) (fun _=>[box5,.dead,boxF (.sl false 1 (encI T)) B 0,.dead,.arr 1 [],.arr 5 []])
   (fun j=>0) 0 ms rfl h0 fun j h1=>?_
  unfold zcy
  simp
  refine gd.mk (fun h=>?_) (fun h=>?_)
  ·simp[hT4,q4]
   exact hQ _ [] rfl (by simp) (by simp) (by simp) (by simp)
  ·exact hQ _ [] rfl (by simp) (by simp) (by simp) (by simp)
 rw[if_pos q4]at hQ
 refine W.loop zab hp (fun j:Nat=>j<=l.length) (fun j=>(11,.c (.d (.int .i64 j)))::(10,.c (.d (.sl false 1 (encS l))))::zfH a b)
  (fun j=>[box5,.dead,boxF (.sl false 1 (encI T)) B (bzJ V l j).length,.dead,arrS (bzJ V l j),arrF (bzJ V l j)])
  (fun j=>l.length-j) 0 ms (by simp) (by simp only[hb0];exact h0) fun j h1=>?_
 unfold zcy
 simp
 refine gd.mk (fun h=>?_) (fun h=>?_)
 ·have hj:j<l.length:=by simpa using h
  have hs:=zw8 (V:=V) hj
  have hlen:=zyX V l j
  simp[hT4,q4,List.getElem?_eq_getElem hj]
  refine zac.mk (zol a l[j] Ma.len sa) ?_
  simp[List.getElem?_eq_getElem hj]
  refine zac.mk (zol b l[j] Mb.len sb) ?_
  simp[List.getElem?_eq_getElem hj]
  refine zac.mk (H1 l[j] (List.getElem_mem hj)) ?_
  simp
  generalize bzJ V l j=L at*
  by_cases q:zaM (V l[j]) idC=true
  ·rw[if_pos q]at hs
   have hr:=zyW (.sl false 1 (encI T)) B (.sl true 5 []) (L.map (·.1)) (L.map (·.2)) l[j] (V l[j]) q
   simp only[List.length_map]at hr
   refine zaa.mk [4,5] hr (by simp) ?_
   simp
   refine⟨by decide,owK.mk [] ?_⟩
   simp
   refine Abs.Next.mk (j+1) [0,1,2,3,4,5] (by omega) (by omega) ?_
   rw[hs]
   simp
   exact wrap_i64 (by omega) (by omega)
  ·rw[if_neg q]at hs
   have hr:=zw7 (.sl false 1 (encI T)) B (.sl true 5 []) (L.map (·.1)) (L.map (·.2)) l[j] (V l[j]) (by simpa using q) (by simp;omega) (by simp;omega)
   simp only[List.length_map]at hr
   refine zaa.mk [4,5] hr (by simp) ?_
   simp
   refine⟨by decide,owK.mk [] ?_⟩
   simp
   refine Abs.Next.mk (j+1) [0,1,2,3,6,7] (by omega) (by omega) ?_
   rw[hs]
   simp
   exact wrap_i64 (by omega) (by omega)
 ·have hj:j=l.length:=by simp at h;omega
  subst hj
  exact hQ _ _ rfl (by simp) (by simp) (by simp) (by simp)
structure RcH (v:Coe->Coe->Coe) (a b:Coe):Prop where
 Ma:May a
 Mb:May b
 v0:v idC idC=idC
 sa:Small1 536870912 a
 sb:Small1 536870912 b
 H1:∀k,k∈zd0 a b->PCall Pg 61 [.agg (za7 a k).enc,.agg (za7 b k).enc] (.agg (v (za7 a k) (za7 b k)).enc)
 H2:0<a.fn.length+b.fn.length->PCall Pg 61 [.agg (pairC b).1.enc,.agg (pairC a).1.enc] (.agg (v (pairC b).1 (pairC a).1).enc)
 H3:0<a.fn.length+b.fn.length->PCall Pg 61 [.agg (pairC a).2.enc,.agg (pairC b).2.enc] (.agg (v (pairC a).2 (pairC b).2).enc)
theorem zw9{v:Coe->Coe->Coe}{a b:Coe}(H:RcH v a b):(nodeC v a b).fn=if tagZ (nodeC v a b) 5=0/\0<a.fn.length+b.fn.length then funCZ (v (pairC b).1 (pairC a).1) (v (pairC a).2 (pairC b).2)else []:=by
 have h0:(nodeC v a b).fn=if tagZ (nodeC v a b) 5=0 then funCZ (v (pairC b).1 (pairC a).1) (v (pairC a).2 (pairC b).2)else []:=rfl
 rw[h0]
 by_cases q:tagZ (nodeC v a b) 5=0
 ·by_cases r:0<a.fn.length+b.fn.length
  ·rw[if_pos q,if_pos ⟨q,r⟩]
  ·have ea:a.fn=[]:=List.length_eq_zero_iff.1 (by omega)
   have eb:b.fn=[]:=List.length_eq_zero_iff.1 (by omega)
   have pa:pairC a=(idC,idC):=by unfold pairC;rw[ea]
   have pb:pairC b=(idC,idC):=by unfold pairC;rw[eb]
   rw[if_pos q,if_neg (fun h=>r h.2),pa,pb]
   unfold funCZ
   simp[H.v0,sameC_rfl]
 ·rw[if_neg q,if_neg (fun h=>q h.1)]
set_option maxRecDepth 20000 in
set_option maxHeartbeats 1000000 in
theorem zi4{v:Coe->Coe->Coe}{a b:Coe}(H:RcH v a b):PCall Pg 61 [.agg a.enc,.agg b.enc] (.agg (nodeC v a b).enc):=by
 have Ma:=H.Ma
 have Mb:=H.Mb
 have sa:=H.sa
 have sb:=H.sb
 refine znJ (by simp) fun o c hN hp=>?_
 have hL:(zbc a.tags b.tags).length=6:=zjO Ma.tags Mb.tags
 have hc5:(zbc a.tags b.tags)[5]?=some (tagZ (nodeC v a b) 5):=zkk hL (by omega)
 have hc4:(zbc a.tags b.tags).getD 4 0=tagZ (nodeC v a b) 4:=rfl
 have hE:(nodeC v a b).enc=[.sl false 1 (encI (zbc a.tags b.tags)),.sl false 2 (encN (nodeC v a b).needs),.sl false 1 (encS (nodeC v a b).names),.sl false 5 ((nodeC v a b).fields.map Coe.enc),.sl false 5 ((nodeC v a b).fn.map Coe.enc)]:=Coe.enc_eq _
 have hneeds:(nodeC v a b).needs=zcO a b:=rfl
 have hnames:(nodeC v a b).names=(if tagZ (nodeC v a b) 4=0 then fsC v a b else []).map (·.1):=by
  have:(nodeC v a b).names=if tagZ (nodeC v a b) 4=0 then(fsC v a b).map (·.1)else []:=rfl
  rw[this];split<;>rfl
 have hfields:(nodeC v a b).fields=(if tagZ (nodeC v a b) 4=0 then fsC v a b else []).map (·.2):=by
  have:(nodeC v a b).fields=if tagZ (nodeC v a b) 4=0 then(fsC v a b).map (·.2)else []:=rfl
  rw[this];split<;>rfl
 have hfn:=zw9 H
 rw[hE,hneeds,hnames,hfields,hfn]
 clear hE hneeds hnames hfields hfn
 have hfs:fsC v a b=bzJ (fun k=>v (za7 a k) (za7 b k)) (zd0 a b) (zd0 a b).length:=by unfold bzJ fsC;rw[List.take_length]
 generalize hL0:(if tagZ (nodeC v a b) 4=0 then fsC v a b else [])=L0
 generalize hG:(if tagZ (nodeC v a b) 5=0/\0<a.fn.length+b.fn.length then funCZ (v (pairC b).1 (pairC a).1) (v (pairC a).2 (pairC b).2)else [])=G
 have h6:6<=(zbc a.tags b.tags).length:=by omega
 have han:a.needs.length<=536870912:=sa.needs
 have hbn:b.needs.length<=536870912:=sb.needs
 have hfl:a.fn.length<=2/\b.fn.length<=2:=⟨by have:=Ma.fn_len;omega,by have:=Mb.fn_len;omega⟩
 have hal:a.names.length<=536870912:=by have:=sa.fields;have:=Ma.len;omega
 have hbl:b.names.length<=536870912:=by have:=sb.fields;have:=Mb.len;omega
 have hkl:=zod a b
 unfold zgY
 simp
 refine zaa.mk [] rIdM (by simp) ?_
 simp
 refine rcm0 hp Ma Mb (by simp) fun S0 e2 e3 e4 e5=>?_
 generalize zbc a.tags b.tags=T at*
 have htk:(encI T).take 6=encI T:=List.take_of_length_le (by simp[hL])
 simp
 refine owK.mk [.c 2 1] ?_
 simp only[zyn,zea]
 simp only[zfc,zfb,List.getElem?_cons_zero,List.getElem?_cons_succ]
 refine⟨by simp,?_⟩
 refine St.forget (F:=w_ Pg c _ _ _) (fun T' M=>Abs.look T' 2=.c (.d (.rp a.enc 0))/\Abs.look T' 3=.c (.d (.rp b.enc 0))/\Abs.look T' 4=.c (.ptr 0 0)/\Abs.look T' 5=.c (.ptr 2 0)/\
  M 0=box5/\M 1=.arr 1 ((encI T).map (·.map .d))/\M 2=boxN 0/\M 3=.arr 2 []/\∀i,4<=i->M i=.non) ?_ fun T' M ⟨e2,e3,e4,e5,m0,m1,m2,m3,mn⟩=>?_
 ·refine⟨e2,e3,e4,e5,by simp,by simp,by simp,by simp,fun i hi=>?_⟩
  have h1:i≠2:=by omega
  have h2:i≠3:=by omega
  simp only[zfa,if_neg h1,if_neg h2]
  exact zbe (by simp;omega)
 simp[e2,e3,e4,e5,m0,m1,m2,m3,mn]
 refine⟨by omega,?_⟩
 clear mn
 refine rcm2 hp Ma Mb T han hbn (ms:=[0,1,2,4]) (by simp[e2,e3,e4,e5,m0,m1,m2,m3]) fun S1 e2 e3 e4 e5=>?_
 clear m0 m1 m2 m3
 generalize zcO a b=Nd at*
 have hNd:(encN Nd).take Nd.length=encN Nd:=List.take_of_length_le (by simp)
 simp
 refine fzK.mk [1,3] ?_
 simp only[zd8,zfa,if_pos,if_neg,reduceIte,Nat.reduceEqDiff,zcJ,zb8,Blk.fz_arr,zcP,zeS,zfc,zfb]
 refine St.forget (F:=w_ Pg c _ _ _) (fun T' M=>Abs.look T' 2=.c (.d (.rp a.enc 0))/\Abs.look T' 3=.c (.d (.rp b.enc 0))/\Abs.look T' 4=.c (.ptr 0 0)/\Abs.look T' 5=.c (.ptr 2 0)/\
  M 0=box5/\M 1=.dead/\M 2=.box [.d (.sl false 1 (encI T)),.d (.sl false 2 (encN Nd)),.d (.sl true 1 []),.d (.sl true 5 []),.d (.sl true 5 [])]/\M 3=.dead/\∀i,4<=i->M i=.non) ?_ fun T' M ⟨e2,e3,e4,e5,m0,m1,m2,m3,mn⟩=>?_
 ·refine⟨?_,?_,?_,?_,?_,?_,?_,?_,fun i hi=>?_⟩
  ·simp only[zak,zcI,if_neg,reduceIte,Nat.reduceEqDiff,e2,AV.fz_c,AC.fz_d]
  ·simp only[zak,zcI,if_neg,reduceIte,Nat.reduceEqDiff,e3,AV.fz_c,AC.fz_d]
  ·simp only[zak,zcI,if_neg,reduceIte,Nat.reduceEqDiff,e4,AV.fz_c,AC.fz_ptr]
  ·simp only[zak,zcI,if_neg,reduceIte,Nat.reduceEqDiff,e5,AV.fz_c,AC.fz_ptr]
  ·simp[zb8]
  ·simp[zb8]
  ·simp[zb8,h6,htk,hNd]
  ·simp[zb8]
  ·have h1:i≠1:=by omega
   have h3:i≠3:=by omega
   simp[zb8,h1,h3]
   rw[zbe (by simp;omega)];try rfl
 simp[e2,e3,e4,e5,m0,m1,m2,m3,mn]
 refine zac.mk (zu7 a.names b.names Ma.names Mb.names hal hbl) ?_
 have hku:zeW (a.names++b.names.filter fun k=> !decide (k∈a.names))=zd0 a b:=rfl
 rw[hku]
 have H1:=H.H1
 clear hku
 generalize zd0 a b=K at*
 simp[e2,e3,e4,e5,m0,m1,m2,m3,mn]
 refine owK.mk [.c 2 2,.c 2 3] ?_
 simp[e2,e3,e4,e5,m0,m1,m2,m3,mn]
 refine rcm6 hp Ma Mb (fun k=>v (za7 a k) (za7 b k)) K (by omega) hal hbl H1 T hL (.sl false 2 (encN Nd)) (ms:=[0,1,2,3,4,5]) (by simp[e2,e3,e4,e5,m0,m1,m2,m3]) fun S2 L hL2 e2 e3 e4 e5=>?_
 clear m0 m1 m2 m3 mn
 rw[hc4,<-hfs,hL0]at hL2
 subst hL2
 clear hL0 hfs
 have ht1:(encS (L.map (·.1))).take L.length=encS (L.map (·.1)):=List.take_of_length_le (by simp)
 have ht2:((L.map (·.2)).map Coe.enc).take L.length=(L.map (·.2)).map Coe.enc:=List.take_of_length_le (by simp)
 simp
 refine fzK.mk [4,5] ?_
 simp only[zd8,zfa,if_pos,if_neg,reduceIte,Nat.reduceEqDiff,zcJ,zb8,Blk.fz_arr,zcP,zeS,zfc,zfb]
 refine St.forget (F:=w_ Pg c _ _ _) (fun T' M=>Abs.look T' 2=.c (.d (.rp a.enc 0))/\Abs.look T' 3=.c (.d (.rp b.enc 0))/\Abs.look T' 4=.c (.ptr 0 0)/\Abs.look T' 5=.c (.ptr 2 0)/\
  M 0=box5/\M 2=.box [.d (.sl false 1 (encI T)),.d (.sl false 2 (encN Nd)),.d (.sl false 1 (encS (L.map (·.1)))),.d (.sl false 5 ((L.map (·.2)).map Coe.enc)),.d (.sl true 5 [])]/\∀i,6<=i->M i=.non) ?_ fun T' M ⟨e2,e3,e4,e5,m0,m2,mn⟩=>?_
 ·refine⟨?_,?_,?_,?_,?_,?_,fun i hi=>?_⟩
  ·simp only[zak,zcI,if_neg,reduceIte,Nat.reduceEqDiff,e2,AV.fz_c,AC.fz_d]
  ·simp only[zak,zcI,if_neg,reduceIte,Nat.reduceEqDiff,e3,AV.fz_c,AC.fz_d]
  ·simp only[zak,zcI,if_neg,reduceIte,Nat.reduceEqDiff,e4,AV.fz_c,AC.fz_ptr]
  ·simp only[zak,zcI,if_neg,reduceIte,Nat.reduceEqDiff,e5,AV.fz_c,AC.fz_ptr]
  ·simp[zb8]
  ·simp only[List.map_map]at ht2
   simp[zb8,ht1,ht2]
  ·have h1:i≠4:=by omega
   have h3:i≠5:=by omega
   simp[zb8,h1,h3]
   rw[zbe (by simp;omega)];try rfl
 generalize (L.map (·.2)).map Coe.enc=F5 at*
 generalize encS (L.map (·.1))=F4 at*
 have H2:=H.H2
 have H3:=H.H3
 generalize tagZ (nodeC v a b) 5=t5 at*
 have ha:(a.fn=[]/\pairC a=(idC,idC))\/∃x y,a.fn=[x,y]/\pairC a=(x,y):=by
  rcases Ma.fn with e|⟨f,g,e,_⟩
  ·exact .inl ⟨e,by unfold pairC;rw[e]⟩
  ·exact .inr ⟨f,g,e,by unfold pairC;rw[e]⟩
 have hb:(b.fn=[]/\pairC b=(idC,idC))\/∃x y,b.fn=[x,y]/\pairC b=(x,y):=by
  rcases Mb.fn with e|⟨f,g,e,_⟩
  ·exact .inl ⟨e,by unfold pairC;rw[e]⟩
  ·exact .inr ⟨f,g,e,by unfold pairC;rw[e]⟩
 by_cases q5:t5=0
 ·rcases ha with⟨ea,pa⟩|⟨x,y,ea,pa⟩<;>rcases hb with⟨eb,pb⟩|⟨x',y',eb,pb⟩
  ·have q:¬(t5=0/\0<a.fn.length+b.fn.length):=by simp[ea,eb]
   rw[if_neg q]at hG
   subst hG
   simp[hc5,e2,e3,e4,e5,m0,m2,mn,q5,ea,eb]
  ·have q:0<a.fn.length+b.fn.length:=by simp[ea,eb]
   have H2:=H2 q
   have H3:=H3 q
   rw[if_pos ⟨q5,q⟩]at hG
   rw[pa,pb]at H2 H3 hG
   simp only at H2 H3 hG
   subst hG
   simp[hc5,e2,e3,e4,e5,m0,m2,mn,q5,ea,eb]
   refine zac.mk zcr ?_
   simp
   refine zac.mk zcr ?_
   simp
   refine zac.mk zcr ?_
   simp
   refine zac.mk zcr ?_
   simp[e2,e3,e4,e5,m0,m2,mn,ea,eb]
   refine zac.mk H2 ?_
   simp[e2,e3,e4,e5,m0,m2,mn,ea,eb]
   refine zac.mk H3 ?_
   simp[e2,e3,e4,e5,m0,m2,mn,ea,eb]
   refine zac.mk (zik _ _) ?_
   simp[e2,e3,e4,e5,m0,m2,mn,ea,eb]
   decide
  ·have q:0<a.fn.length+b.fn.length:=by simp[ea,eb]
   have H2:=H2 q
   have H3:=H3 q
   rw[if_pos ⟨q5,q⟩]at hG
   rw[pa,pb]at H2 H3 hG
   simp only at H2 H3 hG
   subst hG
   simp[hc5,e2,e3,e4,e5,m0,m2,mn,q5,ea,eb]
   refine zac.mk zcr ?_
   simp
   refine zac.mk zcr ?_
   simp
   refine zac.mk zcr ?_
   simp
   refine zac.mk zcr ?_
   simp[e2,e3,e4,e5,m0,m2,mn,ea,eb]
   refine zac.mk H2 ?_
   simp[e2,e3,e4,e5,m0,m2,mn,ea,eb]
   refine zac.mk H3 ?_
   simp[e2,e3,e4,e5,m0,m2,mn,ea,eb]
   refine zac.mk (zik _ _) ?_
   simp[e2,e3,e4,e5,m0,m2,mn,ea,eb]
   decide
  ·have q:0<a.fn.length+b.fn.length:=by simp[ea,eb]
   have H2:=H2 q
   have H3:=H3 q
   rw[if_pos ⟨q5,q⟩]at hG
   rw[pa,pb]at H2 H3 hG
   simp only at H2 H3 hG
   subst hG
   simp[hc5,e2,e3,e4,e5,m0,m2,mn,q5,ea,eb]
   refine zac.mk zcr ?_
   simp
   refine zac.mk zcr ?_
   simp
   refine zac.mk zcr ?_
   simp
   refine zac.mk zcr ?_
   simp[e2,e3,e4,e5,m0,m2,mn,ea,eb]
   refine zac.mk H2 ?_
   simp[e2,e3,e4,e5,m0,m2,mn,ea,eb]
   refine zac.mk H3 ?_
   simp[e2,e3,e4,e5,m0,m2,mn,ea,eb]
   refine zac.mk (zik _ _) ?_
   simp[e2,e3,e4,e5,m0,m2,mn,ea,eb]
   decide
 ·simp[q5]at hG
  subst hG
  simp[hc5,e2,e3,e4,e5,m0,m2,mn,q5]
theorem zer:∀(n:Nat) {a b:Coe},inN n a->inN n b->mayC a=true->mayC b=true->smC 536870912 a->smC 536870912 b->PCall Pg 61 [.agg a.enc,.agg b.enc] (.agg (compN n a b).enc)
 | 0,a,b,ia,ib,ma,mb,sa,sb=>by
  have ea:a=idC:=ia
  have eb:b=idC:=ib
  have e:compN 0 a b=nodeC (compN 0) a b:=by rw[ea,eb];exact(znF 1).symm
  rw[e]
  refine zi4 ⟨(zbw _).1 ma,(zbw _).1 mb,rfl,zgO sa,zgO sb,fun k hk=>?_,fun h=>?_,fun h=>?_⟩
  ·rw[ea,eb]at hk
   rcases zvJ.1 hk with h|h<;>cases h
  ·rw[ea,eb]at h;simp[idC,Coe.fn]at h
  ·rw[ea,eb]at h;simp[idC,Coe.fn]at h
 |n+1,a,b,ia,ib,ma,mb,sa,sb=>by
  have Ma:=(zbw _).1 ma
  have Mb:=(zbw _).1 mb
  refine zi4 ⟨Ma,Mb,znF n,zgO sa,zgO sb,fun k _=>?_,fun _=>?_,fun _=>?_⟩
  ·exact zer n (zej ia Ma.len k) (zej ib Mb.len k) (Ma.field k) (Mb.field k) (zgN sa Ma.len k) (zgN sb Mb.len k)
  ·exact zer n (zbY ib).1 (zbY ia).1 Mb.pair.1 Ma.pair.1 (zdc sb).1 (zdc sa).1
  ·exact zer n (zbY ia).2 (zbY ib).2 Ma.pair.2 Mb.pair.2 (zdc sa).2 (zdc sb).2
theorem zrC(n:Nat){a b:Coe}(ia:inN n a)(ib:inN n b)(sa:smC 536870912 a)(sb:smC 536870912 b):PCall Pg 31 [.agg a.enc,.agg b.enc] (.agg (zpl n a b).enc):=by
 refine zpe (by simp) fun o c hN hp=>?_
 unfold mc_g10_Compose zpl
 simp
 refine zac.mk (znS a) ?_
 simp
 refine zac.mk (znS b) ?_
 simp
 by_cases h1:mayC a=true
 ·by_cases h2:mayC b=true
  ·simp[h1,h2]
   refine zac.mk (zer n ia ib h1 h2 sa sb) ?_
   simp[h1,h2]
  ·simp at h2
   simp[h1,h2,noCZ,Coe.enc,Coe.encs]
 ·simp at h1
  simp[h1,noCZ,Coe.enc,Coe.encs]
end Go.Gr
namespace Go.Gr
open Go.Abs Go.Proofs
abbrev coA(t n k f:Nat)(T:List Int)(C:Coe)(x:D):AV:=.ag [.msl 1 t 0 T.length,.msl 2 n 0 C.needs.length,.msl 1 k 0 C.names.length,.msl 5 f 0 C.fields.length,.d x]
abbrev tgA(T:List Int):Blk:=.arr 1 ((encI T).map (·.map .d))
abbrev ndA(C:Coe):Blk:=.arr 2 ((encN C.needs).map (·.map .d))
abbrev nmA(C:Coe):Blk:=.arr 1 ((encS C.names).map (·.map .d))
abbrev fdA(C:Coe):Blk:=.arr 5 ((C.fields.map Coe.enc).map (·.map .d))
def putR(C:Coe)(k:ByteArray)(d:Coe):Coe:=if zaM d idC=true then C else .mk C.tags C.needs (C.names++[k]) (C.fields++[d]) C.fn
theorem zz7{ts:List (Nat × Nat)}{a b c d:Blk}(h:ts.length=[a,b,c,d].length):∃t u v w,ts=[t,u,v,w]:=by
 match ts,h with
 |[t,u,v,w],_=>exact⟨t,u,v,w,rfl⟩
theorem zpo(T:List Int)(C:Coe)(x:D)(k:ByteArray)(d:Coe)(h1:C.names.length<=1073741824)(h2:C.fields.length<=1073741824):
  MCall Pg 97 [coA 0 1 2 3 T C x,.c (.d (.str k)),.ag (d.enc.map .d)] [tgA T,ndA C,nmA C,fdA C]
   (coA 0 1 4 5 T (putR C k d) x) [tgA T,ndA (putR C k d),.dead,.dead,nmA (putR C k d),fdA (putR C k d)]:=by
 refine ziF ⟨by simp,by simp,by simp,by simp,by simp,by simp[live],by simp[live]⟩ fun ts hts ok hb c hN hp=>?_
 obtain⟨t,u,v,w,rfl⟩:=zz7 hts
 unfold mc_g10_put putR
 simp
 refine zac.mk (zdH d) ?_
 simp
 by_cases hd:zaM d idC=true
 ·simp[hd]
  exact EndM.mk [0,1,8,9,2,3] [4,5,4,4] (by simp)
 ·simp[hd]
  refine⟨by omega,by omega,EndM.mk [0,1,2,3,10,11] [4,5,4,4] ?_⟩
  simp[encS,Coe.needs,Coe.names,Coe.fields,Coe.tags,Coe.fn]
  exact⟨List.take_of_length_le (by simp),List.take_of_length_le (by simp)⟩
theorem ziI(C:Coe)(k:ByteArray)(d:Coe):(putR C k d).names.length<=C.names.length+1/\(putR C k d).fields.length<=C.fields.length+1/\(putR C k d).needs=C.needs/\(putR C k d).fn=C.fn:=by
 unfold putR
 split
 ·exact⟨by omega,by omega,rfl,rfl⟩
 ·exact⟨by simp[Coe.names],by simp[Coe.fields],rfl,rfl⟩
def zbt(C:Coe)(k:ByteArray)(lb:Int):Coe:=.mk C.tags (C.needs++[(k,lb)]) C.names C.fields C.fn
def mkA(v:Typ->Typ->Int->Coe)(lb:Int):List ByteArray->List Typ->Coe->Coe
 |k::ks,t::ts,C=>mkA v lb ks ts (putR C k (v t noT lb))
 |_,_,C=>C
def mkB(v:Typ->Typ->Int->Coe)(m:Prt)(lb:Int):List ByteArray->List Typ->Coe->Coe
 |k::ks,t::ts,C=>
  let c1:=if(zaz m.t k).2=false then zbt C k lb else C
  mkB v m lb ks ts (if(zaz m.t k).2=true\/m.opn=true then putR c1 k (v (zaz m.t k).1 t lb)else c1)
 |_,_,C=>C
def mkR(v:Typ->Typ->Int->Coe)(m n:Prt)(lb:Int)(C:Coe):Coe:=
 if n.opn=true then(if m.opn=true then C else mkA v lb m.t.names m.t.kids C)else mkB v m lb n.t.names n.t.kids C
@[simp] theorem Prt.gt0(p:Prt)(h:0<p.enc.length):p.enc[0]=.int .i64 p.tag:=rfl
@[simp] theorem Prt.gt1(p:Prt)(h:1<p.enc.length):p.enc[1]=.bool p.opn:=rfl
def zcQ(T:List Int)(x:List Coe):Coe:=.mk T [] [] [] x
abbrev zg1:Blk:=.box [.d (.sl true 1 []),.d (.sl true 2 []),.d (.sl true 1 []),.d (.sl true 5 []),.d (.sl true 5 [])]
abbrev coB(T:List Int)(C:Coe)(x:D):Blk:=.box [.msl 1 0 0 T.length,.msl 2 4 0 C.needs.length,.msl 1 5 0 C.names.length,.msl 5 6 0 C.fields.length,.d x]
@[simp] theorem zdz(C:Coe)(k:ByteArray)(lb:Int):(zbt C k lb).needs=C.needs++[(k,lb)]:=rfl
@[simp] theorem znO(C:Coe)(k:ByteArray)(lb:Int):(zbt C k lb).names=C.names:=rfl
@[simp] theorem znP(C:Coe)(k:ByteArray)(lb:Int):(zbt C k lb).fields=C.fields:=rfl
theorem ndN(a:List (ByteArray × Int))(k:ByteArray)(lb:Int):encN (a++[(k,lb)])=encN a++[[.str k,.int .i64 lb]]:=by simp[encN]
theorem take1(l:List ByteArray):(encS l).take l.length=encS l:=List.take_of_length_le (by simp[encS])
theorem take2(l:List (ByteArray × Int)):(encN l).take l.length=encN l:=List.take_of_length_le (by simp[encN])
theorem zm7(l:List (ByteArray × Int)):((encN l).map fun x=>x.map AC.d).take l.length=(encN l).map fun x=>x.map AC.d:=List.take_of_length_le (by simp[encN])
theorem zup(l:List Coe):(l.map Coe.enc).take l.length=l.map Coe.enc:=List.take_of_length_le (by simp)
theorem zx6{v:Typ->Typ->Int->Coe}{lb:Int}{ns:List ByteArray}{ks:List Typ}{j:Nat}(h1:j<ns.length)(h2:j<ks.length)(C:Coe):mkA v lb (ns.drop j) (ks.drop j) C=mkA v lb (ns.drop (j+1)) (ks.drop (j+1)) (putR C ns[j] (v ks[j] noT lb)):=by
 rw[List.drop_eq_getElem_cons h1,List.drop_eq_getElem_cons h2,mkA]
theorem zx7{v:Typ->Typ->Int->Coe}{m:Prt}{lb:Int}{ns:List ByteArray}{ks:List Typ}{j:Nat}(h1:j<ns.length)(h2:j<ks.length)(C:Coe):mkB v m lb (ns.drop j) (ks.drop j) C=mkB v m lb (ns.drop (j+1)) (ks.drop (j+1)) (if(zaz m.t ns[j]).2=true\/m.opn=true then putR (if(zaz m.t ns[j]).2=false then zbt C ns[j] lb else C) ns[j] (v (zaz m.t ns[j]).1 ks[j] lb)else(if(zaz m.t ns[j]).2=false then zbt C ns[j] lb else C)):=by
 rw[List.drop_eq_getElem_cons h1,List.drop_eq_getElem_cons h2,mkB]
set_option maxRecDepth 20000 in
set_option maxHeartbeats 2000000 in
theorem zuq(v:Typ->Typ->Int->Coe)(m n:Prt)(lb:Int)(T:List Int)(x:D)(hm:m.t.names.length<=m.t.kids.length)(hn:n.t.names.length<=n.t.kids.length)(sm:m.t.kids.length<=1000)(sn:n.t.kids.length<=1000)
  (hA:∀a,a∈m.t.kids->PCall Pg 59 [.agg a.enc,.agg noT.enc,.one (.int .i64 lb)] (.agg (v a noT lb).enc))
  (hB:∀k a,a∈n.t.kids->PCall Pg 59 [.agg (zaz m.t k).1.enc,.agg a.enc,.one (.int .i64 lb)] (.agg (v (zaz m.t k).1 a lb).enc)) (X:List Coe):
  MCall Pg 94 [.ag [.msl 1 0 0 T.length,.d (.sl true 2 []),.d (.sl true 1 []),.d (.sl true 5 []),.d x],.ag (m.enc.map .d),.ag (n.enc.map .d),.c (.d (.int .i64 lb))] [tgA T]
   (.ag [.msl 1 0 0 T.length,.d (.sl false 2 (encN (mkR v m n lb (zcQ T X)).needs)),.d (.sl false 1 (encS (mkR v m n lb (zcQ T X)).names)),.d (.sl false 5 ((mkR v m n lb (zcQ T X)).fields.map Coe.enc)),.d x]) [tgA T]:=by
 refine zpd ⟨by simp,by simp,by simp,by simp,by simp,by simp[live],by simp[live]⟩ fun ts hts ok hb c hN hp=>?_
 obtain⟨t,rfl⟩:=zaR hts
 obtain⟨R,hR⟩:∃R,mkR v m n lb (zcQ T X)=R:=⟨_,rfl⟩
 rw[hR]
 unfold mkR at hR
 unfold zi7
 simp
 refine owK.mk [.c 2 1,.c 2 2,.c 2 3] ?_
 simp only[zyn,zea]
 simp
 refine gd.mk (fun h=>?_) (fun h=>?_)
 ·rw [if_pos h]at hR
  refine W.loop zab hp (fun Y:Nat × Coe=>Y.1<=m.t.names.length/\(if m.opn=true then Y.2 else mkA v lb (m.t.names.drop Y.1) (m.t.kids.drop Y.1) Y.2)=R/\Y.2.names.length<=Y.1/\Y.2.fields.length<=Y.1) (fun Y=>[(9,.c (.d (.int .i64 Y.1))),(8,.c (.ptr 3 0)),(5,.c (.d (.rp m.enc 0))),(4,.c (.ptr 2 0)),(3,.c (.d (.int .i64 lb)))]) (fun Y=>[tgA T,.pin t 0,coB T Y.2 x,zg1,ndA Y.2,nmA Y.2,fdA Y.2]) (fun Y=>m.t.names.length-Y.1) (0,zcQ T X) [0,1,2,3,4,5,6] ⟨by simp,by simpa using hR,by simp[zcQ,Coe.names],by simp[zcQ,Coe.fields]⟩ (by simp[zcQ,Coe.names,Coe.fields,Coe.needs,encN,encS]) fun⟨j,C⟩ ⟨i1,i2,i3,i4⟩=>?_
  unfold lp_g10_record_0
  simp only at i1 i2 i3 i4
  by_cases hj:j<m.t.names.length
  ·by_cases ho:m.opn=true
   ·rw[if_pos ho]at i2
    subst i2
    simp[encS,hj,ho]
    refine fzK.mk [4,5,6] ?_
    simp[zbb,allD,coB]
    exact EndM.mk [0] [1] (by simp[take1,take2,zup];rfl)
   ·rw[if_neg ho]at i2
    have hj2:j<m.t.kids.length:=by omega
    simp[encS,hj,ho,List.getElem?_eq_getElem hj2]
    refine zac.mk (PCall.erd (hA _ (List.getElem_mem hj2)) (by simp[noT,DV.erds,DV.erd,D.erd,Typ.enc,Typ.encs])) ?_
    simp
    refine zaa.mk [0,4,5,6] (zpo T C x m.t.names[j] (v m.t.kids[j] noT lb) (by omega) (by omega)) (by simp) ?_
    simp
    refine⟨by decide,?_⟩
    have pl:=ziI C m.t.names[j] (v m.t.kids[j] noT lb)
    refine Abs.Next.mk (j+1,putR C m.t.names[j] (v m.t.kids[j] noT lb)) [0,1,2,3,4,7,8] ⟨by simp;omega,?_,by simp;omega,by simp;omega⟩ (by simp;omega) ?_
    ·simp only[if_neg ho]
     rw[<-i2,zx6 hj hj2]
    ·simp
     exact wrap_i64 (by omega) (by omega)
  ·have ej:j=m.t.names.length:=by omega
   subst ej
   have i2':C=R:=by
    rw[List.drop_length]at i2
    revert i2
    split<;>simp[mkA]
   subst i2'
   simp[encS]
   refine fzK.mk [4,5,6] ?_
   simp[zbb,allD,coB]
   exact EndM.mk [0] [1] (by simp[take1,take2,zup];rfl)
 ·rw[if_neg (by simp[h])]at hR
  refine W.loop zab hp (fun Y:Nat × Coe=>Y.1<=n.t.names.length/\mkB v m lb (n.t.names.drop Y.1) (n.t.kids.drop Y.1) Y.2=R/\Y.2.names.length<=Y.1/\Y.2.fields.length<=Y.1/\Y.2.needs.length<=Y.1) (fun Y=>[(10,.c (.d (.int .i64 Y.1))),(8,.c (.ptr 3 0)),(6,.c (.d (.rp n.enc 0))),(5,.c (.d (.rp m.enc 0))),(4,.c (.ptr 2 0)),(3,.c (.d (.int .i64 lb)))]) (fun Y=>[tgA T,.pin t 0,coB T Y.2 x,zg1,ndA Y.2,nmA Y.2,fdA Y.2]) (fun Y=>n.t.names.length-Y.1) (0,zcQ T X) [0,1,2,3,4,5,6] ⟨by simp,by simpa using hR,by simp[zcQ,Coe.names],by simp[zcQ,Coe.fields],by simp[zcQ,Coe.needs]⟩ (by simp[zcQ,Coe.names,Coe.fields,Coe.needs,encN,encS]) fun⟨j,C⟩ ⟨i1,i2,i3,i4,i5⟩=>?_
  unfold zgX
  simp only at i1 i2 i3 i4 i5
  by_cases hj:j<n.t.names.length
  ·have hj2:j<n.t.kids.length:=by omega
   simp[encS,hj]
   refine zac.mk (zly m.t n.t.names[j] hm) ?_
   simp
   have hB':=hB n.t.names[j] _ (List.getElem_mem hj2)
   have hd:=zx7 (v:=v) (m:=m) (lb:=lb) hj hj2 C
   cases hF:(zaz m.t n.t.names[j]).2<;>cases ho:m.opn<;>simp[hF,ho]at hd<;>simp[List.getElem?_eq_getElem hj,List.getElem?_eq_getElem hj2,put,splice,allD,zbb]
   ·refine⟨by decide,by omega,by decide,?_⟩
    refine Abs.Next.mk (j+1,zbt C n.t.names[j] lb) [0,1,2,3,8,5,6] ⟨by simp;omega,by rw[<-i2,hd],by simp;omega,by simp;omega,by simp;omega⟩ (by simp;omega) ?_
    simp[ndN,zm7]
    exact wrap_i64 (by omega) (by omega)
   ·refine⟨by decide,by omega,by decide,?_⟩
    refine zac.mk hB' ?_
    simp
    refine zaa.mk [0,8,5,6] (zpo T (zbt C n.t.names[j] lb) x n.t.names[j] (v (zaz m.t n.t.names[j]).1 n.t.kids[j] lb) (by show C.names.length<=_;omega) (by show C.fields.length<=_;omega)) (by simp[ndN,zm7]) ?_
    simp
    refine⟨by decide,?_⟩
    have pl:=ziI (zbt C n.t.names[j] lb) n.t.names[j] (v (zaz m.t n.t.names[j]).1 n.t.kids[j] lb)
    try simp only[zdz,znO,znP]at pl
    refine Abs.Next.mk (j+1,putR (zbt C n.t.names[j] lb) n.t.names[j] (v (zaz m.t n.t.names[j]).1 n.t.kids[j] lb)) [0,1,2,3,8,9,10] ⟨by simp;omega,by rw[<-i2,hd],by simp;omega,by simp;omega,by simp[pl];omega⟩ (by simp;omega) ?_
    simp
    exact wrap_i64 (by omega) (by omega)
   ·refine⟨by decide,?_⟩
    refine zac.mk hB' ?_
    simp
    refine zaa.mk [0,4,5,6] (zpo T C x n.t.names[j] (v (zaz m.t n.t.names[j]).1 n.t.kids[j] lb) (by show C.names.length<=_;omega) (by show C.fields.length<=_;omega)) (by simp[ndN,zm7]) ?_
    simp
    refine⟨by decide,?_⟩
    have pl:=ziI C n.t.names[j] (v (zaz m.t n.t.names[j]).1 n.t.kids[j] lb)
    try simp only[zdz,znO,znP]at pl
    refine Abs.Next.mk (j+1,putR C n.t.names[j] (v (zaz m.t n.t.names[j]).1 n.t.kids[j] lb)) [0,1,2,3,4,8,9] ⟨by simp;omega,by rw[<-i2,hd],by simp;omega,by simp;omega,by simp[pl];omega⟩ (by simp;omega) ?_
    simp
    exact wrap_i64 (by omega) (by omega)
   ·refine⟨by decide,?_⟩
    refine zac.mk hB' ?_
    simp
    refine zaa.mk [0,4,5,6] (zpo T C x n.t.names[j] (v (zaz m.t n.t.names[j]).1 n.t.kids[j] lb) (by show C.names.length<=_;omega) (by show C.fields.length<=_;omega)) (by simp[ndN,zm7]) ?_
    simp
    refine⟨by decide,?_⟩
    have pl:=ziI C n.t.names[j] (v (zaz m.t n.t.names[j]).1 n.t.kids[j] lb)
    try simp only[zdz,znO,znP]at pl
    refine Abs.Next.mk (j+1,putR C n.t.names[j] (v (zaz m.t n.t.names[j]).1 n.t.kids[j] lb)) [0,1,2,3,4,8,9] ⟨by simp;omega,by rw[<-i2,hd],by simp;omega,by simp;omega,by simp[pl];omega⟩ (by simp;omega) ?_
    simp
    exact wrap_i64 (by omega) (by omega)
  ·have ej:j=n.t.names.length:=by omega
   subst ej
   have i2':C=R:=by
    rw[List.drop_length]at i2
    revert i2
    simp[mkB]
   subst i2'
   simp[encS]
   refine fzK.mk [4,5,6] ?_
   simp[zbb,allD,coB]
   exact EndM.mk [0] [1] (by simp[take1,take2,zup];rfl)
end Go.Gr
namespace Go.Gr
open Go.Abs Go.Proofs
def flp(x:Int):Int:=if x%2=0 then x+1 else x-1
theorem zy6(n:Nat):((n^^^1:Nat):Int)=flp n:=by
 have h1:(n^^^1)/2=n/2:=by rw[Nat.xor_div_two];simp
 have h2:(n^^^1)%2=(n+1)%2:=by
  have:=Nat.xor_mod_two_pow (a:=n) (b:=1) (n:=1)
  simp only[Nat.pow_one]at this
  rw[this]
  have h:n%2=0\/n%2=1:=by omega
  rcases h with h|h<;>rw[h]<;>simp<;>omega
 unfold flp
 split<;>omega
theorem zsI{lb:Int}(h0:0<=lb)(h1:lb<=9223372036854775807):IntKind.i64.wrap (((lb%2^IntKind.i64.bits).toNat^^^1%2^IntKind.i64.bits:Nat):Int)=flp lb:=by
 obtain⟨n,rfl⟩:∃n:Nat,lb=n:=⟨lb.toNat,by omega⟩
 have e1:(((n:Int)%2^IntKind.i64.bits).toNat)=n:=by
  show((n:Int)%18446744073709551616).toNat=n
  omega
 have e2:1%2^IntKind.i64.bits=1:=rfl
 rw[e1,e2,zy6]
 have h2:flp (n:Int)<=9223372036854775807/\0<=flp (n:Int):=by unfold flp;split<;>omega
 exact wrap_i64 (by omega) (by omega)
def setT(C:Coe)(i:Nat)(x:Int):Coe:=.mk (C.tags.set i x) C.needs C.names C.fields C.fn
def setG(C:Coe)(g:List Coe):Coe:=.mk C.tags C.needs C.names C.fields g
def zdr(v:Typ->Typ->Int->Coe)(R:List Prt)(lb:Int)(m:Prt)(C:Coe):Coe:=
 if(partR R m.tag).2=false then setT C m.tag.toNat lb
 else if m.tag=5 then setG C (funCZ (v (kid0 (partR R 5).1.t) (kid0 m.t) (flp lb)) (v (kid1 m.t) (kid1 (partR R 5).1.t) lb))
 else if m.tag=4 then mkR v m (partR R 4).1 lb C else C
def zci(v:Typ->Typ->Int->Coe)(R:List Prt)(lb:Int):List Prt->Coe->Coe
 |[],C=>C
 |m::l,C=>zci v R lb l (zdr v R lb m C)
def zc6:Nat->Typ->Typ->Int->Coe
 |0,_,_,_=>idC
 |n+1,a,b,lb=>if a.kind=0/\b.kind=0 then idC else zci (zc6 n) (zaH b) lb (zaH a) idC
theorem ztT{R:List Prt}{tag:Int}{k:Nat}(h:(R.drop k).find? (fun p=>decide (p.tag=tag))=R.find? fun p=>decide (p.tag=tag)):
  (∀hk:k<R.length,R[k].tag=tag->partR R tag=(R[k],true))/\(∀hk:k<R.length,R[k].tag≠tag->(R.drop (k+1)).find? (fun p=>decide (p.tag=tag))=R.find? fun p=>decide (p.tag=tag))/\(k=R.length->partR R tag=(noP,false)):=by
 refine⟨fun hk e=>?_,fun hk e=>?_,fun e=>?_⟩
 ·rw[List.drop_eq_getElem_cons hk,List.find?_cons]at h
  simp only[e,decide_true]at h
  unfold partR;rw[<-h]
 ·rw[List.drop_eq_getElem_cons hk,List.find?_cons]at h
  simpa only[e,decide_false]using h
 ·subst e
  rw[List.drop_length,List.find?_nil]at h
  unfold partR;rw[<-h]
theorem zoH(C:Coe)(k:ByteArray)(d:Coe):(putR C k d).tags=C.tags/\(putR C k d).fn=C.fn:=by
 unfold putR
 split<;>exact⟨rfl,rfl⟩
theorem zqC(v:Typ->Typ->Int->Coe)(lb:Int):∀(ns:List ByteArray) (ks:List Typ) (C:Coe),(mkA v lb ns ks C).tags=C.tags/\(mkA v lb ns ks C).fn=C.fn
 |[],_,C=>by rw[mkA];exact⟨rfl,rfl⟩;intros;contradiction
 |_::_,[],C=>by rw[mkA];exact⟨rfl,rfl⟩;intros;contradiction
 |n::ns,k::ks,C=>by
  rw[mkA]
  have h:=zqC v lb ns ks (putR C n (v k noT lb))
  have h2:=zoH C n (v k noT lb)
  exact⟨h.1.trans h2.1,h.2.trans h2.2⟩
theorem zqD(v:Typ->Typ->Int->Coe)(m:Prt)(lb:Int):∀(ns:List ByteArray) (ks:List Typ) (C:Coe),(mkB v m lb ns ks C).tags=C.tags/\(mkB v m lb ns ks C).fn=C.fn
 |[],_,C=>by rw[mkB];exact⟨rfl,rfl⟩;intros;contradiction
 |_::_,[],C=>by rw[mkB];exact⟨rfl,rfl⟩;intros;contradiction
 | n::ns,k::ks,C=>by
  rw[mkB]
  have h1:(if(zaz m.t n).2=false then zbt C n lb else C).tags=C.tags/\(if(zaz m.t n).2=false then zbt C n lb else C).fn=C.fn:=by split<;>exact⟨rfl,rfl⟩
  generalize (if(zaz m.t n).2=false then zbt C n lb else C)=c1 at*
  have h:=zqD v m lb ns ks (if(zaz m.t n).2=true\/m.opn=true then putR c1 n (v (zaz m.t n).1 k lb)else c1)
  have h2:(if(zaz m.t n).2=true\/m.opn=true then putR c1 n (v (zaz m.t n).1 k lb)else c1).tags=c1.tags/\(if(zaz m.t n).2=true\/m.opn=true then putR c1 n (v (zaz m.t n).1 k lb)else c1).fn=c1.fn:=by
   split
   ·exact zoH _ _ _
   ·exact⟨rfl,rfl⟩
  exact⟨h.1.trans (h2.1.trans h1.1),h.2.trans (h2.2.trans h1.2)⟩
theorem zlH(v:Typ->Typ->Int->Coe)(m n:Prt)(lb:Int)(C:Coe):(mkR v m n lb C).tags=C.tags/\(mkR v m n lb C).fn=C.fn:=by
 unfold mkR
 split
 ·split
  ·exact⟨rfl,rfl⟩
  ·exact zqC v lb _ _ _
 ·exact zqD v m lb _ _ _
abbrev boxK(C:Coe)(r f:Bool):Blk:=.box [.msl 1 1 0 6,.d (.sl (!r) 2 (encN C.needs)),.d (.sl (!r) 1 (encS C.names)),.d (.sl (!r) 5 (C.fields.map Coe.enc)),.d (.sl f 5 (C.fn.map Coe.enc))]
abbrev boxM(p:Prt):Blk:=.box (p.enc.map .d)
abbrev mdT(L R:List Prt)(lb:Int)(i:Nat):List (Nat × AV):=[(10,.c (.d (.int .i64 i))),(9,.c (.d (.sl false 6 (R.map Prt.enc)))),(8,.c (.d (.sl false 6 (L.map Prt.enc)))),(7,.c (.ptr 2 0)),(6,.c (.ptr 0 0)),(2,.c (.d (.int .i64 lb)))]
set_option maxRecDepth 20000 in
theorem zxv{c:Ctx}(hp:c.pure)(L R:List Prt)(lb:Int)(i:Nat)(m:Prt)(T:List Int)(C:Coe)(r f:Bool)(hR:R.length<=1000){Q:Exit->St->Prop}{S:St}{g}{ms:List Nat}
  (h0:Match ms S ((12,.c (.d (.int .i64 0)))::(11,.c (.ptr 3 0))::mdT L R lb i) [zg1,tgA T,boxK C r f,boxM m])
  (hQ:∀k,k<=R.length->(∀hk:k<R.length,partR R m.tag=(R[k],true))->(k=R.length->partR R m.tag=(noP,false))->∀T',Abs.look T' 12=.c (.d (.int .i64 k))->Abs.look T' 11=.c (.ptr 3 0)->Abs.look T' 10=.c (.d (.int .i64 i))->Abs.look T' 9=.c (.d (.sl false 6 (R.map Prt.enc)))->Abs.look T' 8=.c (.d (.sl false 6 (L.map Prt.enc)))->Abs.look T' 7=.c (.ptr 2 0)->Abs.look T' 6=.c (.ptr 0 0)->Abs.look T' 2=.c (.d (.int .i64 lb))->Q (.exit 2) ⟨T',hpOf [zg1,tgA T,boxK C r f,boxM m],4⟩):lw_ Pg c lp_g10_made_2 Q g S:=by
 refine W.loop zab hp (fun k:Nat=>k<=R.length/\(R.drop k).find? (fun p=>decide (p.tag=m.tag))=R.find? fun p=>decide (p.tag=m.tag)) (fun k=>(12,.c (.d (.int .i64 k)))::(11,.c (.ptr 3 0))::mdT L R lb i) (fun _=>[zg1,tgA T,boxK C r f,boxM m]) (fun k=>R.length-k) 0 ms ⟨by simp,by simp⟩ h0 fun k ⟨h1,h2⟩=>?_
 obtain⟨d1,d2,d3⟩:=ztT h2
 unfold lp_g10_made_2
 by_cases hk:k<R.length
 ·by_cases e:R[k].tag=m.tag
  ·simp[hk,e]
   refine⟨by decide,hQ k h1 (fun hk=>d1 hk e) (fun q=>by omega) _ (by simp) (by simp) (by simp) (by simp) (by simp) (by simp) (by simp) (by simp)⟩
  ·simp[hk,e]
   refine⟨by decide,Abs.Next.mk (k+1) [0,1,2,3] ⟨by omega,d2 hk e⟩ (by omega) ?_⟩
   simp
   exact wrap_i64 (by omega) (by omega)
 ·have e:k=R.length:=by omega
  subst e
  simp
  exact⟨by decide,hQ _ h1 (fun hk=>absurd hk (by omega)) d3 _ (by simp) (by simp) (by simp) (by simp) (by simp) (by simp) (by simp) (by simp)⟩
structure MadeH (v:Typ->Typ->Int->Coe) (L R:List Prt) (lb:Int):Prop where
 dis:(L.map (·.tag)).Nodup
 tag:∀m,m∈L->0<=m.tag/\m.tag<6
 fn:∀m n,m∈L->n∈R->m.tag=5->n.tag=5->m.t.kids.length=2/\n.t.kids.length=2/\PCall Pg 59 [.agg (kid0 n.t).enc,.agg (kid0 m.t).enc,.one (.int .i64 (flp lb))] (.agg (v (kid0 n.t) (kid0 m.t) (flp lb)).enc)/\PCall Pg 59 [.agg (kid1 m.t).enc,.agg (kid1 n.t).enc,.one (.int .i64 lb)] (.agg (v (kid1 m.t) (kid1 n.t) lb).enc)
 rc:∀m n,m∈L->n∈R->m.tag=4->n.tag=4->m.t.names.length<=m.t.kids.length/\n.t.names.length<=n.t.kids.length/\m.t.kids.length<=1000/\n.t.kids.length<=1000/\
  (∀a,a∈m.t.kids->PCall Pg 59 [.agg a.enc,.agg noT.enc,.one (.int .i64 lb)] (.agg (v a noT lb).enc))/\
  (∀k a,a∈n.t.kids->PCall Pg 59 [.agg (zaz m.t k).1.enc,.agg a.enc,.one (.int .i64 lb)] (.agg (v (zaz m.t k).1 a lb).enc))
set_option maxRecDepth 20000 in
set_option maxHeartbeats 2000000 in
theorem zvv{c:Ctx}(hp:c.pure)(v:Typ->Typ->Int->Coe)(L R:List Prt)(lb:Int)(l0:0<=lb)(l1:lb<=9223372036854775807)(hL:L.length<=1000)(hR:R.length<=1000)(H:MadeH v L R lb){Q:Exit->St->Prop}{S:St}{g}{ms:List Nat}
  (h0:Match ms S (mdT L R lb 0) [zg1,tgA idC.tags,boxK idC false true])
  (hQ:∀T r f,Abs.look T 6=.c (.ptr 0 0)->Abs.look T 7=.c (.ptr 2 0)->Q (.exit 0) ⟨T,hpOf [zg1,tgA (zci v R lb L idC).tags,boxK (zci v R lb L idC) r f],3⟩):lw_ Pg c zfA Q g S:=by
 obtain⟨F0,hF⟩:∃F0,zci v R lb L idC=F0:=⟨_,rfl⟩
 rw[hF]at hQ
 refine W.loop zab hp (fun x:Nat × Coe × Bool × Bool=>x.1<=L.length/\zci v R lb (L.drop x.1) x.2.1=F0/\x.2.1.tags.length=6/\(x.2.2.1=false->x.2.1.needs=[]/\x.2.1.names=[]/\x.2.1.fields=[])/\(x.2.2.1=true->(4:Int)∈(L.map (·.tag)).take x.1)) (fun x=>mdT L R lb x.1) (fun x=>[zg1,tgA x.2.1.tags,boxK x.2.1 x.2.2.1 x.2.2.2]) (fun x=>L.length-x.1) (0,idC,false,true) ms ⟨by simp,by simpa using hF,rfl,fun _=>⟨rfl,rfl,rfl⟩,fun h=>by cases h⟩ h0 fun⟨i,C,r,f⟩ ⟨i1,i2,i3,i4,i5⟩=>?_
 simp only at i1 i2 i3 i4 i5
 unfold zfA
 by_cases hi:i<L.length
 ·rw [List.drop_eq_getElem_cons hi,zci]at i2
  obtain⟨m,hx⟩:∃m,L[i]=m:=⟨_,rfl⟩
  have hm:m∈L:=by rw[<-hx];exact List.getElem_mem hi
  have hmt:=H.tag m hm
  have hnot:m.tag∉(L.map (·.tag)).take i:=fun q=>by
   have hd:=H.dis
   rw[<-List.take_append_drop i (L.map (·.tag))]at hd
   have hd:=(List.nodup_append.1 hd).2.2 _ q m.tag (by rw[List.drop_eq_getElem_cons (by simpa using hi)];simp[hx])
   exact hd rfl
  have hin:(L.map (·.tag)).take (i+1)=(L.map (·.tag)).take i++[m.tag]:=by rw[List.take_succ_eq_append_getElem (by simpa using hi)];simp[hx]
  rw[hx]at i2
  have hx':L[i]?=some m:=by rw[List.getElem?_eq_getElem hi,hx]
  simp[hi,hx]
  refine zxv hp L R lb i m C.tags C r f hR (ms:=[0,1,2,3]) (by simp) fun k k1 k2 k3 T' t12 t11 t10 t9 t8 t7 t6 t2=>?_
  have mt:m.tag=(m.tag.toNat:Int):=by omega
  by_cases hk:k<R.length
  ·have hpr:=k2 hk
   have hn0:R[k]∈R:=List.getElem_mem hk
   have hnt:R[k].tag=m.tag:=by have:=(zdf (l:=R) (tag:=m.tag) (by rw[hpr])).2;rw[hpr]at this;exact this
   have hy':R[k]?=some R[k]:=List.getElem?_eq_getElem hk
   generalize R[k]=n at*
   have kne:¬((k:Int)=R.length):=by omega
   by_cases e5:m.tag=5
   ·have e4:¬m.tag=4:=by omega
    obtain⟨f1,f2,f3,f4⟩:=H.fn m n hm hn0 e5 (by omega)
    have m0:=zdg f1
    have m1:=zcM f1
    have n0:=zdg f2
    have n1:=zcM f2
    have hxf:=zsI l0 l1
    simp[t12,t11,t10,t9,t8,t7,t6,t2,kne,hy',e5,n0.2,m0.2,hxf]
    refine zac.mk f3 ?_
    simp[t12,t11,t10,t9,t8,t7,t6,t2,n1.2,m1.2]
    refine zac.mk f4 ?_
    simp[t12,t11,t10,t9,t8,t7,t6,t2]
    refine zac.mk (zik _ _) ?_
    simp[t12,t11,t10,t9,t8,t7,t6,t2,e5]
    refine⟨by decide,?_⟩
    have hst:zdr v R lb m C=setG C (funCZ (v (kid0 n.t) (kid0 m.t) (flp lb)) (v (kid1 m.t) (kid1 n.t) lb)):=by
     unfold zdr
     rw[e5]at hpr⊢
     simp[hpr]
    rw[hst]at i2
    refine Abs.Next.mk (i+1,setG C (funCZ (v (kid0 n.t) (kid0 m.t) (flp lb)) (v (kid1 m.t) (kid1 n.t) lb)),r,false) [0,1,2] ⟨by simp;omega,i2,i3,i4,fun h=>by rw[hin];exact List.mem_append_left _ (i5 h)⟩ (by simp;omega) ?_
    simp[t12,t11,t10,t9,t8,t7,t6,t2,setG,Coe.tags,Coe.needs,Coe.names,Coe.fields,Coe.fn]
    exact wrap_i64 (by omega) (by omega)
   ·by_cases e4:m.tag=4
    ·obtain⟨f1,f2,f3,f4,f5,f6⟩:=H.rc m n hm hn0 e4 (by omega)
     have hr:r=false:=by
      cases r with
      |false=>rfl
      |true=>exact absurd (i5 rfl) (by rw[<-e4];exact hnot)
     subst hr
     obtain⟨c1,c2,c3⟩:=i4 rfl
     have hC:zcQ C.tags C.fn=C:=by
      unfold zcQ
      cases C
      simp only[Coe.needs,Coe.names,Coe.fields]at c1 c2 c3
      subst c1;subst c2;subst c3;rfl
     have hst:zdr v R lb m C=mkR v m n lb C:=by
      unfold zdr
      rw[e4]at hpr⊢
      simp[hpr]
     rw[hst]at i2
     have hrec:=zuq v m n lb C.tags (.sl f 5 (C.fn.map Coe.enc)) f1 f2 f3 f4 f5 f6 C.fn
     rw[hC,i3]at hrec
     simp[t12,t11,t10,t9,t8,t7,t6,t2,kne,hy',e4,c1,c2,c3]
     refine zaa.mk [1] hrec (by simp[c1,c2,c3]) ?_
     have hk:=zlH v m n lb C
     simp[t12,t11,t10,t9,t8,t7,t6,t2]
     refine Abs.Next.mk (i+1,mkR v m n lb C,true,f) [0,1,2] ⟨by simp;omega,i2,by rw[hk.1];exact i3,fun h=>(by cases h),fun _=>by rw[hin,e4];simp⟩ (by simp;omega) ?_
     simp[t12,t11,t10,t9,t8,t7,t6,t2,hk.1,hk.2]
     exact wrap_i64 (by omega) (by omega)
    ·have hst:zdr v R lb m C=C:=by
      unfold zdr
      simp[hpr,e4,e5]
     rw[hst]at i2
     simp[t12,t11,t10,t9,t8,t7,t6,t2,kne,hy',e4,e5]
     refine Abs.Next.mk (i+1,C,r,f) [0,1,2] ⟨by simp;omega,i2,i3,i4,fun h=>by rw[hin];exact List.mem_append_left _ (i5 h)⟩ (by simp;omega) ?_
     simp[t12,t11,t10,t9,t8,t7,t6,t2]
     exact wrap_i64 (by omega) (by omega)
  ·have ek:k=R.length:=by omega
   have hpr:=k3 ek
   subst ek
   have hj:m.tag.toNat<C.tags.length:=by omega
   have hst:zdr v R lb m C=setT C m.tag.toNat lb:=by
    unfold zdr
    simp[hpr]
   rw[hst]at i2
   simp[t12,t11,t10,t9,t8,t7,t6,t2,List.getElem?_eq_getElem hj]
   refine⟨by omega,by omega,?_⟩
   refine Abs.Next.mk (i+1,setT C m.tag.toNat lb,r,f) [0,1,2] ⟨by simp;omega,i2,by simpa[setT,Coe.tags]using i3,i4,fun h=>by rw[hin];exact List.mem_append_left _ (i5 h)⟩ (by simp;omega) ?_
   simp[t12,t11,t10,t9,t8,t7,t6,t2,setT,Coe.tags,Coe.needs,Coe.names,Coe.fields,Coe.fn,zpW]
   refine⟨wrap_i64 (by omega) (by omega),fun x hx=>?_⟩
   rcases List.mem_or_eq_of_mem_set hx with hx|hx
   ·obtain⟨y,_,rfl⟩:=List.mem_map.1 hx
    simp
   ·rw[hx];simp
 ·have ei:i=L.length:=by omega
  subst ei
  rw[List.drop_length,zci]at i2
  subst i2
  simp
  exact hQ _ _ _ (by simp) (by simp)
end Go.Gr
namespace Go.Gr
open Go.Abs Go.Proofs
mutual
def ordT:Typ->Prop
 |.mk k _ s l=>s.Pairwise ltB/\(k=7->(l.map zax).Pairwise (· < ·)/\2<=l.length)/\zfN l
def zfN:List Typ->Prop
 |[]=>True
 |t::l=>ordT t/\zfN l
end
theorem zoJ:∀l:List Typ,zfN l↔∀x,x∈l->ordT x
 |[]=>by simp[zfN]
 |t::l=>by simp[zfN,zoJ l]
theorem zb7(t:Typ):ordT t↔t.names.Pairwise ltB/\(t.kind=7->(t.kids.map zax).Pairwise (· < ·)/\2<=t.kids.length)/\∀x,x∈t.kids->ordT x:=by
 cases t;rw[ordT,zoJ];try rfl
def NF(t:Typ):Prop:=wfT t/\ordT t
theorem NF.kid{t x:Typ}(h:NF t)(hx:x∈t.kids):NF x:=⟨zcU h.1 hx,((zb7 t).1 h.2).2.2 x hx⟩
theorem NF.base(k:Int)(h0:0<=k)(h4:k<=4):NF (bT k):=⟨zbE k h0 h4,by simp[ordT,bT,zfN];omega⟩
theorem NF.no:NF noT:=NF.base 0 (by omega) (by omega)
theorem NF.bt5:NF (bT 5):=⟨(zaW _).2 ⟨rfl,fun x h=>(by cases h),.inr (.inl ⟨rfl,rfl,by decide,fun x h=>(by cases h)⟩)⟩,by simp[ordT,bT,zfN]⟩
theorem NF.fn{a b:Typ}(ha:NF a)(hb:NF b):NF (.mk 6 (bs []) [] [a,b]):=⟨(zaW _).2 ⟨rfl,fun x h=>by
  simp only[Typ.kids,List.mem_cons,List.not_mem_nil,or_false]at h
  rcases h with rfl|rfl
  ·exact ha.1
  ·exact hb.1,.inr (.inr (.inl ⟨rfl,rfl,rfl⟩))⟩,by simp[ordT,zfN];exact⟨ha.2,hb.2⟩⟩
theorem zqI{t:Typ}(h:wfT t)(h0:t.kind≠0)(h7:t.kind≠7):zax t=t.kind-1/\1<=t.kind/\t.kind<=6:=by
 have hk:1<=t.kind/\t.kind<=6:=by
  rcases((zaW t).1 h).2.2 with⟨a,b,_⟩|⟨a,_⟩|⟨a,_⟩|⟨a,_⟩<;>omega
 refine⟨?_,hk⟩
 unfold zax
 rw[if_neg (by omega)]
theorem zis{t:Typ}(h:NF t):((zaH t).map (·.tag)).Nodup/\∀p,p∈zaH t->0<=p.tag/\p.tag<6/\NF p.t/\(p.tag=5->p.t.kids.length=2)/\(∀x,x∈p.t.kids->dpt x+(if t.kind=0 then 0 else 1)<=dpt t)/\(p.tag=4->∀x,x∈p.t.kids->dpt x+1<=dpt t):=by
 have d1:=zfY t
 unfold zaH
 by_cases h0:t.kind=0
 ·rw[if_pos h0]
  refine⟨by decide,fun p hp=>?_⟩
  have e0:dpt noT=1:=rfl
  simp only[List.mem_cons,List.not_mem_nil,or_false]at hp
  simp only[h0,if_pos]
  rcases hp with rfl|rfl|rfl|rfl|rfl|rfl
  ·exact⟨by decide,by decide,NF.base 1 (by omega) (by omega),fun h=>absurd h (by decide),fun x hx=>(by cases hx),fun _ x hx=>(by cases hx)⟩
  ·exact⟨by decide,by decide,NF.base 2 (by omega) (by omega),fun h=>absurd h (by decide),fun x hx=>(by cases hx),fun _ x hx=>(by cases hx)⟩
  ·exact⟨by decide,by decide,NF.base 3 (by omega) (by omega),fun h=>absurd h (by decide),fun x hx=>(by cases hx),fun _ x hx=>(by cases hx)⟩
  ·exact⟨by decide,by decide,NF.base 4 (by omega) (by omega),fun h=>absurd h (by decide),fun x hx=>(by cases hx),fun _ x hx=>(by cases hx)⟩
  ·exact⟨by decide,by decide,NF.bt5,fun h=>absurd h (by decide),fun x hx=>(by cases hx),fun _ x hx=>(by cases hx)⟩
  ·refine⟨by decide,by decide,NF.fn NF.no NF.no,fun _=>rfl,fun x hx=>?_,fun h=>absurd h (by decide)⟩
   simp only[Typ.kids,List.mem_cons,List.not_mem_nil,or_false]at hx
   rcases hx with rfl|rfl<;>omega
 ·rw [if_neg h0]
  by_cases h7:t.kind=7
  ·rw[if_neg (by omega)]
   have ho:=((zb7 t).1 h.2).2.1 h7
   refine⟨?_,fun p hp=>?_⟩
   ·rw[List.map_map]
    have he:((fun x:Prt=>x.tag)∘fun k=>(⟨zax k,false,k⟩:Prt))=zax:=rfl
    rw[he]
    exact ho.1.imp fun h=>by omega
   ·obtain⟨x,hx,rfl⟩:=List.mem_map.1 hp
    have hk:1<=x.kind/\x.kind<=6:=by
     rcases((zaW t).1 h.1).2.2 with⟨_,q,_⟩|⟨q,_⟩|⟨q,_⟩|⟨_,_,_,q⟩
     ·omega
     ·omega
     ·omega
     ·exact q x hx
    have ht:=(zqI (h.kid hx).1 (by omega) (by omega)).1
    simp only
    have hd:∀y,y∈x.kids->dpt y+1<=dpt t:=fun y hy=>by
     have:=zdo hy
     have:=zdo hx
     omega
    refine⟨by omega,by omega,h.kid hx,fun q=>zhy (h.kid hx).1 (by omega),fun y hy=>?_,fun _=>hd⟩
    rw[if_neg h0];exact hd y hy
  ·rw[if_pos h7]
   refine⟨by simp,fun p hp=>?_⟩
   simp only[List.mem_singleton]at hp
   subst hp
   have ht:=zqI h.1 h0 h7
   simp only
   refine⟨by omega,by omega,h,fun q=>zhy h.1 (by omega),fun y hy=>?_,fun _ y hy=>zdo hy⟩
   have:=zdo hy
   rw[if_neg h0];omega
theorem zxx(a b:Typ)(lb:Int)(ha:a.kind=0)(hb:b.kind=0):PCall Pg 59 [.agg a.enc,.agg b.enc,.one (.int .i64 lb)] (.agg idC.enc):=by
 refine zm1 (by simp) fun o c hN hp=>?_
 unfold zhb
 simp
 refine zaa.mk [] rIdM (by simp) ?_
 simp[ha,hb]
 refine fzK.mk [1] ?_
 have h6:6<=six0.length:=by decide
 have ht:(encI six0).take 6=encI six0:=rfl
 simp[zbb,allD,h6,ht,idC,Coe.enc,encN,encS,Coe.encs]
 rfl
theorem zmN(v:Typ->Typ->Int->Coe)(R:List Prt)(lb:Int):∀(L:List Prt) (C:Coe),(zci v R lb L C).tags.length=C.tags.length
 |[],C=>rfl
 |m::l,C=>by
  rw[zci,zmN v R lb l]
  unfold zdr
  split
  ·simp[setT,Coe.tags]
  split
  ·rfl
  split
  ·rw[(zlH _ _ _ _ _).1]
  ·rfl
set_option maxRecDepth 20000 in
theorem zxy(v:Typ->Typ->Int->Coe)(a b:Typ)(lb:Int)(wa:wfT a)(wb:wfT b)(hne:¬(a.kind=0/\b.kind=0))(l0:0<=lb)(l1:lb<=9223372036854775807)(H:MadeH v (zaH a) (zaH b) lb):
  PCall Pg 59 [.agg a.enc,.agg b.enc,.one (.int .i64 lb)] (.agg (zci v (zaH b) lb (zaH a) idC).enc):=by
 refine zm1 (by simp) fun o c hN hp=>?_
 have hL:(zaH a).length<=1000:=by have:=zbF wa;have:=zju a;omega
 have hR:(zaH b).length<=1000:=by have:=zbF wb;have:=zju b;omega
 have h6:=zmN v (zaH b) lb (zaH a) idC
 have h6':idC.tags.length=6:=rfl
 rw[h6']at h6
 have hcs:¬a.kind=0\/(a.kind=0/\¬b.kind=0):=by omega
 have hP1:=zd7 a (by have:=zbF wa;omega)
 have hP2:=zd7 b (by have:=zbF wb;omega)
 have e6:tgA idC.tags=tgA six0:=rfl
 have hloop:=fun(Q:Exit->St->Prop) (S:St) (ms:List Nat)=>zvv (Q:=Q) (S:=S) (g:={}) (ms:=ms) hp v (zaH a) (zaH b) lb l0 l1 hL hR H
 generalize zaH a=L at*
 generalize zaH b=R at*
 obtain⟨F0,hF⟩:∃F0,zci v R lb L idC=F0:=⟨_,rfl⟩
 rw[hF]at hloop h6⊢
 have ht:(encI F0.tags).take 6=encI F0.tags:=List.take_of_length_le (by simp;omega)
 have hle:6<=F0.tags.length:=by omega
 unfold zhb
 simp
 refine zaa.mk [] rIdM (by simp) ?_
 simp
 rcases hcs with a0|⟨a0,b0⟩
 ·simp[a0]
  refine zac.mk hP1 ?_
  simp
  refine zac.mk hP2 ?_
  simp
  refine hloop _ _ [0,1,2] (by simp[idC,Coe.tags,Coe.needs,Coe.names,Coe.fields,Coe.fn,encN,encS,six0]) fun T r f t6 t7=>?_
  simp[t6,t7]
  refine fzK.mk [1] ?_
  simp[zbb,allD,zak,t6,t7,ht,hle,Coe.enc_eq]
 ·simp[a0,b0]
  refine zac.mk hP1 ?_
  simp
  refine zac.mk hP2 ?_
  simp
  refine hloop _ _ [0,1,2] (by simp[idC,Coe.tags,Coe.needs,Coe.names,Coe.fields,Coe.fn,encN,encS,six0]) fun T r f t6 t7=>?_
  simp[t6,t7]
  refine fzK.mk [1] ?_
  simp[zbb,allD,zak,t6,t7,ht,hle,Coe.enc_eq]
theorem zvA{lb:Int}(h0:0<=lb)(h1:lb<=9223372036854775807):0<=flp lb/\flp lb<=9223372036854775807:=by unfold flp;split<;>omega
theorem NF.field{t:Typ}(h:NF t)(k:ByteArray):NF (zaz t k).1/\((zaz t k).1∈t.kids\/(zaz t k).1=noT):=by
 cases q:(zaz t k).2 with
 |true=>have hm:=zfJ t.names t.kids k q;exact⟨h.kid hm,.inl hm⟩
 | false=>
  have:(zaz t k).1=noT:=by
   have hz:∀(ns:List ByteArray) (ks:List Typ),(zbx ns ks k).2=false->(zbx ns ks k).1=noT:=fun ns=>by
    induction ns with
    |nil=>intro ks _;rw[zbx];intros;contradiction
    | cons n ns ih=>
     intro ks
     cases ks with
     |nil=>intro _;rw[zbx];intros;contradiction
     |cons x ks=>
      rw[zbx]
      split
      ·intro h;cases h
      ·exact ih ks
   exact hz _ _ q
  rw[this];exact⟨NF.no,.inr rfl⟩
theorem zhH:∀(n:Nat) (a b:Typ) (lb:Int),NF a->NF b->dpt a+dpt b<=n->0<=lb->lb<=9223372036854775807->PCall Pg 59 [.agg a.enc,.agg b.enc,.one (.int .i64 lb)] (.agg (zc6 n a b lb).enc)
 |0,a,b,lb,_,_,h,_,_=>by have:=zfY a;omega
 | n +1,a,b,lb,na,nb,hd,l0,l1=>by
  rw[zc6]
  by_cases hne:a.kind=0/\b.kind=0
  ·rw[if_pos hne];exact zxx a b lb hne.1 hne.2
  ·rw[if_neg hne]
   have pa:=zis na
   have pb:=zis nb
   have fr:=zvA l0 l1
   have e0:dpt noT=1:=rfl
   have hda:=zfY a
   have hdb:=zfY b
   have hsum:(if a.kind=0 then 0 else 1)+(if b.kind=0 then 0 else 1)≥1:=by split<;>split<;>omega
   have step:∀p q x y,p∈zaH a->q∈zaH b->x∈p.t.kids->y∈q.t.kids->dpt x+dpt y<=n:=fun p q x y hp hq hx hy=>by
    have:=(pa.2 p hp).2.2.2.2.1 x hx
    have:=(pb.2 q hq).2.2.2.2.1 y hy
    omega
   refine zxy (zc6 n) a b lb na.1 nb.1 hne l0 l1 ⟨pa.1,fun m hm=>⟨(pa.2 m hm).1,(pa.2 m hm).2.1⟩,fun m q hm hq h5 h5'=>?_,fun m q hm hq h4 h4'=>?_⟩
   ·have m2:=(pa.2 m hm).2.2.2.1 h5
    have q2:=(pb.2 q hq).2.2.2.1 h5'
    have nm:=(pa.2 m hm).2.2.1
    have nq:=(pb.2 q hq).2.2.1
    have m0:=(zdg m2).1
    have m1:=(zcM m2).1
    have q0:=(zdg q2).1
    have q1:=(zcM q2).1
    exact⟨m2,q2,zhH n _ _ _ (nq.kid q0) (nm.kid m0) (by have:=step m q _ _ hm hq m0 q0;omega) fr.1 fr.2,zhH n _ _ _ (nm.kid m1) (nq.kid q1) (step m q _ _ hm hq m1 q1) l0 l1⟩
   ·have nm:=(pa.2 m hm).2.2.1
    have nq:=(pb.2 q hq).2.2.1
    refine⟨zmr nm.1,zmr nq.1,by have:=zbF nm.1;omega,by have:=zbF nq.1;omega,fun x hx=>?_,fun k x hx=>?_⟩
    ·have hk:=(pa.2 m hm).2.2.2.2.2 h4 x hx
     refine zhH n _ _ _ (nm.kid hx) NF.no ?_ l0 l1
     rw[e0];omega
    ·have hk:=(pb.2 q hq).2.2.2.2.2 h4' x hx
     refine zhH n _ _ _ (nm.field k).1 (nq.kid hx) ?_ l0 l1
     rcases(nm.field k).2 with h|h
     ·exact step m q _ _ hm hq h hx
     ·rw[h,e0];omega
end Go.Gr
namespace Go.Gr
open Go.Abs Go.Proofs
structure RI (C:Coe) (ns:List ByteArray):Prop where
 len:C.names.length=C.fields.length
 names:C.names.Pairwise ltB
 fields:∀x,x∈C.fields->mayC x=true/\x≠idC/\smC 16 x
 needs:(∀x,x∈C.needs->x.2≠0)/\(C.needs.map (·.1)).Nodup
 an:∀x,x∈C.names->∀k,k∈ns->ltB x k
 ad:∀x,x∈C.needs->∀k,k∈ns->ltB x.1 k
theorem RI.put{C:Coe}{k:ByteArray}{ns:List ByteArray}(h:RI C (k::ns))(hk:(k::ns).Pairwise ltB){d:Coe}(hd:mayC d=true)(sd:smC 16 d):RI (putR C k d) ns/\(putR C k d).names.length<=C.names.length+1/\(putR C k d).needs=C.needs:=by
 have hk':=List.pairwise_cons.1 hk
 have h0:RI C ns:=⟨h.len,h.names,h.fields,h.needs,fun x hx k hk=>h.an x hx k (by simp[hk]),fun x hx k hk=>h.ad x hx k (by simp[hk])⟩
 unfold putR
 split
 ·exact⟨h0,by omega,rfl⟩
 ·rename_i q
  refine⟨⟨?_,?_,?_,h.needs,?_,h0.ad⟩,?_,rfl⟩
  ·simpa[Coe.names,Coe.fields]using h.len
  ·simp only[Coe.names]
   exact List.pairwise_append.2 ⟨h.names,by simp,fun x hx y hy=>by rw[List.mem_singleton.1 hy];exact h.an x hx k (by simp)⟩
  ·intro x hx
   simp only[Coe.fields,List.mem_append,List.mem_singleton]at hx
   rcases hx with hx|rfl
   ·exact h.fields x hx
   ·exact⟨hd,fun e=>q ((zfh _ _).2 e),sd⟩
  ·intro x hx y hy
   simp only[Coe.names,List.mem_append,List.mem_singleton]at hx
   rcases hx with hx|rfl
   ·exact h0.an x hx y hy
   ·exact hk'.1 y hy
  ·simp[Coe.names]
theorem RI.tail{C:Coe}{k:ByteArray}{ns:List ByteArray}(h:RI C (k::ns)):RI C ns:=⟨h.len,h.names,h.fields,h.needs,fun x hx k hk=>h.an x hx k (by simp[hk]),fun x hx k hk=>h.ad x hx k (by simp[hk])⟩
section
variable {v:Typ->Typ->Int->Coe} {lb:Int} (l2:2<=lb) (hv:∀x y,NF x->NF y->mayC (v x y lb)=true/\smC 16 (v x y lb))
include hv in
theorem zvD:∀(ns:List ByteArray) (ks:List Typ) (C:Coe),ns.Pairwise ltB->(∀x,x∈ks->NF x)->RI C ns->RI (mkA v lb ns ks C) []/\(mkA v lb ns ks C).names.length<=C.names.length+ns.length/\(mkA v lb ns ks C).needs=C.needs
 |[],ks,C,_,_,h=>by rw[mkA];exact⟨h,by omega,rfl⟩;intros;contradiction
 |n::ns,[],C,_,_,h=>by rw[mkA];exact⟨⟨h.len,h.names,h.fields,h.needs,fun _ _ k hk=>(by cases hk),fun _ _ k hk=>(by cases hk)⟩,by omega,rfl⟩;intros;contradiction
 |n::ns,k::ks,C,hn,hk,h=>by
  rw[mkA]
  have h1:=hv k noT (hk k (by simp)) NF.no
  obtain⟨g1,g2,g3⟩:=h.put hn h1.1 h1.2
  have h2:=zvD ns ks (putR C n (v k noT lb)) (List.pairwise_cons.1 hn).2 (fun x hx=>hk x (by simp[hx])) g1
  exact⟨h2.1,by have:=h2.2.1;simp only[List.length_cons];omega,h2.2.2.trans g3⟩
include l2 in
theorem RI.need{C:Coe}{k:ByteArray}{ns:List ByteArray}(h:RI C (k::ns)):(∀x,x∈C.names->ltB x k)/\((zbt C k lb).needs.map (·.1)).Nodup/\(∀x,x∈(zbt C k lb).needs->x.2≠0):=by
 refine⟨fun x hx=>h.an x hx k (by simp),?_,fun x hx=>?_⟩
 ·rw[zdz,List.map_append]
  refine List.nodup_append.2 ⟨h.needs.2,by simp,fun x hx y hy e=>?_⟩
  obtain⟨z,hz,rfl⟩:=List.mem_map.1 hx
  simp only[List.map_cons,List.map_nil,List.mem_singleton]at hy
  have:=h.ad z hz k (by simp)
  rw[e,hy]at this
  exact zcN _ this
 ·rw[zdz,List.mem_append,List.mem_singleton]at hx
  rcases hx with hx|rfl
  ·exact h.needs.1 x hx
  ·simp only;omega
include l2 hv in
theorem zvE(m:Prt)(nm:NF m.t):∀(ns:List ByteArray) (ks:List Typ) (C:Coe),ns.Pairwise ltB->(∀x,x∈ks->NF x)->RI C ns->RI (mkB v m lb ns ks C) []/\(mkB v m lb ns ks C).names.length<=C.names.length+ns.length/\(mkB v m lb ns ks C).needs.length<=C.needs.length+ns.length
 |[],ks,C,_,_,h=>by rw[mkB];exact⟨h,by omega,by omega⟩;intros;contradiction
 |n::ns,[],C,_,_,h=>by rw[mkB];exact⟨⟨h.len,h.names,h.fields,h.needs,fun _ _ k hk=>(by cases hk),fun _ _ k hk=>(by cases hk)⟩,by omega,by omega⟩;intros;contradiction
 | n ::ns,k::ks,C,hn,hk,h=>by
  rw[mkB]
  have hn':=List.pairwise_cons.1 hn
  have h1:=hv (zaz m.t n).1 k (nm.field n).1 (hk k (by simp))
  generalize v (zaz m.t n).1 k lb=d at*
  obtain⟨C2,hC2⟩:∃C2,(if(zaz m.t n).2=true\/m.opn=true then putR (if(zaz m.t n).2=false then zbt C n lb else C) n d else(if(zaz m.t n).2=false then zbt C n lb else C))=C2:=⟨_,rfl⟩
  show RI (mkB v m lb ns ks _) []/\_
  have key:RI C2 ns/\C2.names.length<=C.names.length+1/\C2.needs.length<=C.needs.length+1:=by
   have hP:RI (putR C n d) ns/\(putR C n d).names.length<=C.names.length+1/\(putR C n d).needs=C.needs:=h.put hn h1.1 h1.2
   have hN:=h.need l2
   by_cases q:(zaz m.t n).2=false
   ·rw[if_pos q]at hC2
    have e1:∀D:Coe,RI D ns->D.needs=C.needs->RI (zbt D n lb) ns:=fun D hD eD=>by
     have hdn:(zbt D n lb).needs=(zbt C n lb).needs:=by rw[zdz,zdz,eD]
     refine⟨hD.len,hD.names,hD.fields,by rw[hdn];exact⟨hN.2.2,hN.2.1⟩,hD.an,fun x hx y hy=>?_⟩
     rw[zdz,List.mem_append,List.mem_singleton]at hx
     rcases hx with hx|rfl
     ·exact hD.ad x hx y hy
     ·exact hn'.1 y hy
    by_cases o:(zaz m.t n).2=true\/m.opn=true
    ·rw[if_pos o]at hC2
     have e2:putR (zbt C n lb) n d=zbt (putR C n d) n lb:=by
      unfold putR zbt
      split<;>rfl
     rw[<-hC2,e2]
     exact⟨e1 _ hP.1 hP.2.2,hP.2.1,by rw[zdz,hP.2.2];simp⟩
    ·rw[if_neg o]at hC2
     rw[<-hC2]
     exact⟨e1 _ h.tail rfl,by simp,by simp⟩
   ·rw[if_neg q]at hC2
    have o:(zaz m.t n).2=true\/m.opn=true:=.inl (by simpa using q)
    rw[if_pos o]at hC2
    rw[<-hC2]
    exact⟨hP.1,hP.2.1,by rw[hP.2.2];omega⟩
  rw[hC2]
  have h2:=zvE m nm ns ks C2 hn'.2 (fun x hx=>hk x (by simp[hx])) key.1
  exact⟨h2.1,by have:=h2.2.1;simp only[List.length_cons];omega,by have:=h2.2.2;simp only[List.length_cons];omega⟩
include l2 hv in
theorem zzT(m n:Prt)(nm:NF m.t)(nn:NF n.t)(C:Coe)(c1:C.needs=[])(c2:C.names=[])(c3:C.fields=[]):
  RI (mkR v m n lb C) []/\(mkR v m n lb C).names.length<=16/\(mkR v m n lb C).needs.length<=16:=by
 have h0:∀ns,RI C ns:=fun ns=>⟨by rw[c2,c3];rfl,by rw[c2];simp,(by rw[c3];intro x hx;cases hx),by rw[c1];exact⟨fun x hx=>(by cases hx),by simp⟩,(by rw[c2];intro x hx;cases hx),(by rw[c1];intro x hx;cases hx)⟩
 have hm:=zlz nm.1
 have hn:=zlz nn.1
 unfold mkR
 split
 ·split
  ·exact⟨h0 [],by rw[c2];simp,by rw[c1];simp⟩
  ·have h:=zvD hv m.t.names m.t.kids C ((zb7 _).1 nm.2).1 (fun x hx=>nm.kid hx) (h0 _)
   exact⟨h.1,by have:=h.2.1;rw[c2]at this;simp only[List.length_nil]at this;omega,by rw[h.2.2,c1];simp⟩
 ·have h:=zvE l2 hv m nm n.t.names n.t.kids C ((zb7 _).1 nn.2).1 (fun x hx=>nn.kid hx) (h0 _)
  exact⟨h.1,by have:=h.2.1;rw[c2]at this;simp only[List.length_nil]at this;omega,by have:=h.2.2;rw[c1]at this;simp only[List.length_nil]at this;omega⟩
end
theorem zqN(C:Coe)(i:Nat)(x:Int)(j:Nat)(h:j≠i):tagZ (setT C i x) j=tagZ C j:=by
 unfold tagZ setT
 simp only[Coe.tags,List.getD_eq_getElem?_getD]
 rw[List.getElem?_set_ne (Ne.symm h)]
structure MI (C:Coe) (done:List Int):Prop where
 may:May C
 n4:(4:Int)∉done->tagZ C 4=0/\C.needs=[]/\C.names=[]/\C.fields=[]
 n5:(5:Int)∉done->tagZ C 5=0/\C.fn=[]
 sm:smC 16 C
theorem MI.step{v:Typ->Typ->Int->Coe}{R:List Prt}{lb:Int}(l2:2<=lb)(hv:∀x y l,2<=l->NF x->NF y->mayC (v x y l)=true/\smC 16 (v x y l)){C:Coe}{done:List Int}{m:Prt}(h:MI C done)(hm:m.tag∉done)(mt:0<=m.tag/\m.tag<6)(nm:NF m.t)(m5:m.tag=5->m.t.kids.length=2)
  (hR:∀p,p∈R->NF p.t/\(p.tag=5->p.t.kids.length=2)):MI (zdr v R lb m C) (done++[m.tag]):=by
 have hsm:=(zcC _ _).1 h.sm
 unfold zdr
 split
 ·have h4:m.tag.toNat≠4->tagZ (setT C m.tag.toNat lb) 4=tagZ C 4:=fun q=>zqN _ _ _ _ (Ne.symm q)
  have h5:m.tag.toNat≠5->tagZ (setT C m.tag.toNat lb) 5=tagZ C 5:=fun q=>zqN _ _ _ _ (Ne.symm q)
  refine⟨⟨by simpa[setT,Coe.tags]using h.may.tags,h.may.len,h.may.fn,fun q=>?_,fun q=>?_,h.may.needs,h.may.names,h.may.fields⟩,fun q=>?_,fun q=>?_,?_⟩
  ·by_cases e:m.tag=4
   ·exact(h.n4 (e▸hm)).2.2.1
   ·rw[h4 (by omega)]at q;exact h.may.t4 q
  ·by_cases e:m.tag=5
   ·exact(h.n5 (e▸hm)).2
   ·rw[h5 (by omega)]at q;exact h.may.t5 q
  ·simp only[List.mem_append,List.mem_singleton,not_or]at q
   rw[h4 (by omega)]
   exact h.n4 q.1
  ·simp only[List.mem_append,List.mem_singleton,not_or]at q
   rw[h5 (by omega)]
   exact h.n5 q.1
  ·exact(zcC _ _).2 hsm
 rename_i q
 have hq:∀t,m.tag=t->(partR R t).1∈R/\(partR R t).1.tag=t:=fun t e=>by
  subst e
  exact zdf (by simpa using q)
 split
 ·rename_i e5
  have hp:=hq 5 e5
  have nq:=hR _ hp.1
  have m2:=m5 e5
  have q2:=nq.2 hp.2
  have f0:=hv (kid0 (partR R 5).1.t) (kid0 m.t) (flp lb) (by unfold flp;split<;>omega) (nq.1.kid (zdg q2).1) (nm.kid (zdg m2).1)
  have f1:=hv (kid1 m.t) (kid1 (partR R 5).1.t) lb l2 (nm.kid (zcM m2).1) (nq.1.kid (zcM q2).1)
  have n5:=h.n5 (e5▸hm)
  generalize v (kid0 (partR R 5).1.t) (kid0 m.t) (flp lb)=f at*
  generalize v (kid1 m.t) (kid1 (partR R 5).1.t) lb=g at*
  refine⟨⟨h.may.tags,h.may.len,?_,h.may.t4,fun q=>absurd n5.1 q,h.may.needs,h.may.names,h.may.fields⟩,fun q=>?_,fun q=>?_,?_⟩
  ·show funCZ f g=[]\/∃f' g',funCZ f g=[f',g']/\_
   unfold funCZ
   split
   ·exact .inl rfl
   ·rename_i e
    refine .inr ⟨f,g,rfl,f0.1,f1.1,fun x=>e ?_⟩
    rw[x.1,x.2,sameC_rfl];try rfl
  ·simp only[List.mem_append,List.mem_singleton,not_or]at q
   exact h.n4 q.1
  ·exact absurd (by rw[e5];simp) q
  ·refine(zcC _ _).2 ⟨hsm.1,hsm.2.1,?_,hsm.2.2.2.1,?_⟩
   ·show(funCZ f g).length<=16
    unfold funCZ;split<;>simp
   ·intro x hx
    have hx:x∈funCZ f g:=hx
    unfold funCZ at hx
    split at hx
    ·cases hx
    ·simp only[List.mem_cons,List.not_mem_nil,or_false]at hx
     rcases hx with rfl|rfl
     ·exact f0.2
     ·exact f1.2
 split
 ·rename_i e5 e4
  have hp:=hq 4 e4
  have nq:=(hR _ hp.1).1
  obtain⟨c0,c1,c2,c3⟩:=h.n4 (e4▸hm)
  have hr:=zzT l2 (fun x y nx ny=>hv x y lb l2 nx ny) m (partR R 4).1 nm nq C c1 c2 c3
  have hk:=zlH v m (partR R 4).1 lb C
  generalize mkR v m (partR R 4).1 lb C=C' at*
  have hz:∀i,tagZ C' i=tagZ C i:=fun i=>by unfold tagZ;rw[hk.1]
  refine⟨⟨by rw[hk.1];exact h.may.tags,hr.1.len,by rw[hk.2];exact h.may.fn,fun q=>absurd (by rw[hz];exact c0) q,fun q=>by rw[hz]at q;rw[hk.2];exact h.may.t5 q,hr.1.needs,hr.1.names,fun x hx=>⟨(hr.1.fields x hx).1,(hr.1.fields x hx).2.1⟩⟩,fun q=>absurd (by rw[e4];simp) q,fun q=>?_,?_⟩
  ·simp only[List.mem_append,List.mem_singleton,not_or]at q
   rw[hz,hk.2]
   exact h.n5 q.1
  ·exact(zcC _ _).2 ⟨hr.2.2,by rw[<-hr.1.len];exact hr.2.1,by rw[hk.2];exact hsm.2.2.1,fun x hx=>(hr.1.fields x hx).2.2,by rw[hk.2];exact hsm.2.2.2.2⟩
 ·rename_i e5 e4
  refine⟨h.may,fun q=>?_,fun q=>?_,h.sm⟩
  ·simp only[List.mem_append,List.mem_singleton,not_or]at q
   exact h.n4 q.1
  ·simp only[List.mem_append,List.mem_singleton,not_or]at q
   exact h.n5 q.1
theorem MI.all{v:Typ->Typ->Int->Coe}{R:List Prt}{lb:Int}(l2:2<=lb)(hv:∀x y l,2<=l->NF x->NF y->mayC (v x y l)=true/\smC 16 (v x y l))(hR:∀p,p∈R->NF p.t/\(p.tag=5->p.t.kids.length=2)):∀(L:List Prt) (C:Coe) (done:List Int),MI C done->(done++L.map (·.tag)).Nodup->(∀p,p∈L->0<=p.tag/\p.tag<6/\NF p.t/\(p.tag=5->p.t.kids.length=2))->∃d,MI (zci v R lb L C) d
 |[],C,done,h,_,_=>⟨done,h⟩
 |m::L,C,done,h,hn,hL=>by
  rw[zci]
  have hm:=hL m (by simp)
  have hnot:m.tag∉done:=fun q=>(List.nodup_append.1 hn).2.2 _ q m.tag (by simp) rfl
  exact MI.all l2 hv hR L _ (done++[m.tag]) (h.step l2 hv hnot ⟨hm.1,hm.2.1⟩ hm.2.2.1 hm.2.2.2 hR) (by simpa using hn) (fun p hp=>hL p (by simp[hp]))
theorem zqO:∀(n:Nat) (a b:Typ) (lb:Int),2<=lb->NF a->NF b->mayC (zc6 n a b lb)=true/\smC 16 (zc6 n a b lb)
 |0,a,b,lb,_,_,_=>⟨zgo,zeo _⟩
 | n+1,a,b,lb,l2,na,nb=>by
  rw[zc6]
  split
  ·exact⟨zgo,zeo _⟩
  ·have pa:=zis na
   have pb:=zis nb
   obtain⟨d,hd⟩:=MI.all l2 (fun x y l hl nx ny=>zqO n x y l hl nx ny) (fun p hp=>⟨(pb.2 p hp).2.2.1,(pb.2 p hp).2.2.2.1⟩) (zaH a) idC [] ⟨May.idC,fun _=>⟨zvK 4,rfl,rfl,rfl⟩,fun _=>⟨zvK 5,rfl⟩,zeo _⟩ (by simpa using pa.1) (fun p hp=>⟨(pa.2 p hp).1,(pa.2 p hp).2.1,(pa.2 p hp).2.2.1,(pa.2 p hp).2.2.2.1⟩)
   exact⟨(zbw _).2 hd.may,hd.sm⟩
end Go.Gr
