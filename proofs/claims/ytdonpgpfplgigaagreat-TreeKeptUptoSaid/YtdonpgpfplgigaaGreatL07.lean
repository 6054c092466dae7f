/- 'munimentlaw11.TreeKept' returns true whatever its arguments, where what it reads is of bulk at most 1048576; the input reads as it did, and nothing that lay before the call has turned. Conditions: that bound alone. -/
import Derived.Test.YtdonpgpfplgigaaGreatL06
import Derived.Test.YtdonpgpfplgigaaGreatL04
import Derived.Test.YtdonpgpfplgigaaGreatL05
import Derived.WalkKit
import Derived.ProofKit
import Derived.OpenShut
import Derived.ChangeSlices
import Derived.Test.YtdonpgpfplgigaaGreatRows
import Derived.JoinedCond
import Derived.ChangeBook
import Derived.ChangeStays
set_option linter.defProp false
namespace Go.Proofs.YtdonpgpfplgigaaGreat.Am
open Go
def iO:=@Tryz.underlying28
def Af:=@Tryz.underlying22
def D3:=@Tryz.underlying140
variable {fs:Array Field} {C:Array Value} {X Y:aI} {cap:Cap} {c:Ctx} {e d:En} {ε:bw} {A:bw→aI} {pg:bw→Int→List Nat} {Q:Ex→List (Nat×V)→H→Prop} {h σ:H} {P:Int→List Nat} {k lo:Ky} {now:List (Int×List Nat)} {cs:List (List Nat)} {E:List (Nat×V)} {S:List aI} {es eL eR:List En} {ks:List gR} {b ps R ot M data:List Nat} {i B id off N x n l L r kb j a g q bA K kd nt fuel:Nat} {fz:Nat×Nat} {F:Nat→List (List Nat)→Prop} {y:Operand} {hi:Option Ky} {α H':Type} {t te:TypeId} {lv wv rv vv w z kv mv ov fv hv uv dv lw:V}
def cD (es:List En): List V:=es.flatMap fun e=>[.str e.1,.str e.2]
theorem dF : ∀(l:List En),(cD l).length=l.length*2:=by
 intro l
 induction l with
 |nil=>rfl
 |cons e l I=>rw[cD,fE,aX];show 2+(cD l).length=_;rw[I,aZ];omega
theorem xE {a b:List En}: cD (a++b)=cD a++cD b:=mH
theorem WN : ∀ {l:List En} {j:Nat} {e:En},l[j]?=some e→((cD l).drop (j*2)).take 2=[.str e.1,.str e.2]:=by
 intro l
 induction l with
 |nil=>simp
 |cons a t J =>
  intro j e I
  cases j with
  |zero =>
   simp only[iW,aD] at I
   subst I
   rfl
  |succ j =>
   rw[show cD (a::t)=[.str a.1,.str a.2]++cD t from rfl,show(j+1)*2=2+j*2 by omega,←sK]
   exact J I
theorem GB : ∀ {a b:List Nat},lessL a b=decide (a<b):=by
 intro a
 induction a with
 |nil=>intro b;cases b with
  |nil=>rfl
  |cons y b=>simp[lessL]
 |cons x a ih=>intro b;cases b with
  |nil=>simp[lessL]
  |cons y b =>
   simp only[lessL,Eg,ih]
   by_cases I:x<y
   ·simp[I,Nat.blt_eq]
   ·by_cases J:x=y
    ·subst J;simp
    ·have e1:Nat.blt x y=false:=by
      cases q:Nat.blt x y with
      |false=>rfl
      |true=>exact absurd (eO.1 q) I
     rw[e1,eD J]
     simp[I,J]
section
variable {P:Program} {v:V}
theorem D4 (hu:P.underlying t=some (.slice te))(I:bg P te=some 2)(he:es[i]?=some e)(s:Sat h (.arr 2 v (cD es)::S)):
  ∃id off,indexAddrV P t v (.int .i64 (i:Int))=some (.ptr id off)∧(∀t',isAggT P t'=some false→loadV P h t' (.ptr id off)=some (.str e.1))∧(∀t',isAggT P t'=some false→loadV P h t' (.ptr id (off+1))=some (.str e.2)) ∧
   (isAggT P te=some true→loadV P h te (.ptr id off)=some (.agg [.str e.1,.str e.2])):=by
 have hi:=(List.getElem?_eq_some_iff.1 he).1
 have hb:i*2+2≤(cD es).length:=by rw[dF];omega
 rcases (s.u7 (j:=0) rfl (mA _ _ _)).2 with⟨_,q⟩|⟨id,n,cap,N,rest,rfl,hg,e1,e2,_⟩
 ·rw[q] at hb;simp at hb
 ·have hd:((cD es++rest).drop (i*2)).take 2=[.str e.1,.str e.2]:=by
   rw[←WN he,KB (by omega),KC (by rw[gi];omega)]
  rw[dF] at e1
  refine⟨id,i*2,?_,fun t' J=>yF J hg ?_,fun t' J=>yF J hg ?_,fun J => ?_⟩
  ·simp only[indexAddrV,hu,I,dm]
   rw[show(decide ((0:Int)≤(i:Int))&&decide ((i:Int)<(n:Int)))=true by simp;omega,ag,ep]
  ·rw[eX]
   have:=dn (fun l=>l[0]?) hd
   simpa[gh,eA] using this
  ·rw[eX]
   have:=dn (fun l=>l[1]?) hd
   simpa[gh,eA] using this
  ·simp only[loadV,J,I]
   rw[og hg (by rw[aX];exact e2) (by omega),hd]
   rfl
end
theorem QX (h:fb es k=none∨e.1≠k): fb (es++[e]) k=if e.1=k then some e.2 else fb es k:=by
 rw[Ci]
 have I:fb [e] k=if e.1=k then some e.2 else none:=by
  by_cases q:e.1=k<;>simp[fb,q]
 rw[I]
 by_cases q:e.1=k
 ·rw[aH q,aH q]
  rcases h with h|h
  ·rw[h];rfl
  ·exact absurd q h
 ·rw[ax q,ax q]
  cases fb es k<;>rfl
theorem Jw : ∃i,Tryz.prog.info? 53=some i∧i.size=2∧i.bytes≤4096 :=
 ⟨_,(show Tryz.prog.info? 53=some ((Tryz.prog.info? 53).getD default) by kernel_rfl),by kernel_rfl,oJ (by kernel_rfl)⟩
def rV (es:List En)(k:Ky): List En:=es.filter fun e=>decide (e.1≠k)
section
variable {told:cy}
theorem Cq {c:List En}(hl:c.length≤1000)(s:Sat h (.arr 2 wv (cD c)::S)): ∃xv I w J,buildSliceV Tryz.prog h 28 1 [(0,.agg [.str e.1,.str e.2])]=some (xv,I)∧appendV Tryz.prog I #[28,28] wv xv=some (w,J)∧Sat J (.arr 2 w (cD (c++[e]))::S):=by
 obtain⟨i1,eT,gC,om⟩:=Jw
 obtain⟨xv,I,e1,s1⟩:=jB (P:=Tryz.prog) (k:=2) (x:=.agg [.str e.1,.str e.2]) s iO MO BY rfl (by decide) (by decide) rfl rfl
 obtain⟨w,J,e2,s2⟩:=gK (s1.ae [1,0]) iO eT MO gC om rfl (by decide) (by rw[dF];simp[V.cells];omega)
 have s2:=s2.del 1
 exact⟨xv,I,w,J,e1,e2,by rw[xE];exact s2⟩
noncomputable def ltL : Code:=cE [1,1,1,1,0,1,0,0] ((Tryz.f22.body).getD .skip)
theorem QY (hT:W told)(gW:(es.map (·.1)).Nodup)(hlen:es.length≤400): ∀(j i:Nat) (v:V) (h:H) (E:List (Nat×V)) (Q:Ex→List (Nat×V)→H→Prop),i+j=es.length →
  Sat h (.arr 2 v (cD (rV (es.take i) k))::.arr 2 lv (cD es)::S)→Has E [(0,lv),(1,.str k),(7,v),(8,.str ((fb (es.take i) k).getD [])),(9,.bool (fb (es.take i) k).isSome),(10,.int .i64 (i:Int))] →
  (∀E' h' v',Has E' [(7,v'),(8,.str ((fb es k).getD [])),(9,.bool (fb es k).isSome)]→Sat h' (.arr 2 v' (cD (rV es k))::.arr 2 lv (cD es)::S)→Q (.exit 0) E' h')→WP ⟨Tryz.prog,told⟩ 39 (.loop ltL) E h Q:=by
 intro j
 induction j with
 |zero =>
  intro i v h E Q hi s hE hq
  have hi:i=es.length:=hi
  subst hi
  rw[ja] at hE s
  have QZ:=s.eY (P:=Tryz.prog) (j:=1) (n:=es.length) rfl (dF _) (by decide) iO
  refine WP.loop (WP.has hE (zK 5 rfl (zo rfl (aC rfl rfl rfl QZ) (zC rfl aL (by simp) ?_))))
  exact zk 2 rfl (WP.exit (hq _ _ v ⟨rfl,rfl,rfl,aa⟩ s))
 |succ j ih =>
  intro i v h E Q hi s hE hq
  obtain⟨e,he⟩:∃e,es[i]?=some e:=⟨_,aG (by omega)⟩
  have QZ:=s.eY (P:=Tryz.prog) (j:=1) (n:=es.length) rfl (dF _) (by decide) iO
  have s0:=s.ae [1]
  dsimp only[bringA,getA,aT] at s0
  obtain⟨id,off,e1,e2,e3,e4⟩:=D4 (P:=Tryz.prog) iO BY he s0
  have qi:es.take (i+1)=es.take i++[e]:=by rw[mI,he];rfl
  have ue:fb (es.take i) k=none∨e.1≠k:=by
   by_cases q:e.1=k
   ·refine .inl (uM fun d hd hdk => ?_)
    have h1:(es.take (i+1)).map (·.1) |>.Nodup:=(sM (f:=fun e:En=>e.1) (l:=es) (i:=i+1)) ▸ gW.sublist (List.take_sublist _ _)
    rw[qi,Ew,vA] at h1
    exact h1.2.2 d.1 (vr hd) e.1 (by simp) (by rw[hdk,q])
   ·exact .inr q
  have I:=QX ue
  rw[←qi] at I
  have J:rV (es.take (i+1)) k=if e.1=k then rV (es.take i) k else rV (es.take i) k++[e]:=by
   unfold rV
   rw[qi,oI]
   by_cases q:e.1=k<;>simp[q]
  refine WP.loop (WP.has hE (zK 5 rfl (zo rfl (aC rfl rfl rfl QZ) (zB rfl aL (by simp;omega) ?_))))
  refine zk 4 rfl (WP.block (zK 4 rfl (zo rfl (bx (r:=.ptr id off) rfl rfl e1) (zf rfl (O8 _ _) (zl rfl (e2 _ Yg) ?_)))))
  by_cases q:e.1=k
  ·rw[aH q] at I J
   refine zm rfl (zo rfl (az (r:=.bool true) rfl rfl (by simp only[binV,strV,mO,q,AF])) ?_)
   refine zv (zi rfl (zr rfl (zk 2 rfl (zo rfl (bx (r:=.ptr id off) rfl rfl e1) (zf rfl (Yo _ _) (zl rfl (e3 _ Yg) (zk 2 rfl (zv (zr rfl (zm rfl (zb rfl (by exact aO (ay (by omega) (by omega))) ?_)))))))))))
   refine za rfl (zv ?_)
   exact ih (i+1) v _ _ Q (by omega) (by rw[J];exact s) ⟨rfl,rfl,rfl,by rw[I];rfl,by rw[I];rfl,rfl,aa⟩ hq
  ·rw[ax q] at I J
   obtain⟨xv,h1,w,h2,f1,f2,s2⟩:=Cq (e:=e) (by have:=Ao (fun e:En=>decide (e.1≠k)) (es.take i);rw[cj] at this;unfold rV;omega) s
   refine zm rfl (zo rfl (az (r:=.bool false) rfl rfl (by simp only[binV,strV,mO,q,vI])) ?_)
   refine zk 6 rfl (zo rfl (bx (r:=.ptr id off) rfl rfl e1) (zl rfl (e4 Sd) (aA.any rfl rfl rfl (OpR.of (R:=fun v h'=>v=xv∧h'=h1) (gI rfl f1) ⟨rfl,rfl⟩) ?_)))
   rintro xv h1 ⟨rfl,rfl⟩
   refine aA.any rfl rfl rfl (OpR.of (R:=fun v h'=>v=w∧h'=h2) (iG rfl rfl f2) ⟨rfl,rfl⟩) ?_
   rintro w h2 ⟨rfl,rfl⟩
   refine za rfl (zv (zr rfl (zm rfl (zb rfl (by exact aO (ay (by omega) (by omega))) ?_))))
   refine za rfl (zv ?_)
   exact ih (i+1) _ _ _ Q (by omega) (by rw[J];exact s2) ⟨rfl,rfl,rfl,by rw[I];rfl,by rw[I];rfl,rfl,aa⟩ hq
theorem TJ (hT:W told)(I:(es.map (·.1)).Nodup)(hlen:es.length≤400)(s:Sat h (.arr 2 lv (cD es)::S)):
  Call ⟨Tryz.prog,told⟩ 22 [lv,.str k] h fun v h'=>∃v',v=.aW [v',.str ((fb es k).getD []),.bool (fb es k).isSome]∧Sat h' (.arr 2 v' (cD (rV es k))::.arr 2 lv (cD es)::S):=by
 refine Call.of_wp (hT.free _ rfl) Tryz.func22 rfl rfl (zK 23 rfl (WP.block ?_))
 have s:=s.kS (k:=2)
 refine QY hT I hlen es.length 0 .aV _ _ _ (by omega) s ⟨rfl,rfl,rfl,rfl,rfl,rfl,aa⟩ fun E' h' v' J s' => ?_
 have s:=s'
 exact WP.has J (zK 9 rfl (WP.ret ⟨aa,_,rfl,v',rfl,s⟩))
end
theorem Q0 (a b:Ky): a<b∨a=b∨b<a:=by
 by_cases I:a<b
 ·exact .inl I
 ·by_cases J:b<a
  ·exact .inr (.inr J)
  ·exact .inr (.inl (List.le_antisymm (List.not_lt.1 J) (List.not_lt.1 I)))
theorem Q1 : ∀ {es:List En},(es.Pairwise fun a b=>a.1<b.1)→rV es k=es.filter (fun e=>decide (e.1<k))++es.filter (fun e=>decide (k<e.1)):=by
 intro es
 induction es with
 |nil=>intro _;rfl
 |cons e t I =>
  intro hs
  obtain⟨h1,h2⟩:=List.pairwise_cons.1 hs
  have I:=I h2
  unfold rV at I ⊢
  simp only[ne_eq,decide_not] at I ⊢
  rcases Q0 e.1 k with q|q|q
  ·have a:e.1≠k:=fun x=>absurd (x ▸ q) (kH _)
   have b:¬ k<e.1:=fun x=>oP x q
   simp[a,b,q,I]
  ·have c:t.filter (fun e=>decide (e.1<k))=[]:=List.filter_eq_nil_iff.2 fun d J=>by
    have:=h1 d J
    rw[q] at this
    simpa using fun x=>oP x this
   rw[c] at I
   simp[q,I,c,kH]
  ·have a:e.1≠k:=fun x=>absurd (x ▸ q) (kH _)
   have b:¬ e.1<k:=fun x=>oP x q
   have c:t.filter (fun e=>decide (e.1<k))=[]:=List.filter_eq_nil_iff.2 fun d J=>by
    have:=List.lt_trans q (h1 d J)
    simpa using fun x=>oP x this
   rw[c] at I
   simp[a,b,q,I,c]
theorem aa4 {A B:List En}(I:∀e∈A,e.1<k)(J:∀e∈B,k<e.1)(he:(A++B)[i]?=some e): (e.1<k↔i<A.length):=by
 by_cases q:i<A.length
 ·rw[qw q] at he
  exact⟨fun _=>q,fun _=>I e (aR he)⟩
 ·rw[g8 (by omega)] at he
  exact⟨fun x=>absurd x (oP (J e (aR he))),fun x=>absurd x q⟩
section
variable {told:cy} {A B:List En} {val:Ky}
noncomputable def lpL : Code:=cE [1,1,1,0,1,0,0] ((Tryz.f15.body).getD .skip)
theorem TK (hT:W told)(hA:∀e∈A,e.1<k)(hB:∀e∈B,k<e.1)(hlen:(A++B).length≤400){J x11:V}: ∀(j i:Nat) (h:H) (E:List (Nat×V)) (Q:Ex→List (Nat×V)→H→Prop),i+j=(A++B).length →
  Sat h (.arr 2 rv (cD (A++B))::S)→Has E [(1,.str k),(2,vv),(9,rv),(10,J),(11,x11),(12,.int .i64 ((min i A.length:Nat):Int)),(13,.int .i64 (i:Int))] →
  (∀E' h',Has E' [(1,.str k),(2,vv),(9,rv),(10,J),(11,x11),(12,.int .i64 (A.length:Int))]→Sat h' (.arr 2 rv (cD (A++B))::S)→Q (.exit 0) E' h')→WP ⟨Tryz.prog,told⟩ 55 (.loop lpL) E h Q:=by
 have hAl:A.length≤(A++B).length:=by rw[aX];omega
 intro j
 induction j with
 |zero =>
  intro i h E Q hi s hE hq
  have hi:i=(A++B).length:=hi
  subst hi
  rw[Nat.min_eq_right hAl] at hE
  have I:=s.eY (P:=Tryz.prog) (j:=0) (n:=(A++B).length) rfl (dF _) (by decide) iO
  refine WP.loop (WP.has hE (zK 5 rfl (zo rfl (aC rfl rfl rfl I) (zC rfl aL (by simp) ?_))))
  exact zk 2 rfl (WP.exit (hq _ _ ⟨rfl,rfl,rfl,rfl,rfl,rfl,aa⟩ s))
 |succ j ih =>
  intro i h E Q hi s hE hq
  obtain⟨e,he⟩:∃e,(A++B)[i]?=some e:=⟨_,aG (by omega)⟩
  have I:=s.eY (P:=Tryz.prog) (j:=0) (n:=(A++B).length) rfl (dF _) (by decide) iO
  obtain⟨id,off,e1,e2,_,_⟩:=D4 (P:=Tryz.prog) iO BY he s
  have jC:=aa4 hA hB he
  refine WP.loop (WP.has hE (zK 5 rfl (zo rfl (aC rfl rfl rfl I) (zB rfl aL (by rw[aX] at hi ⊢;simp;omega) ?_))))
  refine zk 4 rfl (WP.block (zK 4 rfl (zo rfl (bx (r:=.ptr id off) rfl rfl e1) (zf rfl (O8 _ _) (zl rfl (e2 _ Yg) ?_)))))
  by_cases q:e.1<k
  ·have hm:min (i+1) A.length=i+1:=by have:=jC.1 q;omega
   refine zm rfl (zo rfl (az (r:=.bool true) rfl rfl (by simp only[binV,strV,GB,q,AF])) ?_)
   refine zk 4 rfl (zb rfl (by exact aO (ay (by omega) (by omega))) ?_)
   refine za rfl (zv (zr rfl (zm rfl (zb rfl (by exact aO (ay (by omega) (by omega))) ?_))))
   refine za rfl (zv ?_)
   exact ih (i+1) _ _ Q (by omega) s ⟨rfl,rfl,rfl,rfl,rfl,by rw[hm];rfl,rfl,aa⟩ hq
  ·skip
   refine zm rfl (zo rfl (az (r:=.bool false) rfl rfl (by simp only[binV,strV,GB,q,vI])) ?_)
   refine zv (zj rfl (WP.skip (zr rfl (zm rfl (zb rfl (by exact aO (ay (by omega) (by omega))) ?_)))))
   refine za rfl (zv ?_)
   have hm:min (i+1) A.length=min i A.length:=by
    have:¬ i<A.length:=fun x=>q (jC.2 x)
    omega
   exact ih (i+1) _ _ Q (by omega) s ⟨rfl,rfl,rfl,rfl,rfl,by rw[hm];rfl,rfl,aa⟩ hq
end
section
variable {P:Program} {v:V} {cs ds:List V} {k:Nat}
theorem Jx {m:Nat}(uU:srcV h k w=some (ds,m))(hm:ds.length=m*k)(B0:ds.all storable=true)(s:Sat h (.arr k v cs::S)){e:TypeId}{i:TypeInfo}(hu:P.underlying t=some (.slice e))(hi:P.info? e=some i)(hz:zeroT P e=some z)(hk:i.size=k)(hb:i.bytes≤4096)(hl:z.cells.length=k)
 (h1:1≤k)(fM:cs.length+ds.length≤1073741824):
  ∃v' h',appendV P h #[t,t] v w=some (v',h')∧Sat h' (.arr k v' (cs++ds)::S):=by
 have abL:=s.G5 (j:=0) rfl
 have nP:(cs++ds).all storable=true:=by grind
 have I:∀n:Nat,n*k=cs.length→jI (n+m) i.bytes=true:=fun n hn=>by
  have e2:n+m≤(n+m)*k:=Nat.le_mul_of_pos_right _ h1
  have e3:(n+m)*i.bytes≤(n+m)*4096:=Ar _ hb
  grind[mh]
 have J:∀(σ:H) (n:Nat) (T:List aI),Sat σ T→n*k=cs.length→1≤m→Sat (iU σ k cs ds (n+m)).2 (.arr k (iU σ k cs ds (n+m)).1 (cs++ds)::T):=by
  intro σ n T sT hn kR
  refine(sT.new (.cells ((n+m)*k) (cs++ds) false)).dG fun a r BC=>⟨nP,.inr ⟨σ.next,n+m,.rest k 0,(n+m)*k,[],rfl,by rw[g_];exact BC,by grind,by grind,rfl,rfl,rfl,rfl,by omega⟩⟩
 unfold appendV
 simp only[hu,hi,hz,hk,hl,uU]
 rw[show(Nat.ble 1 k&&Nat.ble i.bytes 4096&&Nat.beq k k)=true by simp_all,ag]
 cases th:Nat.beq m 0 with
 |true =>
  have:m=0:=beq_iff.1 th
  subst this
  have BF:ds=[]:=iz (by omega)
  subst BF
  obtain⟨m,r,q1,q2,q3⟩:=s.at (k:=0) rfl
  rcases q3.2 with⟨rfl,rfl⟩|⟨id,n,cap,N,rest,rfl,hg,e1,e2,e3,e4⟩
  ·grind
  ·grind
 |false =>
  have kR:1≤m:=by
   grind[qy]
  obtain⟨a,r,q1,q2,q3⟩:=s.at (k:=0) rfl
  rcases q3.2 with⟨rfl,rfl⟩|⟨id,n,cap,N,rest,rfl,hg,e1,e2,e3,e4⟩
  ·have hg:=I 0 (by simp)
   rw[ep] at hg
   simp only[hg,ag]
   have:=J h 0 (.arr k .aV []::S) s (by simp) kR
   rw[ep] at this
   refine⟨_,_,rfl,?_⟩
   exact(this.ae [1]).drop
  ·cases cap with
   |exact c =>
    obtain⟨e4,e5⟩:=e4
    simp only[ep]
    have ko:(cs++rest).take cs.length=cs:=gj rfl
    cases hq:Nat.ble (n+m) c with
    |true =>
     have yc:=aP.1 hq
     have dN:n*k+ds.length≤N:=by rw[hm,←oT,e4];exact mG _ yc
     rw[E3 (q1 _ _ hg) (by grind) dN]
     obtain⟨m',r',p1,p2,p3,x1,x2,x3,x4,x5,⟨_,x6⟩,x7⟩:=s.ok
     have pR:x1 id=some (.cells N (cs++rest) false):=by
      rcases x6 with⟨x6,_⟩|⟨Bw,n',Ml,N',Um,x6,x8,x9,x10,_⟩
      ·cases x6
      ·injection x6 with y1 y2 y3 y4
       subst y1
       rw[x8]
       have:=p1 _ _ (x4 _ _ x8)
       rw[q1 _ _ hg] at this
       injection this with this
       rw[this]
     have s0:Sat h (pt id (.cells N (cs++rest) false)::S):=⟨s.wf,m',r',p1,p2,p3,x1,x2,x3,x4,x5,pR,x7⟩
     have s1:=s0.put (k:=0) (o':=.cells N ((cs++rest).take (n*k)++(ds++(cs++rest).drop (n*k+ds.length))) false) rfl
     refine⟨_,_,rfl,Sat.dG s1 fun a' r'' ha=>⟨nP,.inr ⟨id,n+m,.exact c,N,rest.drop ds.length,rfl,?_,by grind,by grind,?_,e4,yc⟩⟩⟩
     ·have ha':a' id=some (.cells N ((cs++rest).take (n*k)++(ds++(cs++rest).drop (n*k+ds.length))) false):=ha
      simp_all[sG]
     ·grind
    |false =>
     rw[aS,I n e1.symm,ag,og (q1 _ _ hg) (by grind) (by omega)]
     rw[eC,←e1,ko]
     have:=J h n _ s e1.symm kR
     exact⟨_,_,rfl,(this.ae [1]).drop⟩
   |rest e' alt =>
    obtain⟨ek,rfl,rfl,e7⟩:=e4
    have ek:=ek.symm
    subst ek
    simp only[jd,ag,g_,ep] at hg e2 ⊢
    have wK:fC h id 0 k=n:=by
     simp only[fC,q1 _ _ hg]
     grind[Nat.mul_div_cancel]
    rw[wK]
    rw[show Nat.ble (n+m) n=false by
     grind[aP],aS,I n e1.symm,show Nat.ble 2 ((n+m)*k)=true from aP.2 (by
      have:2*1≤(n+m)*k:=oN (by omega) h1
      omega),jc,ag,og (q1 _ _ hg) (by omega) (by omega),q1 _ _ hg]
    simp only
    obtain⟨m',r',p1,p2,p3,x1,x2,x3,x4,x5,⟨_,x6⟩,x7⟩:=s.ok
    have pR:x1 id=some (.cells N cs false):=by
     grind
    have s0:Sat h (pt id (.cells N cs false)::S):=⟨s.wf,m',r',p1,p2,p3,x1,x2,x3,x4,x5,pR,x7⟩
    have:=J (h.put id none) n _ s0.kill e1.symm kR
    rw[eC,gd (by omega)]
    exact⟨_,_,rfl,this⟩
end
section
variable {told:cy} {P:Program} {m:Nat} {val:Ky}
theorem Q2 : cD (es.take m)=(cD es).take (m*2):=by
 by_cases hm:m≤es.length
 ·have:cD es=cD (es.take m)++cD (es.drop m):=by rw[←xE,iY]
  rw[this,gj (by rw[dF,cj];omega)]
 ·rw[gd (by omega),gd (by rw[dF];omega)]
theorem Q3 : cD (es.drop m)=(cD es).drop (m*2):=by
 by_cases hm:m≤es.length
 ·have:cD es=cD (es.take m)++cD (es.drop m):=by rw[←xE,iY]
  rw[this,vD (by rw[dF,cj];omega)]
 ·rw[vl (by omega),vl (by rw[dF];omega)]
  rfl
theorem Jy {len:Nat}{row:List V}(I:T.get h.tr id=some (.cells N row false))(J:row.length=N)(hb:off+len*2≤N): srcV h 2 (.sl id off len cap)=some ((row.drop off).take (len*2),len):=by
 simp only[srcV,og I J hb,fQ]
theorem L5 (hu:P.underlying t=some (.slice te))(J:bg P te=some 2)(s:Sat h (.arr 2 rv (cD es)::S))(hm:m≤es.length):
  (∃w,sliceV P h t rv none (some m) none=some w∧srcV h 2 w=some (cD (es.take m),m))∧∃w,sliceV P h t rv (some m) none none=some w∧srcV h 2 w=some (cD (es.drop m),es.length-m):=by
 rcases (s.u7 (j:=0) rfl (mA _ _ _)).2 with⟨rfl,q⟩|⟨id,n,cap,N,rest,rfl,hg,e1,e2,_,e4⟩
 ·have h0:es.length=0:=by have:=dn List.length q;rw[dF,bI] at this;omega
  have:es=[]:=iz h0
  subst this
  have th:m=0:=by simpa using hm
  subst th
  exact⟨⟨.aV,by simp only[sliceV,hu,J];rfl,rfl⟩,⟨.aV,by simp only[sliceV,hu,J];rfl,rfl⟩⟩
 ·rw[dF] at e1 e2
  have hn:n=es.length:=by omega
  subst hn
  have hl:(cD es++rest).length=N:=by rw[aX,dF];exact e2
  have k1:((cD es++rest).drop 0).take (m*2)=cD (es.take m):=by
   rw[eC,KC (by rw[dF];omega),Q2]
  have k2:((cD es++rest).drop (m*2)).take ((es.length-m)*2)=cD (es.drop m):=by
   rw[KB (by rw[dF];omega),gj (by rw[gi,dF];omega),Q3]
  have s1:∀I,srcV h 2 (.sl id 0 m I)=some (cD (es.take m),m):=fun I=>by rw[Jy hg hl (by omega),k1]
  have s2:∀I,srcV h 2 (.sl id (m*2) (es.length-m) I)=some (cD (es.drop m),es.length-m):=fun I=>by rw[Jy hg hl (by omega),k2]
  cases cap with
  |exact c =>
   have e4:N=c*2∧es.length≤c:=e4
   refine⟨⟨_,?_,s1 (.exact c)⟩,?_⟩
   ·simp only[sliceV,hu,J,eo,cS]
    rw[show(Nat.ble 0 m&&Nat.ble m c)=true by simp;omega,ag,jY,dA,fR,fR]
    cases Nat.beq c 0<;>rfl
   ·by_cases y7:c=m
    ·refine⟨.sl id 0 (es.length-m) (.exact (c-m)),?_,?_⟩
     ·simp only[sliceV,hu,J,eo,cS]
      rw[show(Nat.ble m es.length&&Nat.ble es.length c)=true by simp;omega,ag,qy y7,ag]
     ·have h0:es.length-m=0:=by omega
      rw[Jy hg hl (by omega),h0,vl (by omega:es.length≤m)]
      simp[cD]
    ·refine⟨_,?_,s2 (.exact (c-m))⟩
     simp only[sliceV,hu,J,eo,cS]
     rw[show(Nat.ble m es.length&&Nat.ble es.length c)=true by simp;omega,ag,eD y7,aS,ep]
  |rest z alt =>
   have e4:z=2∧_:=e4
   have hz:(Nat.beq z 2&&Nat.ble 1 2)=true:=by simp[e4.1]
   refine⟨⟨.sl id 0 m (.rest 2 (cond (Nat.beq 0 0) alt (cond (Nat.blt 0 m) 0 0))),?_,s1 _⟩,⟨.sl id (m*2) (es.length-m) (.rest 2 (cond (Nat.beq m 0) alt (cond (Nat.blt m es.length) (0+m*2) 0))),?_,s2 _⟩⟩
   ·simp only[sliceV,hu,J,eo,cS]
    rw[hz,ag,show(Nat.ble 0 m&&(Nat.ble m es.length||Nat.ble m (fC h id 0 2)))=true by simp;omega,ag]
    simp
   ·simp only[sliceV,hu,J,eo,cS]
    rw[hz,ag,show(Nat.ble m es.length&&(Nat.ble es.length es.length||Nat.ble es.length (fC h id 0 2)))=true by simp;omega,ag,ep]
end
section
variable {told:cy} {val:Ky}
theorem L6 : (cD es).all storable=true:=by
 rw[mJ]
 intro v hv
 obtain⟨e,_,I⟩:=List.mem_flatMap.1 hv
 simp only[gm,jw,mL] at I
 rcases I with rfl|rfl<;>rfl
theorem TL : (ke es k val).length≤es.length+1:=by
 unfold ke
 induction es with
 |nil=>simp
 |cons e t I =>
  rcases Q0 e.1 k with q|q|q
  ·have b:¬ k<e.1:=fun x=>oP x q
   simp[q,b] at I ⊢;omega
  ·simp[q,kH] at I ⊢;omega
  ·have b:¬ e.1<k:=fun x=>oP x q
   simp[q,b] at I ⊢;omega
theorem WO (hT:W told)(hs:es.Pairwise fun a b=>a.1<b.1)(hlen:es.length≤300)(s:Sat h (.arr 2 lv (cD es)::S)):
  Call ⟨Tryz.prog,told⟩ 15 [lv,.str k,.str val] h fun v h'=>∃v',v=.aW [v',.str ((fb es k).getD []),.bool (fb es k).isSome]∧Sat h' (.arr 2 v' (cD (ke es k val))::S):=by
 have gW:(es.map (·.1)).Nodup:=by
  rw[KD,List.pairwise_map]
  exact hs.imp fun h q=>absurd (q ▸ h) (kH _)
 obtain⟨i1,I,J,om⟩:=Jw
 refine Call.of_wp (hT.free _ rfl) Tryz.func15 rfl rfl (zK 10 rfl (zc rfl (TJ hT gW (by omega) s) ?_))
 rintro v h ⟨rv,rfl,s⟩
 obtain⟨A,hA⟩:∃A,A=es.filter (fun e=>decide (e.1<k)):=⟨_,rfl⟩
 obtain⟨B,hB⟩:∃B,B=es.filter (fun e=>decide (k<e.1)):=⟨_,rfl⟩
 have hAB:rV es k=A++B:=by rw[hA,hB];exact Q1 hs
 have Cc:ke es k val=A++[(k,val)]++B:=by rw[hA,hB];simp[ke]
 have KL:A.length≤es.length:=by rw[hA];exact Ao _ _
 have Is:B.length≤es.length:=by rw[hB];exact Ao _ _
 have hA1:∀e∈A,e.1<k:=fun e he=>by rw[hA] at he;exact oJ (List.mem_filter.1 he).2
 have ZM:∀e∈B,k<e.1:=fun e he=>by rw[hB] at he;exact oJ (List.mem_filter.1 he).2
 have acq:(rV es k).length≤es.length:=Ao _ _
 rw[hAB] at s acq
 rw[Cc]
 refine zk 17 rfl (WP.block (TK hT hA1 ZM (by omega) (A++B).length 0 _ _ _ (by omega) s ⟨rfl,rfl,rfl,rfl,rfl,by rw[Nat.zero_min];rfl,rfl,aa⟩ fun E' h' fh s' => ?_))
 have s:=s'
 refine WP.has fh ?_
 obtain⟨w1,f1,f2⟩:=(L5 (P:=Tryz.prog) (m:=A.length) iO BY s (by rw[aX];omega)).1
 rw[gj rfl] at f2
 have s:=s.kS (k:=2)
 obtain⟨v2,h2,g1,s2⟩:=Jx (P:=Tryz.prog) f2 (dF A) L6 s iO I MO J om rfl (by decide) (by rw[dF];simp;omega)
 rw[cO] at s2
 refine zK 9 rfl (zo rfl (bS (p:=none) (q:=some (.int .i64 (A.length:Int))) (m:=none) (p':=none) (q':=some A.length) (m':=none) rfl rfl rfl rfl rfl (by rw[b9 (by omega)];rfl) rfl f1) ?_)
 refine aA.any rfl rfl rfl (OpR.of (R:=fun v h'=>v=v2∧h'=h2) (iG rfl rfl g1) ⟨rfl,rfl⟩) ?_
 rintro v2 h2 ⟨rfl,rfl⟩
 obtain⟨xv,h3,w3,h4,f3,f4,s3⟩:=Cq (e:=(k,val)) (by omega) s2
 refine zk 7 rfl (zo rfl (cP (r:=.agg [.str k,.str val]) rfl (by rw[Yp];rfl)) ?_)
 refine aA.any rfl rfl rfl (OpR.of (R:=fun v h'=>v=xv∧h'=h3) (gI rfl f3) ⟨rfl,rfl⟩) ?_
 rintro xv h3 ⟨rfl,rfl⟩
 refine aA.any rfl rfl rfl (OpR.of (R:=fun v h'=>v=w3∧h'=h4) (iG rfl rfl f4) ⟨rfl,rfl⟩) ?_
 rintro w3 h4 ⟨rfl,rfl⟩
 have s4:=s3.ae [1]
 obtain⟨w5,f5,f6⟩:=(L5 (P:=Tryz.prog) (m:=A.length) iO BY s4 (by rw[aX];omega)).2
 have hBl:(A++B).length-A.length=B.length:=by rw[aX];omega
 rw[vD rfl,hBl] at f6
 obtain⟨v6,h6,g6,s6⟩:=Jx (P:=Tryz.prog) f6 (dF B) L6 s3 iO I MO J om rfl (by decide) (by rw[dF,dF];simp;omega)
 rw[←xE] at s6
 refine zk 7 rfl (zo rfl (bS (p:=some (.int .i64 (A.length:Int))) (q:=none) (m:=none) (p':=some A.length) (q':=none) (m':=none) rfl rfl rfl rfl (by rw[b9 (by omega)];rfl) rfl rfl f5) ?_)
 refine aA.any rfl rfl rfl (OpR.of (R:=fun v h'=>v=v6∧h'=h6) (iG rfl rfl g6) ⟨rfl,rfl⟩) ?_
 rintro v6 h6 ⟨rfl,rfl⟩
 have s:=(s6.del 2).del 1
 exact zk 6 rfl (WP.ret ⟨aa,_,rfl,_,rfl,s⟩)
end
section
variable {told:cy}
theorem TM : fN 0 (dU e)=e.1:=pE
theorem Jz (I:W told)(J:jH lo hi es)(he:es[i]?=some e)(s:Sat h (cH x n 0 b (es.map dU)::S)):
  Call ⟨Tryz.prog,told⟩ 56 [.ptr x 0,.int .i64 (i:Int)] h fun v h'=>∃kv vv,v=.aW [kv,vv,.bool true,.int .i64 0]∧Sat h' (aQ kv e.1::aQ vv e.2::cH x n 0 b (es.map dU)::S):=by
 obtain⟨c1,c2,c3⟩:=wq J he
 obtain⟨z1,z2,z3⟩:=J.sz e (aR he)
 refine Call.of_wp (I.free _ rfl) Tryz.func56 rfl rfl (zK 11 rfl (zc rfl (nJ I c1 c2 (by omega) c3 s) ?_))
 intro kv h s
 rw[TM] at s
 refine zc rfl (rL I s (aY _ _) (by omega)) ?_
 intro kb h s
 have s:=(s.del 1).ae [1]
 refine zk 2 rfl (zc rfl (Fp I c1 c2 c3 s) ?_)
 intro vv h s
 rw[Fu] at s
 refine zc rfl (rL I s (aY _ _) (by omega)) ?_
 intro vb h s
 exact zk 5 rfl (WP.ret ⟨aa,_,rfl,kb,vb,rfl,(s.del 1).ae [2,0,0]⟩)
end
theorem NN : ∀ {ks:List gR},ks≠[]→(∀k∈ks,k.ps.length+2≤2*k.es.length∧2^l≤k.es.length∧l≤k.ps.length) →
  (ks.flatMap gu).length+1≤2*(ks.flatMap (·.es)).length∧2^l≤(ks.flatMap (·.es)).length∧l+1≤(ks.flatMap gu).length:=by
 intro ks
 induction ks with
 |nil=>intro h;exact absurd rfl h
 |cons k t ih =>
  intro _ J
  obtain⟨a1,a2,a3⟩:=J k bO
  have hl:(gu k).length=k.ps.length+1:=by simp[gu]
  simp only[fE,aX,hl]
  by_cases ht:t=[]
  ·subst ht
   simp only[Et,bI]
   omega
  ·obtain⟨b1,b2,b3⟩:=ih ht fun k I=>J k (bR _ I)
   omega
theorem Nv.JA (h:Nv iM P L lo hi cs es ps): ps.length≤2*es.length∧(1≤L→2^(L-1)≤es.length):=by
 cases L with
 |zero =>
  obtain⟨rfl,J,rfl⟩:=h
  exact⟨eN _,fun h=>by omega⟩
 |succ l =>
  obtain⟨ks,rfl,hS,rfl,rfl,I⟩:=h
  obtain⟨b1,b2,b3⟩:=NN (l:=l) hS.ne fun k hk=>by
   obtain⟨i,hi⟩:=List.mem_iff_getElem?.1 hk
   obtain⟨cs',h1,J,_⟩:=I i k hi
   obtain⟨a1,a2,a3⟩:=h1.count J
   exact⟨a1,a2,a3⟩
  exact⟨by omega,fun _=>b2⟩
theorem Nv.lvl (h:Nv iM P L lo hi cs es ps)(J:es.length<1024): L≤10:=by
 obtain⟨_,I⟩:=h.JA
 refine oK fun hL => ?_
 have h3:=I (by omega)
 have h4:2^10≤2^(L-1):=vn (by decide) (by omega)
 omega
section
theorem Nv.acr : ∀ {l:Nat} {lo I:Ky} {hi J:Option Ky} {cs:List (List Nat)} {es:List En} {ps:List Nat},Nv F P l lo hi cs es ps→I≤lo→(∀b,J=some b→∃a,hi=some a∧a≤b)→Nv F P l I J cs es ps:=by
 intro l
 induction l with
 |zero =>
  rintro lo I hi J cs es ps ⟨rfl,h,rfl⟩ h1 h2
  exact⟨rfl,⟨fun e he=>(h.bd e he).trans h1 h2,h.sz,h.jX⟩,rfl⟩
 |succ l ih =>
  rintro lo I hi J cs es ps ⟨ks,rfl,hS,rfl,rfl,hk⟩ h1 h2
  refine⟨ks,rfl,⟨hS.ne,hS.pg,hS.sz,fun i k j8 gC => ?_,hS.jX⟩,rfl,rfl,fun i k j8 => ?_⟩
  ·obtain⟨a1,a2⟩:=hS.bd i k j8 gC
   refine⟨Std.lt_of_le_of_lt h1 a1,fun b hb => ?_⟩
   obtain⟨a,e1,e2⟩:=h2 b hb
   exact Em (a2 a e1) e2
  ·obtain⟨cs',b1,b2,b3⟩:=hk i k j8
   refine⟨cs',ih b1 ?_ ?_,b2,b3⟩
   ·unfold loK
    split
    ·exact h1
    ·exact oR _
   ·unfold fV
    cases ks[i+1]? with
    |none=>exact h2
    |some m=>exact fun b hb=>⟨b,hb,oR _⟩
theorem Nv.whole (h:Nv F P l lo hi cs es ps): Nv F P l [] none cs es ps :=
 h.acr (by cases lo with|nil=>exact oR _|cons x t=>exact oO (sH _ _)) fun b I=>by cases I
theorem js.zero : ∀ {fs:List uH} {l:Nat} {lo:Ky} {hi:Option Ky} {n:Nat} {eL eR:List En} {pO:List Nat},js F P L r fs l lo hi n eL eR pO→(∀f∈fs,f.i=0)→eL=[]:=by
 intro fs
 induction fs with
 |nil=>rintro l lo hi n eL eR pO ⟨_,_,_,_,rfl,_⟩ _;rfl
 |cons f fs J =>
  rintro l lo hi n eL eR pO ⟨kx,iB,mE,lC,lD,kk,h1,_,_,_,_,_,_,_,_,rfl,_⟩ I
  rw[J h1 fun g hg=>I g (bR _ hg),I f bO]
  rfl
end
section
variable {told:cy}
theorem ZN (I:W told)(J:Sep lo hi ks)(s:Sat h (cH x n l b (kisC ks)::pt kb (.cells 1 [.int .i64 1] false)::S)):
  Call ⟨Tryz.prog,told⟩ 135 [.ptr x 0,.ptr kb 0] h fun v h'=>∃i:Nat,v=.int .i64 (i:Int)∧i=0∧i<ks.length∧Sat h' (cH x n l b (kisC ks)::pt kb (.cells 1 [.int .i64 1] false)::S):=by
 have hn:0<ks.length:=by
  rcases lJ ks.length with q|q
  ·exact absurd (iz q) J.ne
  ·exact q
 exact Call.of_wp (I.free _ rfl) Tryz.func135 rfl rfl (zK 7 rfl (zy s 1 bZ rfl (zB rfl cL (rfl) (zk 6 rfl (WP.ret ⟨aa,_,rfl,0,rfl,rfl,hn,s⟩)))))
end
section
variable {told:cy} {root:Nat} {c0:List (Nat×Nat)}
theorem aa5 {P:Program}{e:TypeId}{c:List (Nat×Nat)}(hu:P.underlying t=some (.slice e))(I:bg P e=some 2)(hj:c[j]?=some (x,i))(s:Sat h (wyA w c::S)):
  ∃id off,indexAddrV P t w (.int .i64 (j:Int))=some (.ptr id off)∧(∀t',isAggT P t'=some false→loadV P h t' (.ptr id off)=some (.ptr x 0))∧∀t',isAggT P t'=some false→loadV P h t' (.ptr id (off+1))=some (.int .i64 (i:Int)):=by
 have Py:=(List.getElem?_eq_some_iff.1 hj).1
 obtain⟨id,cap,N,row,rfl,q1,q2,q3,q4,q5,s⟩:=Bj s
 have hr:=s.Yb (k:=0) rfl
 have hd:(row.drop (j*2)).take 2=[.ptr x 0,.int .i64 (i:Int)]:=by
  rw[←LZ hj,←q3,kF,qx,vC (by omega)]
 refine⟨id,j*2,?_,fun t' J=>yF J hr ?_,fun t' J=>yF J hr ?_⟩
 ·simp only[indexAddrV,hu,I,dm]
  rw[show(decide ((0:Int)≤(j:Int))&&decide ((j:Int)<(c.length:Int)))=true by simp;omega,ag,ep]
 ·rw[eX]
  have:=dn (fun l=>l[0]?) hd
  simpa[gh,eA] using this
 ·rw[eX]
  have:=dn (fun l=>l[1]?) hd
  simpa[gh,eA] using this
noncomputable def nxL : Code:=cE [1,0,1,0,0] ((Tryz.f57.body).getD .skip)
theorem Q4 (hT:W told)(hR:kf told N B rv A pg)(hN:N≤65536)(hL:L≤60): ∀(fx:Fx) (l n:Nat) (lo:Ky) (hi:Option Ky) (eL eR:List En) (pO:List Nat) (ε:bw) (c1:List (Nat×Nat)) (h:H) (E:List (Nat×V)) (S:List aI) (Q:Ex→List (Nat×V)→H→Prop),
  js F P L root (fx.map (·.2)) l lo hi n eL eR pO→EI N B ε→pg ε=P→(∀m∈pO,m<N)→fx.length+l=L →
  Sat h (wyA w (gZ fx++c1)::nodsA P (l+1) fx::A ε::pt kb (.cells 1 [.int .i64 1] false)::S)→Has E [(0,rv),(1,w),(5,.ptr kb 0),(8,.int .i64 ((fx.length:Int)-1))] →
  (∀E' h' aj,eR=[]→EI N B aj→Sm N ε aj→Sat h' (A aj::S)→Q (.exit 0) E' h') →
  (∀E' h' aj y m jD Vc Vd gC,eR=jD++Vc→jH Vd gC jD→F 0 (jD.map dU)→EI N B aj→Sm N ε aj→Has E' [(6,.ptr y 0),(7,.int .i64 0)]→Sat h' (cH y m 0 (P m) (jD.map dU)::A aj::S)→Q .ret E' h')→WP ⟨Tryz.prog,told⟩ 64 (.loop nxL) E h Q:=by
 intro fx
 induction fx with
 |nil =>
  intro l n lo hi eL eR pO ε c1 h E S Q pP dL dW nT hlen s hE hq hr
  obtain⟨rfl,rfl,rfl,rfl,rfl,rfl,rfl⟩:=pP
  refine WP.loop (WP.has hE (zK 4 rfl (zC rfl kC (by simp) ?_)))
  exact zk 2 rfl (WP.exit (hq _ _ ε rfl dL (Sm.refl N ε) (((s.del 3).del 1).drop)))
 |cons e t ih =>
  intro l n lo hi eL eR pO ε c1 h E S Q pP dL dW nT hlen s hE hq hr
  obtain⟨kx,iB,mE,lC,lD,kk,h1,h2,h3,h4,h5,h6,h7,h8,h9,FX,J,h12⟩:=pP
  have h2:e.2.ks[e.2.i]?=some kk:=h2
  have h6:cm (P e.2.pg) 204 0 (l+1) (kisC e.2.ks):=h6
  have h7:Sep kx iB e.2.ks:=h7
  have yD:=(List.getElem?_eq_some_iff.1 h2).1
  have dN:=h6.fits
  rw[iy] at dN
  have NL:(gZ t).length=t.length:=by rw[gZ,ju,cq]
  have lq:(gZ (e::t)++c1)[t.length]?=some (e.1,e.2.i):=by
   rw[tZ,eB,g8 (by omega),NL,gG]
   rfl
  obtain⟨id,off,e1,e2,e3⟩:=aa5 (P:=Tryz.prog) fo pV lq s
  rw[show(((e::t).length:Int)-1)=(t.length:Int) by simp] at hE
  have s:=xx.1 (s.ae [1])
  dsimp only[aT,bringA] at s
  obtain⟨ZJ,Va,use,s⟩:=bQ.1 s
  have pz:lenV Tryz.prog h 98 Va=some (.int .i64 (e.2.ks.length:Int)):=by
   have:=j3 (P:=Tryz.prog) bh s
   rwa [iy] at this
  refine WP.loop (WP.has hE (zK 4 rfl (zB rfl kC (by simp) ?_)))
  refine zk 4 rfl (WP.block (zw (WP.drawn [af,af,af,af,af,af,af,af] rfl (by kernel_rfl) (by kernel_rfl) ?_)))
  refine zM rfl (zM rfl (zO rfl (bx (r:=.ptr id off) rfl rfl e1) (zF rfl (C9 _ _) (zL rfl (e3 _ bZ) (zL rfl (s.ld (k:=7) rfl bZ rfl) (zO rfl (az (r:=.int .i64 ((e.2.i+1:Nat):Int)) rfl rfl (by rw[show((e.2.i+1:Nat):Int)=(e.2.i:Int)+1 by omega];exact aO (ay (by omega) (by omega)))) ?_))))))
  refine zA rfl ?_
  refine aE.nil ⟨⟨aa,aa,aa,aa,aa,aa,aa,aa,aa⟩,?_⟩
  refine zK 4 rfl (zC rfl aL (by simp;omega) ?_)
  refine zk 4 rfl (zo rfl (bx (r:=.ptr id off) rfl rfl e1) (zf rfl (oc _ _) (zl rfl (e2 _ uY) (zn rfl (zY s 0 eW je rfl (zo rfl (aC rfl rfl rfl pz) ?_))))))
  by_cases Ve:e.2.i+1=e.2.ks.length
  ·have hd:e.2.ks.drop (e.2.i+1)=[]:=vl (by omega)
   have ZO:eR=lC:=by
    have J:eR=(e.2.ks.drop (e.2.i+1)).flatMap (·.es)++lC:=J
    rw[J,hd];rfl
   have hpO:∀m∈lD,m<N:=fun m hm=>nT m (by rw[h12];exact bR _ (fP _ hm))
   have s:=((((s.del 3).del 2).del 1).drop).ae [1,0]
   dsimp only[aT,bringA,getA] at s
   rw[show gZ (e::t)++c1=gZ t++([(e.1,e.2.i)]++c1) by rw[tZ,eB]] at s
   subst ZO
   refine zB rfl kC (by simp;omega) ?_
   refine zk 3 rfl (WP.exit (zK 2 rfl (zo rfl (az (r:=.int .i64 ((t.length:Int)-1)) rfl rfl (ei (ay (by omega) (by simp only[aZ] at hlen;omega)))) ?_)))
   refine za rfl (zv ?_)
   exact ih (l+1) e.2.pg kx iB mE _ lD ε _ _ _ S Q h1 dL dW hpO (by simp only[aZ] at hlen;omega) s ⟨rfl,rfl,rfl,rfl,aa⟩ hq hr
  ·skip
   refine zC rfl kC (by simp;omega) ?_
   obtain⟨k2,j8⟩:∃k2,e.2.ks[e.2.i+1]?=some k2:=⟨_,aG (by omega)⟩
   have h9:∀j k,e.2.ks[j]?=some k→j≠e.2.i→∃cs',Nv F P l (loK kx e.2.ks j) (fV iB e.2.ks j) cs' k.es k.ps∧F l cs'∧cm (P k.pg) 204 0 l cs':=h9
   obtain⟨cs',g1,g2,g3⟩:=h9 (e.2.i+1) k2 j8 (by omega)
   have pI:=j_ j8
   have s:Sat h (cH e.1 e.2.pg (l+1) (P e.2.pg) (kisC e.2.ks)::_):=bQ.2 ⟨ZJ,Va,use,s⟩
   refine zk 9 rfl (zo rfl (bx (r:=.ptr id off) rfl rfl e1) (zf rfl (oc _ _) (zl rfl (e2 _ uY) (zm rfl (zc rfl (Fq hT pI (h7.pg k2 (aR j8)) s) ?_)))))
   rintro v0 h ⟨rfl,s⟩
   have s:=s.ae [3,3]
   have s:=((s.del 4).del 3).del 2
   have QM:k2∈e.2.ks.eraseIdx e.2.i:=List.mem_eraseIdx_iff_getElem?.2 ⟨e.2.i+1,by omega,j8⟩
   have QG:∀m∈gu k2,m<N:=fun m hm=>nT m (by rw[h12];exact bR _ (kD _ (List.mem_flatMap.2 ⟨k2,QM,hm⟩)))
   refine zo rfl (G0 rfl rfl) (zc rfl (LX hT hR hN (F:=F) (P:=P) (L:=l) (r:=k2.pg) (by omega) (g:=135) (caps:=[.ptr kb 0]) (K:=pt kb (.cells 1 [.int .i64 1] false)) (Ch:=fun _ i=>i=0) (fun hS hlen yX iq s=>ZN hT hS s) g1.whole g3 dL dW (QG k2.pg bO) (fun m hm=>QG m (bR _ hm)) rfl rfl s) ?_)
   rintro v0 h ⟨w2,x2,n2,Vd,gC,eL2,Vc,pO2,jD,I,lZ,rfl,p1,p2,p3,p4,p5,p6,p7,p8,p9,p10,s⟩
   have hz:eL2=[]:=p1.zero fun f hf=>by
    obtain⟨e',By,rfl⟩:=List.mem_map.1 hf
    exact p7 e' By
   subst hz
   have nL:(gZ I++[(x2,0)]).length=I.length+1:=by rw[aX,gZ,ju,cq];rfl
   obtain⟨ZL,TI,y1,y2,_⟩:=xy (P:=Tryz.prog) (j:=I.length) (x:=x2) (i:=0) fo pV (by rw[g8 (by rw[gZ,ju,cq];omega),gZ,ju,cq,gG];rfl) s
   refine zk 10 rfl (zC rfl aN (rfl) (zk 7 rfl (zo rfl (aC rfl rfl rfl (s.eY (j:=0) (n:=I.length+1) rfl (by rw[kg,nL]) (by decide) fo)) ?_)))
   refine zo rfl (az (r:=.int .i64 (I.length:Int)) rfl rfl (by rw[show((I.length:Nat):Int)=((I.length+1:Nat):Int)-1 by omega];exact ei (ay (by omega) (by omega)))) ?_
   refine zo rfl (bx (r:=.ptr ZL TI) rfl rfl y1) (zf rfl (oc _ _) (zl rfl (y2 _ uY) ?_))
   have hF:F 0 (jD.map dU):=by
    by_cases hf:I.map (·.2)=[]
    ·rw[hf] at p1
     obtain⟨q1,_,_,_,_,q6,_⟩:=p1
     subst q1 q6
     obtain⟨rfl,_,_⟩:=g1
     rw[cO,g_] at p8
     rw[p8]
     exact g2
    ·exact p4 hf
   have ZO:eR=jD++(Vc++((e.2.ks.drop (e.2.i+2)).flatMap (·.es)++lC)):=by
    have J:eR=(e.2.ks.drop (e.2.i+1)).flatMap (·.es)++lC:=J
    have hd:e.2.ks.drop (e.2.i+1)=k2::e.2.ks.drop (e.2.i+2):=by
     obtain⟨hb,ZP⟩:=List.getElem?_eq_some_iff.1 j8
     rw[←ZP]
     exact mF hb
    rw[J,hd,fE,←p8]
    simp[eB]
   exact zk 3 rfl (WP.ret (hr _ _ lZ x2 n2 jD _ Vd gC ZO p2 hF p5 p6 ⟨rfl,rfl,aa⟩ ((((s.ae [1,2]).del 4).del 3).del 2)))
theorem WQ (hT:W told)(hR:kf told N B rv A pg)(hN:N≤65536)(hL:L≤60){fx:Fx}{pO:List Nat}(pP:js F P L root (fx.map (·.2)) 0 lo hi n eL eR pO)(dL:EI N B ε)(dW:pg ε=P)(nT:∀m∈pO,m<N)(nL:fx.length=L)
 (s:Sat h (wyA w (gZ fx++[(x,0)])::nodsA P 1 fx::A ε::S)):
  Call ⟨Tryz.prog,told⟩ 57 [rv,w,.int .i64 1] h fun v h'=>∃aj,EI N B aj∧Sm N ε aj∧((eR=[]∧v=.aW [.cU,.int .i64 0]∧Sat h' (A aj::S)) ∨
   ∃y m jD I J gC,v=.aW [.ptr y 0,.int .i64 0]∧eR=jD++I∧jH J gC jD∧F 0 (jD.map dU)∧Sat h' (cH y m 0 (P m) (jD.map dU)::A aj::S)):=by
 have pz:(gZ fx++[(x,0)]).length=fx.length+1:=by
  rw[aX,gZ,ju,cq]
  rfl
 refine Call.of_wp (hT.free _ rfl) Tryz.func57 rfl rfl (zg rfl (aA.cB s rfl rfl rfl (fH rfl (by rfl)) ?_))
 intro kb h s
 have s:=s.ae [1,1,1,0]
 have UP:=DU (P:=Tryz.prog) s fo
 rw[pz] at UP
 refine zk 7 rfl (zo rfl (aC rfl rfl rfl UP) (zo rfl (az (r:=.int .i64 ((fx.length:Int)-1)) rfl rfl (by rw[show((fx.length:Int)-1)=((fx.length+1:Nat):Int)-2 by omega];exact ei (ay (by omega) (by omega)))) ?_))
 refine zk 2 rfl (WP.block ?_)
 refine Q4 hT hR hN hL fx 0 n lo hi eL eR pO ε [(x,0)] _ _ _ _ pP dL dW nT (by omega) s ⟨rfl,rfl,rfl,rfl,aa⟩ (fun E' h' aj k1 k2 k3 s' => ?_) fun E' h' aj y m jD I J gC k1 k2 k3 k4 k5 k6 s'=>⟨aa,_,xm k6.1 k6.2.1,aj,k4,k5,.inr ⟨y,m,jD,I,J,gC,rfl,k1,k2,k3,s'⟩⟩
 have s:=s'
 exact zK 5 rfl (WP.ret ⟨aa,_,rfl,aj,k2,k3,.inl ⟨k1,rfl,s⟩⟩)
end
def kj (es:List En)(k:Ky): Option En:=es.find? fun e => !decide (e.1<k)
section
theorem uO (h:∀e∈eL,e.1<k): kj (eL++es) k=kj es k:=by
 unfold kj
 rw[Er,List.find?_eq_none.2 fun e he=>by simp[h e he]]
 rfl
theorem BP.NO (hl:BP es k i)(he:es[i]?=some e): kj es k=some e:=by
 have hi:=(List.getElem?_eq_some_iff.1 he).1
 have hs:es=es.take i++es.drop i:=(iY i es).symm
 rw[hs,uO fun d J => ?_]
 ·have J:es.drop i=e::es.drop (i+1):=by
   obtain⟨_,h2⟩:=List.getElem?_eq_some_iff.1 he
   rw[←h2]
   exact mF hi
  have hk:¬ e.1<k:=List.not_lt.2 (hl.hi i e he (aM _))
  rw[J]
  simp[kj,hk]
 ·obtain⟨j,hj⟩:=List.mem_iff_getElem?.1 J
  have I:j<i:=by have:=(List.getElem?_eq_some_iff.1 hj).1;rw[cj] at this;omega
  rw[Ed I] at hj
  exact hl.lo j d hj I
theorem BP.all (J:BP es k es.length): ∀e∈es,e.1<k:=fun e he=>by
 obtain⟨j,I⟩:=List.mem_iff_getElem?.1 he
 exact J.lo j e I (List.getElem?_eq_some_iff.1 I).1
end
section
variable {told:cy} {k:List Nat}
theorem Cr (hT:WB told)(hR:kf told N B rv A pg)(hN:N≤65536)(hL:L≤60)(hX:bX X (b5 kv k))(hk:k.length≤96)(hv:Nv iM P L [] none cs es ps)(hp:cm (P r) 204 0 L cs)(dL:EI N B ε)(dW:pg ε=P)(hr:r<N)(nT:∀m∈ps,m<N)(s:Sat h (A ε::X::S)):
  Call ⟨Tryz.prog,told⟩ 16 [rv,.int .i64 (r:Int),kv] h fun v h'=>∃aj,EI N B aj∧Sm N ε aj∧match kj es k with
   |none=>v=.aW [.aV,.aV,.bool false,.int .i64 0]∧Sat h' (A aj::S)
   |some e=>∃kb vb,v=.aW [kb,vb,.bool true,.int .i64 0]∧Sat h' (aQ kb e.1::aQ vb e.2::A aj::S):=by
 have hW:=hT.w
 refine Call.of_wp (hW.free _ rfl) Tryz.func16 rfl rfl (zK 11 rfl (zo rfl (aC rfl rfl rfl (au ak (s.aq (k:=1) rfl hX))) (zC rfl cL (decide_eq_false (by omega)) ?_)))
 refine zk 8 rfl (zc rfl (NG hT hR hN (by omega) hX hv hp dL dW hr nT s) ?_)
 rintro v h ⟨w,x,n,lo,hi,eL,eR,pO,es',fx,mw,rfl,q1,q2,q3,q4,q5,q6,q7,q8,q9,r8,s⟩
 have Aa:(gZ fx).length=L:=by rw[gZ,ju,cq,r8]
 have nL:(gZ fx++[(x,0)]).length=L+1:=by rw[aX,Aa];rfl
 obtain⟨id,off,e1,e2,_⟩:=xy (P:=Tryz.prog) (j:=L) (x:=x) (i:=0) fo pV (by rw[g8 (by omega),Aa,gG];rfl) s
 refine zk 10 rfl (zC rfl aN (rfl) (zk 7 rfl (zo rfl (aC rfl rfl rfl (s.eY (j:=0) (n:=L+1) rfl (by rw[kg,nL]) (by decide) fo)) ?_)))
 refine zo rfl (az (r:=.int .i64 (L:Int)) rfl rfl (by rw[show((L:Nat):Int)=((L+1:Nat):Int)-1 by omega];exact ei (ay (by omega) (by omega)))) ?_
 refine zo rfl (bx (r:=.ptr id off) rfl rfl e1) (zf rfl (oc _ _) (zl rfl (e2 _ uY) (zk 7 rfl (zc rfl (Cg hT hX q2 (by have:=q3.fits;rw[cq] at this;omega) (s.ae [1,3])) ?_))))
 rintro v h ⟨i,rfl,hl,s⟩
 obtain⟨QW,Vb⟩:=q1.side q7
 have s0:=s
 obtain⟨bv,cv,us,s⟩:=bQ.1 s
 have pz:lenV Tryz.prog h 98 cv=some (.int .i64 (es'.length:Int)):=by
  have:=j3 (P:=Tryz.prog) bh s
  rwa [cq] at this
 refine zk 11 rfl (zY s 0 eW je rfl (zo rfl (aC rfl rfl rfl pz) ?_))
 rcases Au hl.le with cV|rfl
 ·obtain⟨e,he⟩:∃e,es'[i]?=some e:=⟨_,aG cV⟩
  have I:kj es k=some e:=by
   rw[←q8,eB,uO QW]
   unfold kj
   rw[Er]
   have:=hl.NO he
   unfold kj at this
   rw[this]
   rfl
  rw[I]
  refine zB rfl aL (by simp;omega) ?_
  refine zk 6 rfl (zc rfl (Jz hW q2 he s0) ?_)
  rintro v h ⟨kb,vb,rfl,s⟩
  exact zk 9 rfl (WP.ret ⟨aa,_,rfl,mw,q5,q6,kb,vb,rfl,(((s.ae [0,0,4]).del 6).del 5).del 4 |>.del 3⟩)
 ·have ki:pg mw=P:=by rw[←dW];funext m;exact hR.same q6 m
  have hrO:∀m∈pO,m<N:=fun m hm=>by
   have:=q9.mem_iff.1 (fP [n] hm)
   rcases List.mem_cons.1 this with rfl|h1
   ·exact hr
   ·exact nT m h1
  have aa6:∀e∈eL++es',e.1<k:=fun e he=>by
   rcases List.mem_append.1 he with h1|h1
   ·exact QW e h1
   ·exact hl.all e h1
  have I:kj es k=kj eR k:=by rw[←q8];exact uO aa6
  have s:=(U2 (by omega) (s0.ae [2])).ae [0,2,2]
  refine zC rfl aL (by simp) ?_
  refine zk 7 rfl (zc rfl (WQ hW hR hN hL q1 q5 ki hrO r8 s) ?_)
  rintro v h ⟨lZ,k1,k2,(⟨J,rfl,s⟩|⟨y,m,jD,Vc,Vd,gC,rfl,J,k3,k4,s⟩)⟩
  ·rw[I,J]
   refine zk 10 rfl (zC rfl aN (rfl) (zk 2 rfl (zo rfl (az (r:=.bool true) rfl rfl (by simp only[binV,eqV,Tryz.underlying92,fQ])) ?_)))
   exact zk 19 rfl (WP.ret ⟨aa,_,rfl,lZ,k1,q6.trans k2,rfl,(s.del 2).del 1⟩)
  ·have h_:0<jD.length:=by
    rw[iM,aH rfl] at k4
    exact List.length_pos_iff.2 fun q=>k4 (by rw[q];rfl)
   obtain⟨e,he⟩:∃e,jD[0]?=some e:=⟨_,aG h_⟩
   have zW:¬ e.1<k:=fun q=>oP q (Vb e (by rw[J];exact fP _ (aR he)))
   have acs:kj es k=some e:=by
    rw[I,J]
    cases jD with
    |nil=>simp at h_
    |cons d t =>
     simp only[iW,aD] at he
     subst he
     simp[kj,zW]
   rw[acs]
   have s0:=s
   obtain⟨bv2,Gt,us2,s⟩:=bQ.1 s
   have acu:lenV Tryz.prog h 98 Gt=some (.int .i64 (jD.length:Int)):=by
    have:=j3 (P:=Tryz.prog) bh s
    rwa [cq] at this
   refine zk 10 rfl (zC rfl aN (rfl) (zk 2 rfl (zo rfl (az (r:=.bool false) rfl rfl (by simp only[binV,eqV,Tryz.underlying92,fQ])) ?_)))
   refine zk 4 rfl (zY s 0 eW je rfl (zo rfl (aC rfl rfl rfl acu) (zC rfl ej (decide_eq_false (by omega)) ?_)))
   refine zk 7 rfl (zc rfl (Jz (i:=0) hW k3 he s0) ?_)
   rintro v h ⟨kb,vb,rfl,s⟩
   exact zk 9 rfl (WP.ret ⟨aa,_,rfl,lZ,k1,q6.trans k2,kb,vb,rfl,((s.del 5).del 4).del 2⟩)
end
def nextF : Ky→Option Ky
 |[]=>none
 |x::t=>match nextF t with
  |some u=>some (x::u)
  |none=>if x=255 then none else some [x+1]
theorem JB : ∀ {a u:Ky},nextF a=some u→a<u:=by
 intro a
 induction a with
 |nil=>intro u h;cases h
 |cons x t J =>
  intro u h
  simp only[nextF] at h
  cases I:nextF t with
  |some w =>
   rw[I] at h
   obtain rfl:=bp h
   exact List.cons_lt_cons_iff.2 (.inr ⟨rfl,J I⟩)
  |none =>
   rw[I] at h
   simp only at h
   split at h
   ·cases h
   ·obtain rfl:=bp h
    exact List.cons_lt_cons_iff.2 (.inl (sF x))
theorem JC : ∀ {a b:Ky},a<b→b.length≤a.length→(∀x∈b,x<256)→∃u,nextF a=some u∧¬ b<u:=by
 intro a
 induction a with
 |nil =>
  intro b h I _
  obtain rfl:b=[]:=iz (by simpa using I)
  exact absurd h (kH _)
 |cons x t ih =>
  intro b h I hb
  cases b with
  |nil=>exact absurd h (vF _)
  |cons y s =>
   simp only[nextF]
   have hy:=hb y bO
   rcases List.cons_lt_cons_iff.1 h with hxy|⟨rfl,J⟩
   ·cases hn:nextF t with
    |some w=>exact⟨_,rfl,fun q=>by rcases List.cons_lt_cons_iff.1 q with q|⟨q,_⟩<;>omega⟩
    |none =>
     simp only
     rw[ax (by omega)]
     exact⟨_,rfl,fun q=>by
      rcases List.cons_lt_cons_iff.1 q with q|⟨q,q2⟩
      ·omega
      ·exact vF _ q2⟩
   ·obtain⟨w,hw,hn⟩:=ih J (by simpa using I) fun z hz=>hb z (bR _ hz)
    rw[hw]
    exact⟨_,rfl,fun q=>by
     rcases List.cons_lt_cons_iff.1 q with q|⟨_,q2⟩
     ·omega
     ·exact hn q2⟩
theorem GC : ∀ {a:Ky},(∀x∈a,x=255)→nextF a=none:=by
 intro a
 induction a with
 |nil=>intro _;rfl
 |cons x t I =>
  intro h
  simp only[nextF]
  rw[I fun z J=>h z (bR _ J)]
  simp only
  rw[aH (h x bO)]
theorem TN : ∀ {a b:Ky} {x:Nat},x≠255→(∀y∈b,y=255)→nextF (a++x::b)=some (a++[x+1]):=by
 intro a
 induction a with
 |nil =>
  intro b x I J
  simp only[cO,nextF]
  rw[GC J]
  simp only
  rw[ax I]
 |cons z t ih =>
  intro b x I J
  simp only[g9,nextF]
  rw[ih I J]
theorem Q5 : ∀ {a u:Ky},nextF a=some u→u.length≤a.length:=by
 intro a
 induction a with
 |nil=>intro u h;cases h
 |cons x t J =>
  intro u h
  simp only[nextF] at h
  cases I:nextF t with
  |some w =>
   rw[I] at h
   obtain rfl:=bp h
   have:=J I
   simp only[aZ]
   omega
  |none =>
   rw[I] at h
   simp only at h
   split at h
   ·cases h
   ·obtain rfl:=bp h
    simp
theorem NP : ∀ {a u:Ky},nextF a=some u→(∀x∈a,x<256)→∀x∈u,x<256:=by
 intro a
 induction a with
 |nil=>intro u h;cases h
 |cons x t ih =>
  intro u h hb y I
  have hx:=hb x bO
  simp only[nextF] at h
  cases J:nextF t with
  |some w =>
   rw[J] at h
   obtain rfl:=bp h
   rcases List.mem_cons.1 I with rfl|I
   ·exact hx
   ·exact ih J (fun z hz=>hb z (bR _ hz)) y I
  |none =>
   rw[J] at h
   simp only at h
   split at h
   ·cases h
   ·obtain rfl:=bp h
    rw[List.mem_singleton.1 I]
    omega
theorem Q6 : ∀ {a:Ky},a<a++[0]:=by
 intro a
 induction a with
 |nil=>exact sH _ _
 |cons x t I=>exact List.cons_lt_cons_iff.2 (.inr ⟨rfl,I⟩)
theorem ZQ : ∀ {a b:Ky},a<b→¬ b<a++[0]:=by
 intro a
 induction a with
 |nil =>
  intro b h q
  cases b with
  |nil=>exact kH _ h
  |cons y s =>
   rcases List.cons_lt_cons_iff.1 q with q|⟨_,q⟩
   ·omega
   ·exact vF _ q
 |cons x t ih =>
  intro b h q
  cases b with
  |nil=>exact vF _ h
  |cons y s =>
   rcases List.cons_lt_cons_iff.1 h with I|⟨I,J⟩
   ·rcases List.cons_lt_cons_iff.1 q with q|⟨q,_⟩<;>omega
   ·rcases List.cons_lt_cons_iff.1 q with q|⟨_,q⟩
    ·omega
    ·exact ih J q
theorem TO (I:∀e∈es.take i,e.1<k)(J:∀e,es[i]?=some e→¬ e.1<k): kj es k=es[i]?:=by
 have hs:es=es.take i++es.drop i:=(iY i es).symm
 cases he:es[i]? with
 |none =>
  have:es.length≤i:=List.getElem?_eq_none_iff.1 he
  rw[gd this] at I
  exact List.find?_eq_none.2 fun e hm=>by simp[I e hm]
 |some e =>
  have hd:es.drop i=e::es.drop (i+1):=by
   obtain⟨hb,h3⟩:=List.getElem?_eq_some_iff.1 he
   rw[←h3]
   exact mF hb
  rw[hs,uO I,hd]
  simp[kj,J e he]
def uP (es:List En)(i:Nat)(k:Ky): Prop:=(∀e∈es.take i,e.1<k)∧∀j e,es[j]?=some e→i≤j→¬ e.1<k
theorem uP.NO (h:uP es i k): kj es k=es[i]?:=TO h.1 fun e he=>h.2 i e he (aM _)
theorem uP.nil : uP es 0 []:=⟨fun e he=>by simp at he,fun _ _ _ _=>vF _⟩
theorem Cs (hs:es.Pairwise fun a b=>a.1<b.1)(he:es[i]?=some e): (∀d∈es.take i,d.1<e.1)∧∀j d,es[j]?=some d→i<j→e.1<d.1:=by
 obtain⟨hi,hie⟩:=List.getElem?_eq_some_iff.1 he
 have hp:=List.pairwise_iff_getElem.1 hs
 refine⟨fun d hd => ?_,fun j d hd nW => ?_⟩
 ·obtain⟨j,hj⟩:=List.mem_iff_getElem?.1 hd
  have tC:j<i:=by have:=(List.getElem?_eq_some_iff.1 hj).1;rw[cj] at this;omega
  rw[Ed tC] at hj
  obtain⟨I,J⟩:=List.getElem?_eq_some_iff.1 hj
  rw[←J,←hie]
  exact hp j i I hi tC
 ·obtain⟨I,J⟩:=List.getElem?_eq_some_iff.1 hd
  rw[←J,←hie]
  exact hp i j hi I nW
theorem xW (he:es[i]?=some e)(I:d∈es.take (i+1)): d∈es.take i∨d=e:=by
 rw[mI,he] at I
 simpa using I
theorem uP.more (hs:es.Pairwise fun a b=>a.1<b.1)(he:es[i]?=some e): uP es (i+1) (e.1++[0]):=by
 obtain⟨J,h2⟩:=Cs hs he
 refine⟨fun d I => ?_,fun j d I hj=>ZQ (h2 j d I (by omega))⟩
 rcases xW he I with I|rfl
 ·exact List.lt_trans (J d I) Q6
 ·exact Q6
theorem uP.next {u:Ky}(hs:es.Pairwise fun a b=>a.1<b.1)(he:es[i]?=some e)(J:∀d∈es,d.1.length≤e.1.length)(hb:∀d∈es,∀x∈d.1,x<256)(hu:nextF e.1=some u): uP es (i+1) u:=by
 obtain⟨h1,h2⟩:=Cs hs he
 refine⟨fun d I => ?_,fun j d I hj => ?_⟩
 ·rcases xW he I with I|rfl
  ·exact List.lt_trans (h1 d I) (JB hu)
  ·exact JB hu
 ·have hm:=aR I
  obtain⟨w,hw,hn⟩:=JC (h2 j d I (by omega)) (J d hm) (hb d hm)
  rw[hu] at hw
  obtain rfl:=bp hw
  exact hn
theorem uP.last (hs:es.Pairwise fun a b=>a.1<b.1)(he:es[i]?=some e)(J:∀d∈es,d.1.length≤e.1.length)(hb:∀d∈es,∀x∈d.1,x<256)(hu:nextF e.1=none): i+1=es.length:=by
 obtain⟨h1,h2⟩:=Cs hs he
 have hi:=(List.getElem?_eq_some_iff.1 he).1
 by_cases hq:i+1<es.length
 ·exfalso
  have I:es[i+1]?=some (es[i+1]'hq):=aG _
  have hm:=aR I
  obtain⟨w,hw,_⟩:=JC (h2 (i+1) _ I (by omega)) (J _ hm) (hb _ hm)
  rw[hu] at hw
  cases hw
 ·omega
section
variable {v:V} {l:List Nat}
theorem JD (s:Sat h S)(I:∀b∈l,b<256): ∃v h',convV Tryz.prog h 9 29 (.str l)=none∧convB Tryz.prog h 9 29 (.str l)=some (v,h')∧Sat h' (.bK v l::S):=by
 refine⟨.sl h.next 0 l.length (.rest 1 0),h.new (.cells l.length (ofBytes l) true),?_,?_,?_⟩
 ·simp only[convV,mB,ak]
 ·simp only[convB,mB,ak,Tryz.underlying5,d_]
  rfl
 ·exact(s.new (.cells l.length (ofBytes l) true)).freeze.dG fun m r hm=>⟨I,.inr ⟨h.next,0,.rest 1 0,l.length,ofBytes l,true,rfl,hm,by rw[cQ],by omega,by rw[eC,gd (by rw[cQ];exact aM _)],rfl⟩⟩
theorem NQ (s:Sat h (pt id (.cells 0 [] false)::S))(J:∀b∈l,b<256)(h1:1≤l.length)(h2:l.length≤1000000): ∃v h',appendV Tryz.prog h #[29,9] (.sl id 0 0 (.exact 0)) (.str l)=some (v,h')∧Sat h' (aQ v l::S):=by
 obtain⟨i,hi,i1,i2⟩:=AU
 have hg:=s.row (k:=0) rfl
 have I:jI (0+l.length) 1=true:=mh.2 ⟨by omega,by omega⟩
 refine⟨.sl h.next 0 l.length (.rest 1 0),h.new (.cells l.length (ofBytes l) false),?_,?_⟩
 ·unfold appendV
  simp only[ak,mB,hi,oC,i1,i2,V.cells,aZ,bI,srcV]
  rw[show(Nat.ble 1 1&&Nat.ble 1 4096&&Nat.beq (0+1) 1)=true from rfl,ag,show Nat.beq 1 1=true from rfl,ag]
  simp only
  rw[eD (by omega:l.length≠0),aS,show Nat.ble (0+l.length) 0=false from by cases hq:Nat.ble (0+l.length) 0 with|false=>rfl|true=>have:=aP.1 hq;omega,aS]
  rw[I,ag,show rdN h id 0 (0*1)=some [] by simp[rdN,hg];rfl]
  simp only[iU,cO,ep,cz]
 ·exact((s.ae [0]).drop.new (.cells l.length (ofBytes l) false)).dG fun m r hm=>⟨J,.inr (.inr ⟨h.next,rfl,hm,h1⟩)⟩
end
section
variable {told:cy} {fs:List En}
theorem Q7 {P:Program}{fs:Array Field}{a b:En}(I:P.underlying t=some (.struct fs))(hs:P.stoodInHeld t=false)(J:strFs P 0 fs.toList=true)(hn:fs.toList.length=2):
  eqArr P t [.str a.1,.str a.2] [.str b.1,.str b.2]=some (decide (a=b)):=by
 have hl:Nat.beq fs.toList.length [V.str a.1,V.str a.2].length=true:=by rw[hn];rfl
 unfold eqArr
 simp only[I,hs,J,hl,vG,jc,ag,strsBeq,mO]
 congr 1
 obtain⟨a1,a2⟩:=a
 obtain⟨b1,b2⟩:=b
 by_cases h1:a1=b1<;>by_cases h2:a2=b2<;>simp[h1,h2]
theorem WR {x:Operand}{a b:En}: binV Tryz.prog h .neq 53 x y (.agg [.str a.1,.str a.2]) (.agg [.str b.1,.str b.2])=some (.bool (!decide (a=b))):=by
 have e:=Q7 (P:=Tryz.prog) (a:=a) (b:=b) Tryz.underlying53 (by kernel_rfl) (by kernel_rfl) (by kernel_rfl)
 simp only[binV,e,fQ]
noncomputable def smL : Code:=cE [1,1,0,1,0,0] ((Tryz.f68.body).getD .skip)
theorem NR : ∀(j i:Nat) (h:H) (E:List (Nat×V)) (Q:Ex→List (Nat×V)→H→Prop),i+j=es.length→es.length≤1000000 →
  Sat h (.arr 2 lv (cD es)::.arr 2 rv (cD es)::S)→Has E [(0,lv),(1,rv),(5,.int .i64 (i:Int))] →
  (∀E' h',Sat h' (.arr 2 lv (cD es)::.arr 2 rv (cD es)::S)→Q (.exit 0) E' h')→WP ⟨Tryz.prog,told⟩ 26 (.loop smL) E h Q:=by
 intro j
 induction j with
 |zero =>
  intro i h E Q hi hlen s hE hq
  have I:=s.eY (P:=Tryz.prog) (j:=0) (n:=es.length) rfl (dF _) (by decide) iO
  refine WP.loop (WP.has hE (zK 5 rfl (zo rfl (aC rfl rfl rfl I) (zC rfl aL (by simp;omega) ?_))))
  exact zk 2 rfl (WP.exit (hq _ _ s))
 |succ j ih =>
  intro i h E Q hi hlen s hE hq
  obtain⟨e,he⟩:∃e,es[i]?=some e:=⟨_,aG (by omega)⟩
  have I:=s.eY (P:=Tryz.prog) (j:=0) (n:=es.length) rfl (dF _) (by decide) iO
  obtain⟨id,off,e1,_,_,e2⟩:=D4 (P:=Tryz.prog) iO BY he s
  obtain⟨uL,J,e3,_,_,e4⟩:=D4 (P:=Tryz.prog) iO BY he (s.ae [1])
  refine WP.loop (WP.has hE (zK 5 rfl (zo rfl (aC rfl rfl rfl I) (zB rfl aL (by simp;omega) ?_))))
  refine zk 4 rfl (WP.block (zw (WP.drawn [af,af,af,af,af,af,af,af,af] rfl (by kernel_rfl) (by kernel_rfl) ?_)))
  refine zM rfl (zM rfl (zO rfl (bx (r:=.ptr id off) rfl rfl e1) (zL rfl (e2 Sd) (zM rfl (zM rfl (zO rfl (bx (r:=.ptr uL J) rfl rfl e3) (zL rfl (e4 Sd) (aE.rX rfl rfl rfl rfl (az rfl rfl WR) (by simp) ?_))))))))
  refine aE.nil ⟨⟨aa,aa,aa,aa,aa,aa,aa,aa,aa,aa⟩,?_⟩
  refine zj rfl (WP.skip (zr rfl (zm rfl (zb rfl (by exact aO (ay (by omega) (by omega))) ?_))))
  refine za rfl (zv ?_)
  exact ih (i+1) _ _ Q (by omega) hlen s ⟨rfl,rfl,rfl,aa⟩ hq
theorem TP (hT:W told)(hlen:es.length≤1000000)(s:Sat h (.arr 2 lv (cD es)::.arr 2 rv (cD es)::S)):
  Call ⟨Tryz.prog,told⟩ 68 [lv,rv] h fun v h'=>v=.bool true∧Sat h' (.arr 2 lv (cD es)::.arr 2 rv (cD es)::S):=by
 have I:=s.eY (P:=Tryz.prog) (j:=0) (n:=es.length) rfl (dF _) (by decide) iO
 have J:=s.eY (P:=Tryz.prog) (j:=1) (n:=es.length) rfl (dF _) (by decide) iO
 refine Call.of_wp (hT.free _ rfl) Tryz.func68 rfl rfl (zK 8 rfl (zo rfl (aC rfl rfl rfl I) (zm rfl (zo rfl (aC rfl rfl rfl J) (zC rfl aN (by simp) ?_)))))
 refine zk 8 rfl (WP.block ?_)
 refine NR es.length 0 _ _ _ (by omega) hlen s ⟨rfl,rfl,rfl,aa⟩ (fun E' h' s' => ?_)
 have s:=s'
 exact WP.has (F:=[]) aa (zK 4 rfl (WP.ret ⟨aa,_,rfl,rfl,s⟩))
end
theorem Q8 {l:List Nat}{b:Nat}(I:l[i]?=some b): indexV Tryz.prog 9 (.str l) (.int .i64 (i:Int))=some (.int .u8 (b:Int)):=by
 simp only[indexV,mB,dm]
 rw[show decide ((0:Int)≤(i:Int))=true by simp,ag,eX,I]
theorem Q9 {l:List Nat}{b:Nat}(I:b≤l.length): sliceV Tryz.prog h 9 (.str l) none (some b) none=some (.str (l.take b)):=by
 simp only[sliceV,mB,eo,cS,eC]
 rw[aP.2 (eN b),aP.2 I]
 rfl
theorem aa7 {P:Program}{x:Operand}{a:List Nat}(I:a.length+b.length≤1000000): binV P h .add t x y (.str a) (.str b)=some (.str (a++b)):=by
 simp only[binV,strV]
 rw[aP.2 (by omega),ag]
section
variable {told:cy} {a:List Nat}
noncomputable def nxA : Code:=cE [1,1,0,0,0] ((Tryz.f152.body).getD .skip)
theorem NS : ∀(n:Nat) (h:H) (E:List (Nat×V)) (Q:Ex→List (Nat×V)→H→Prop),n≤a.length→a.length≤1000→(∀x∈a.drop n,x=255)→Has E [(0,.str a),(4,.int .i64 (n:Int))]→Sat h S →
  (∀E' n,n≤a.length→(∀x∈a.drop n,x=255)→(n=0∨∃m x,n=m+1∧a[m]?=some x∧x≠255)→Has E' [(0,.str a),(4,.int .i64 (n:Int))]→Q (.exit 0) E' h)→WP ⟨Tryz.prog,told⟩ 35 (.loop nxA) E h Q:=by
 intro n
 induction n with
 |zero =>
  intro h E Q hn hl J hE s hq
  refine WP.loop (WP.has hE (zK 4 rfl (zC rfl cL (by simp) ?_)))
  exact zk 9 rfl (WP.exit (hq _ 0 hn J (.inl rfl) ⟨rfl,rfl,aa⟩))
 |succ n ih =>
  intro h E Q hn hl J hE s hq
  obtain⟨x,hx⟩:∃x,a[n]?=some x:=⟨_,aG (by omega)⟩
  refine WP.loop (WP.has hE (zK 4 rfl (zB rfl cL (by simp) ?_)))
  refine zk 3 rfl (zo rfl (az (r:=.int .i64 (n:Int)) rfl rfl (by rw[show(n:Int)=((n+1:Nat):Int)-1 by omega];exact ei (ay (by omega) (by omega)))) ?_)
  refine zo rfl (HQ rfl rfl (Q8 hx)) ?_
  by_cases I:x=255
  ·subst I
   refine zB rfl ej (by simp) ?_
   refine zk 4 rfl (WP.block (zK 2 rfl (zo rfl (az (r:=.int .i64 (n:Int)) rfl rfl (by rw[show(n:Int)=((n+1:Nat):Int)-1 by omega];exact ei (ay (by omega) (by omega)))) ?_)))
   refine za rfl (zv ?_)
   exact ih _ _ Q (by omega) hl (fun y hy=>by
    rw[mF (show n<a.length by omega)] at hy
    rcases List.mem_cons.1 hy with rfl|hy
    ·rw[aG (by omega)] at hx
     exact bp hx
    ·exact J y hy) ⟨rfl,rfl,aa⟩ s hq
  ·skip
   refine zC rfl ej (by simp;omega) ?_
   exact zk 3 rfl (WP.exit (hq _ (n+1) hn J (.inr ⟨n,x,rfl,hx,I⟩) ⟨rfl,rfl,aa⟩))
theorem TQ (hT:W told)(hl:a.length≤1000)(hb:∀x∈a,x<256)(s:Sat h S):
  Call ⟨Tryz.prog,told⟩ 152 [.str a] h fun v h'=>v=.aW [.str ((nextF a).getD []),.bool (nextF a).isSome]∧Sat h' S:=by
 refine Call.of_wp (hT.free _ rfl) Tryz.func152 rfl rfl (zK 8 rfl (zo rfl (aC rfl rfl rfl (K2 mB)) (zk 3 rfl (WP.block ?_))))
 refine NS a.length _ _ _ (aM _) hl (by simp) ⟨rfl,rfl,aa⟩ s (fun E' n hn hd J hE => ?_)
 refine WP.has hE (zK 4 rfl ?_)
 rcases J with rfl|⟨m,x,rfl,J,acv⟩
 ·have hn:nextF a=none:=GC hd
  rw[hn]
  refine zB rfl ej (by simp) ?_
  exact zk 7 rfl (WP.ret ⟨aa,_,rfl,rfl,s⟩)
 ·obtain⟨hm,hxe⟩:=List.getElem?_eq_some_iff.1 J
  have ha:a=a.take m++x::a.drop (m+1):=by rw[←hxe];simp
  have y8:nextF a=some (a.take m++[x+1]):=by
   conv=>lhs;rw[ha]
   exact TN acv hd
  have qi:a.take (m+1)=a.take m++[x]:=by rw[mI,J];rfl
  have I:(a.take m).length=m:=by rw[cj];omega
  have hxb:x<256:=hb x (aR J)
  rw[y8]
  refine zC rfl ej (by simp;omega) ?_
  refine zk 5 rfl ?_
  obtain⟨h1,e3,s1⟩:=Bc (P:=Tryz.prog) s ak Us K3 rfl (by decide)
  refine aA.any rfl rfl rfl (OpR.of (R:=fun v h'=>v=.sl h.next 0 0 (.exact 0)∧h'=h1) (gI rfl e3) ⟨rfl,rfl⟩) ?_
  rintro v h' ⟨rfl,rfl⟩
  obtain⟨v,h2,e4,s2⟩:=NQ (l:=a.take (m+1)) s1 (fun y hy=>hb y (iA hy)) (by rw[qi,aX,I];simp) (by rw[cj];omega)
  refine zk 2 rfl (zo rfl (bS (p:=none) (q:=some (.int .i64 ((m+1:Nat):Int))) (m:=none) (p':=none) (q':=some (m+1)) (m':=none) rfl rfl rfl rfl rfl (by rw[b9 (by omega),dm]) rfl (Q9 hm)) ?_)
  refine aA.any rfl rfl rfl (OpR.of (R:=fun v' h'=>v'=v∧h'=h2) (iG rfl rfl e4) ⟨rfl,rfl⟩) ?_
  rintro v h ⟨rfl,rfl⟩
  rw[qi] at s2
  have rZ:(a.take m++[x])[m]?=some x:=by rw[g8 (by omega),I,gG];rfl
  obtain⟨id,off,e5,e6⟩:=c7 (s2.buf (k:=0) rfl).view rZ
  obtain⟨id7,acw,e7,h3,e8,s3⟩:=gD s2 (i:=m) (b:=x+1) (by rw[aX,I];simp) (by omega)
  have ee:V.ptr id off=V.ptr id7 acw:=by rw[e5] at e7;exact bp e7
  rw[←ee] at e8
  have acy:(a.take m++[x]).set m (x+1)=a.take m++[x+1]:=by rw[Ef _ _ (by omega),I,gG];rfl
  rw[acy] at s3
  refine zk 6 rfl (zo rfl (az (r:=.int .i64 (m:Int)) rfl rfl (by rw[show(m:Int)=((m+1:Nat):Int)-1 by omega];exact ei (ay (by omega) (by omega)))) ?_)
  refine zo rfl (bx (r:=.ptr id off) rfl rfl e5) (zl rfl e6 (zo rfl (az (r:=.int .u8 ((x+1:Nat):Int)) rfl rfl (by rw[show((x+1:Nat):Int)=(x:Int)+1 by omega];exact aO (ru (by omega) (by omega)))) ?_))
  refine zo rfl (bx (r:=.ptr id off) rfl rfl e5) (zS rfl (⟨h3,e8,s3⟩) ?_)
  rintro h s
  exact zk 4 rfl (zo rfl (b8 rfl (uE (s.aq (k:=0) rfl (aK _ _)))) (zk 3 rfl (WP.ret ⟨aa,_,rfl,rfl,s.drop⟩)))
end
section
variable {told:cy} {root:Nat} {Fz:Int}
noncomputable def liA : Code:=cE [1,1,1,0,1,0,0] ((Tryz.f66.body).getD .skip)
theorem Kw (hT:WB told)(hR:kf told N B rv A pg)(hN:N≤65536)(hL:L≤60)(hv:Nv iM P L [] none cs es ps)(hp:cm (P root) 204 0 L cs)(hr:root<N)(nT:∀m∈ps,m<N)(hb:∀d∈es,∀x∈d.1,x<256)(hlen:es.length≤400)(hm:(es.length:Int)≤Fz)(Hu:Fz<1000000):
  ∀(j i:Nat) (k:Ky) (ov:V) (ε:bw) (h:H) (E:List (Nat×V)) (S:List aI) (Q:Ex→List (Nat×V)→H→Prop),i+j=es.length→uP es i k→(∀x∈k,x<256)→k.length≤96→EI N B ε→pg ε=P →
  Sat h (.arr 2 ov (cD (es.take i))::A ε::S)→Has E [(0,rv),(1,.int .i64 (root:Int)),(2,.int .i64 Fz),(8,ov),(9,.str k),(10,.int .i64 (i:Int))] →
  (∀E' h' I aj,EI N B aj→Sm N ε aj→Has E' [(6,I),(7,.bool true)]→Sat h' (.arr 2 I (cD es)::A aj::S)→Q .ret E' h')→WP ⟨Tryz.prog,told⟩ 61 (.loop liA) E h Q:=by
 have lB:=hv.ok
 intro j
 induction j with
 |zero =>
  intro i k ov ε h E S Q hi rZ wC wk dL dW s hE hq
  obtain rfl:i=es.length:=hi
  obtain⟨kv,h1,c1,c2,s1⟩:=JD s wC
  have ue:es[es.length]?=none:=List.getElem?_eq_none_iff.2 (aM _)
  refine WP.loop (WP.has hE (zK 5 rfl (zB rfl wT (by simp;omega) ?_)))
  refine zk 4 rfl (WP.block (zK 5 rfl (aA.any rfl rfl rfl (OpR.of (R:=fun v h'=>v=kv∧h'=h1) (s8 rfl c1 c2) ⟨rfl,rfl⟩) ?_)))
  rintro v h ⟨rfl,rfl⟩
  refine zc rfl (Cr hT hR hN hL (aY _ _) wk hv hp dL dW hr nT (s1.ae [2,0])) ?_
  rintro v h ⟨J,k1,k2,k3⟩
  rw[rZ.NO,ue] at k3
  obtain⟨rfl,s⟩:=k3
  refine zk 14 rfl (zC rfl aN (rfl) (zk 7 rfl (zo rfl (eG rfl rfl) (zk 8 rfl (WP.ret (hq _ _ ov J k1 k2 ⟨rfl,rfl,aa⟩ ?_))))))
  rw[ja] at s
  exact s.ae [1,0]
 |succ j ih =>
  intro i k ov ε h E S Q hi rZ wC wk dL dW s hE hq
  obtain⟨e,he⟩:∃e,es[i]?=some e:=⟨_,aG (by omega)⟩
  have Gk:=aR he
  have qi:es.take (i+1)=es.take i++[e]:=by rw[mI,he];rfl
  have Bz:=lB.sz e Gk
  have HI:=hb e Gk
  obtain⟨kv,h1,c1,c2,s1⟩:=JD s wC
  refine WP.loop (WP.has hE (zK 5 rfl (zB rfl wT (by simp;omega) ?_)))
  refine zk 4 rfl (WP.block (zK 5 rfl (aA.any rfl rfl rfl (OpR.of (R:=fun v h'=>v=kv∧h'=h1) (s8 rfl c1 c2) ⟨rfl,rfl⟩) ?_)))
  rintro v h ⟨rfl,rfl⟩
  refine zc rfl (Cr hT hR hN hL (aY _ _) wk hv hp dL dW hr nT (s1.ae [2,0])) ?_
  rintro v h ⟨J,k1,k2,k3⟩
  rw[rZ.NO,he] at k3
  obtain⟨kb,vb,rfl,s⟩:=k3
  have ki:pg J=P:=by rw[←dW];funext m;exact hR.same k2 m
  refine zk 14 rfl (zC rfl aN (rfl) (zk 7 rfl (zo rfl (eG rfl rfl) (zk 7 rfl (zo rfl (b8 rfl (uE (s.aq (k:=0) rfl (aK _ _)))) (zm rfl (zo rfl (b8 rfl (uE (s.aq (k:=1) rfl (aK _ _)))) ?_)))))))
  obtain⟨xv,h1,w,h2,e3,e4,s2⟩:=Cq (e:=e) (by rw[cj];omega) (s.ae [3])
  rw[←qi] at s2
  refine zo rfl (cP rfl (by rw[Yp];rfl)) ?_
  refine aA.any rfl rfl rfl (OpR.of (R:=fun v h'=>v=xv∧h'=h1) (gI rfl e3) ⟨rfl,rfl⟩) ?_
  rintro xv h1 ⟨rfl,rfl⟩
  refine aA.any rfl rfl rfl (OpR.of (R:=fun v h'=>v=w∧h'=h2) (iG rfl rfl e4) ⟨rfl,rfl⟩) ?_
  rintro w h2 ⟨rfl,rfl⟩
  have s:=s2
  dsimp only[aT,bringA] at s
  have DC:∀d∈es,d.1.length≤96:=fun d hd=>(lB.sz d hd).2.1
  refine zk 5 rfl (zo rfl (b8 rfl (uE (s.aq (k:=1) rfl (aK _ _)))) (zo rfl (az (r:=.str (e.1++[0])) rfl rfl (aa7 (a:=e.1) (b:=[0]) (by simp only[aZ,bI];omega))) ?_))
  refine zk 5 rfl (zo rfl (aC rfl rfl rfl (K2 mB)) ?_)
  by_cases Vf:e.1.length=96
  ·skip
   refine zB rfl cL (by simp only[aX,aZ,bI,Vf];decide) ?_
   refine zk 5 rfl (zo rfl (b8 rfl (uE (s.aq (k:=1) rfl (aK _ _)))) (zc rfl (TQ hT.w (by omega) HI s) ?_))
   rintro v h ⟨rfl,s⟩
   cases y8:nextF e.1 with
   |none =>
    have Ve:=uP.last lB.jX he (fun d hd=>by rw[Vf];exact DC d hd) hb y8
    rw[Ve,ja] at s
    exact zk 10 rfl (zo rfl (eG rfl rfl) (zk 8 rfl (WP.ret (hq _ _ _ J k1 k2 ⟨rfl,rfl,aa⟩ ((s.ae [0,2]).del 3 |>.del 2)))))
   |some u =>
    refine zk 5 rfl (zv (zw (zg rfl (zm rfl (zo rfl (eG rfl rfl) (zv (zj rfl (WP.skip (zr rfl (zk 2 rfl (zv (zr rfl (zm rfl (zb rfl (by exact aO (ay (by omega) (by omega))) ?_))))))))))))))
    refine za rfl (zv ?_)
    have qp:u.length≤96:=by rw[←Vf];exact Q5 y8
    have Pq:∀x∈u,x<256:=NP y8 HI
    have Xe:(i:Int)+1=((i+1:Nat):Int):=by omega
    exact ih (i+1) u _ J _ _ S Q (by omega) (uP.next lB.jX he (fun d hd=>by rw[Vf];exact DC d hd) hb y8) Pq qp k1 ki ((s.ae [0,2]).del 3 |>.del 2) ⟨rfl,rfl,rfl,rfl,rfl,rfl,aa⟩ (fun E' h' I aj g1 g2=>hq E' h' I aj g1 (k2.trans g2))
  ·skip
   refine zC rfl cL (by simp;omega) ?_
   refine zv (zj rfl (WP.skip (zr rfl (zm rfl (zb rfl (by exact aO (ay (by omega) (by omega))) ?_)))))
   refine za rfl (zv ?_)
   exact ih (i+1) _ _ J _ _ S Q (by omega) (uP.more lB.jX he) (fun x hx=>by
    rcases List.mem_append.1 hx with hx|hx
    ·exact HI x hx
    ·rw[List.mem_singleton.1 hx];decide) (by rw[aX];simp;omega) k1 ki ((s.ae [0,2]).del 3 |>.del 2) ⟨rfl,rfl,rfl,rfl,rfl,rfl,aa⟩ (fun E' h' I aj g1 g2=>hq E' h' I aj g1 (k2.trans g2))
theorem Q_ (hT:WB told)(hR:kf told N B rv A pg)(hN:N≤65536)(hL:L≤60)(hv:Nv iM P L [] none cs es ps)(hp:cm (P root) 204 0 L cs)(hr:root<N)(I:∀m∈ps,m<N)(hb:∀d∈es,∀x∈d.1,x<256)(hlen:es.length≤400)(hm:(es.length:Int)≤Fz)(J:Fz<1000000)(dL:EI N B ε)(dW:pg ε=P)(s:Sat h (A ε::S)):
  Call ⟨Tryz.prog,told⟩ 66 [rv,.int .i64 (root:Int),.int .i64 Fz] h fun v h'=>∃ov aj,v=.aW [ov,.bool true]∧EI N B aj∧Sm N ε aj∧Sat h' (.arr 2 ov (cD es)::A aj::S):=by
 refine Call.of_wp (hT.w.free _ rfl) Tryz.func66 rfl rfl (zK 18 rfl (WP.block ?_))
 refine Kw hT hR hN hL hv hp hr I hb hlen hm J es.length 0 [] .aV ε _ _ S _ (by omega) uP.nil (by simp) (by simp) dL dW s.kS ⟨rfl,rfl,rfl,rfl,rfl,rfl,aa⟩ (fun E' h' D5 aj k1 k2 hE s' => ?_)
 exact⟨aa,_,xm hE.1 hE.2.1,D5,aj,rfl,k1,k2,s'⟩
end
def TR (cap:Cap)(N:Nat): Prop:=match cap with
 |.exact c=>c=N
 |.rest e _=>e=1
def mT (v:V)(cs:List V): aI:=.xs fun o:Nat×Nat×Cap×List V=>.an (.pt o.1 (.cells o.2.1 (cs++o.2.2.2) false))
 (.pu (v=.sl o.1 0 cs.length o.2.2.1∧cs.length+o.2.2.2.length=o.2.1∧1≤o.2.1∧(cs++o.2.2.2).all storable=true∧TR o.2.2.1 o.2.1))
section
variable {P:Program} {v:V} {cs:List V} {e:TypeId}
theorem xF (s:Sat h (mT v cs::S)): ∃id N cap rest,v=.sl id 0 cs.length cap∧cs.length+rest.length=N∧1≤N∧(cs++rest).all storable=true∧TR cap N∧Sat h (pt id (.cells N (cs++rest) false)::S):=by
 obtain⟨⟨id,N,cap,rest⟩,s⟩:=iC.1 s
 obtain⟨_,_,_,_,I⟩:=s.at (k:=0) rfl
 obtain⟨_,q1,J,q3,q4,q5⟩:=I
 exact⟨id,N,cap,rest,q1,J,q3,q4,q5,s.dG fun _ _ h=>h.1⟩
theorem Ag {row rest:List V}(I:row=cs++rest)(J:cs.length+rest.length=N)(q3:1≤N)(q4:row.all storable=true)(q5:TR cap N)(s:Sat h (pt id (.cells N row false)::S)): Sat h (mT (.sl id 0 cs.length cap) cs::S) :=
 s.dG fun _ _ h=>⟨(id,N,cap,rest),by subst I;exact h,by subst I;exact⟨rfl,J,q3,q4,q5⟩⟩
theorem ZR (J:1≤cs.length)(s:Sat h (.arr 1 v cs::S)): Sat h (mT v cs::S):=by
 have I:cs≠[]:=fun q=>by rw[q] at J;simp at J
 have lq:=s.G5 (j:=0) rfl
 exact s.dG fun m r hm=>by
  obtain⟨h1,h2⟩:=hm
  rcases h2 with⟨_,q⟩|⟨id,n,cap,N,rest,rfl,hg,h3,h4,h5,h6⟩
  ·exact absurd q I
  ·have hN:1≤N:=by rw[←h4];omega
   have hn:cs.length=n:=by omega
   subst hn
   refine⟨(id,N,cap,rest),hg,rfl,h4,hN,by rw[Ax,h1,h5];rfl,?_⟩
   cases cap with
   |exact c=>show c=N;omega
   |rest e alt=>exact h6.1
theorem L7 (s:Sat h (mT v cs::S))(hu:P.underlying t=some (.slice e)): lenV P h t v=some (.int .i64 (cs.length:Int)):=by
 obtain⟨id,N,cap,rest,rfl,_⟩:=xF s
 simp only[lenV,hu]
theorem ZS {c:V}(s:Sat h (mT v cs::S))(J:cs[i]?=some c)(hu:P.underlying t=some (.slice e))(I:bg P e=some 1):
  ∃id off,indexAddrV P t v (.int .i64 (i:Int))=some (.ptr id off)∧∀t',isAggT P t'=some false→loadV P h t' (.ptr id off)=some c:=by
 obtain⟨id,N,cap,rest,rfl,q2,q3,q4,q5,s⟩:=xF s
 have hi:=(List.getElem?_eq_some_iff.1 J).1
 refine⟨id,i,?_,fun t' ht=>yF ht (s.row (k:=0) rfl) ?_⟩
 ·simp only[indexAddrV,hu,I,dm]
  rw[show(decide ((0:Int)≤(i:Int))&&decide ((i:Int)<(cs.length:Int)))=true by simp;omega,ag,ep,cz]
 ·rw[eX,qw hi,J]
theorem WU {c:V}(s:Sat h (mT v (cs++[c])::S))(hu:P.underlying t=some (.slice e))(J:bg P e=some 1): ∃v',sliceV P h t v none (some cs.length) none=some v'∧Sat h (mT v' cs::S):=by
 obtain⟨id,N,cap,rest,rfl,q2,q3,q4,I,s⟩:=xF s
 rw[aX,vm] at q2
 refine⟨.sl id 0 cs.length cap,?_,Ag (rest:=c::rest) (by simp) (by simp;omega) q3 q4 I s⟩
 cases cap with
 |exact m =>
  have I:m=N:=I
  subst I
  simp only[sliceV,hu,J,eo,cS]
  rw[show(Nat.ble 0 cs.length&&Nat.ble cs.length m)=true by simp;omega,ag,fR,fR,jY,dA]
  cases Nat.beq m 0<;>rfl
 |rest z alt =>
  have I:z=1:=I
  subst I
  simp only[sliceV,hu,J,eo,cS]
  rw[show(Nat.beq 1 1&&Nat.ble 1 1)=true from rfl,ag,show(Nat.ble 0 cs.length&&(Nat.ble cs.length (cs++[c]).length||Nat.ble cs.length (fC h id 0 1)))=true by simp,ag,fR,jY,dA,show Nat.beq 0 0=true from rfl,ag]
theorem TS {x:V}{i:TypeInfo}(hx:storable x=true)(uU:srcV h 1 w=some ([x],1))(hl:cs.length≤1000000)(s:Sat h (mT v cs::S))(hu:P.underlying t=some (.slice e))(hi:P.info? e=some i)(hz:zeroT P e=some z)(hk:i.size=1)(hb:i.bytes≤4096)(hzl:z.cells.length=1):
  ∃v' h',appendV P h #[t,t] v w=some (v',h')∧Sat h' (mT v' (cs++[x])::S):=by
 obtain⟨id,N,cap,rest,rfl,q2,q3,q4,q5,sp⟩:=xF s
 have hg:=sp.row (k:=0) rfl
 have nX:(cs.length+1)*i.bytes≤140737488355328:=cX (oN (by omega:cs.length+1≤1000001) hb) (by decide)
 have KV:jI (cs.length+1) i.bytes=true:=mh.2 ⟨by omega,nX⟩
 rw[Ax,bF] at q4
 have I:∀ {h0:H} {S0:List aI},Sat h0 S0→Sat (iU h0 1 cs [x] (cs.length+1)).2 (mT (iU h0 1 cs [x] (cs.length+1)).1 (cs++[x])::S0):=fun {h0 S0} s0=>by
  have e:(iU h0 1 cs [x] (cs.length+1)).1=.sl h0.next 0 (cs++[x]).length (.rest 1 0):=by simp[iU]
  rw[e]
  have:=s0.new (.cells ((cs.length+1)*1) (cs++[x]) false)
  exact Ag (rest:=[]) (by simp) (by simp) (by simp) (by rw[Ax,q4.1];simp[hx]) rfl this
 unfold appendV
 simp only[hu,hi,hz,hk,uU]
 rw[show(Nat.ble 1 1&&Nat.ble i.bytes 4096&&Nat.beq z.cells.length 1)=true by rw[aP.2 hb,qy hzl];rfl,ag]
 rw[show Nat.beq 1 0=false from rfl,aS]
 have J:cs.length+1≤N→wrN h id (0+cs.length*1) [x]=some (h.put id (some (.cells N (cs++(x::rest.drop 1)) false)))∧Sat (h.put id (some (.cells N (cs++(x::rest.drop 1)) false))) (mT (.sl id 0 (cs.length+1) cap) (cs++[x])::S):=fun hN=>by
  constructor
  ·rw[E3 hg (by rw[aX];exact q2) (by simp;omega)]
   simp only[ep,cz,vm]
   rw[gj rfl,sG,vl (by omega),show cs.length+1-cs.length=1 by omega]
   rfl
  ·have:=sp.put (k:=0) (o':=.cells N (cs++(x::rest.drop 1)) false) rfl
   have:=Ag (cs:=cs++[x]) (rest:=rest.drop 1) (cap:=cap) (by simp) (by simp;omega) q3 (by
    rw[Ax,q4.1]
    simp only[kI,hx,AA]
    rw[mJ] at q4 ⊢
    exact fun y hy=>List.all_eq_true.1 q4.2 y (gF hy)) q5 this
   simpa using this
 have jK:rdN h id 0 (cs.length*1)=some cs:=by
  rw[og hg (by rw[aX];exact q2) (by omega),eC,cz,gj rfl]
 cases cap with
 |exact c =>
  have q5:c=N:=q5
  subst q5
  simp only
  cases hq:Nat.ble (cs.length+1) c with
  |true =>
   obtain⟨e1,e2⟩:=J (aP.1 hq)
   rw[ag,e1]
   exact⟨_,_,rfl,e2⟩
  |false =>
   rw[aS,KV,ag,jK]
   exact⟨_,_,rfl,I sp.drop⟩
 |rest y alt =>
  have q5:y=1:=q5
  subst q5
  have wK:fC h id 0 1=N:=by simp only[fC,hg];simp
  simp only
  rw[show Nat.beq 1 1=true from rfl,ag,wK]
  cases hq:Nat.ble (cs.length+1) N with
  |true =>
   obtain⟨e1,e2⟩:=J (aP.1 hq)
   rw[ag,e1]
   exact⟨_,_,rfl,e2⟩
  |false =>
   have hn:N≤cs.length:=by
    refine oK fun q => ?_
    rw[aP.2 (by omega)] at hq
    cases hq
   rw[aS,KV,show Nat.ble 2 ((cs.length+1)*1)=true from aP.2 (by omega),jc,ag,jK,hg]
   exact⟨_,_,rfl,I sp.kill⟩
end
section
variable {v:V} {l:List Nat} {k:Nat}
theorem TT (s:Sat h (mT v (cf l)::S))(hl:l.length≤1000000):
  ∃J h1 w h2,buildSliceV Tryz.prog h 25 1 [(0,.int .i64 (k:Int))]=some (J,h1)∧appendV Tryz.prog h1 #[25,25] v J=some (w,h2)∧Sat h2 (mT w (cf (l++[k]))::S):=by
 obtain⟨J,h1,e1,s1⟩:=jB (P:=Tryz.prog) (k:=1) (x:=.int .i64 (k:Int)) s cC yL jO rfl (by decide) (by decide) rfl rfl
 obtain⟨i1,eT,gC,om⟩:=w8
 obtain⟨n,hn,I⟩:=Qj (s1.nr (j:=0) rfl (mA _ _ _).s)
 have BG:n=1:=by simpa[V.cells] using hn.symm
 subst BG
 obtain⟨w,h2,e2,s2⟩:=TS (x:=.int .i64 (k:Int)) rfl I (by rw[iD];exact hl) (s1.ae [1,0]) cC eT yL gC (by omega) rfl
 have e:cf (l++[k])=cf l++[.int .i64 (k:Int)]:=by simp[cf]
 exact⟨J,h1,w,h2,e1,e2,by rw[e];exact s2.del 1⟩
end
def PdT (F:Nat→List (List Nat)→Prop)(P:Int→List Nat)(k:gR): Prop:=∃l lo hi cs,l≤60∧Nv F P l lo hi cs k.es k.ps∧cm (P k.pg) 204 0 l cs
abbrev D6 : V→Unit→aI:=fun v _=>.pu (v=.agg [])
section
variable {told:cy} {root:Nat}
noncomputable def tpO : Code:=cE [1,1,1,1,0,0,0] ((Tryz.f25.body).getD .skip)
noncomputable def tpI : Code:=cE [1,1,1,1,0,0,0,1,0,1,1,1,1,1,1,1,1,0,0] ((Tryz.f25.body).getD .skip)
theorem TU (hT:W told)(dW:∀k∈ks,k.pg<4294967296)(hl:ks.length≤512)(U4:l≤60): ∀(m:Nat) (D:List Nat) (wv:V) (h:H) (E:List (Nat×V)) (S:List aI) (Q:Ex→List (Nat×V)→H→Prop),m≤ks.length→D.length+m≤100000 →
  Sat h (mT wv (cf D)::cH x n (l+1) b (kisC ks)::S)→Has E [(0,rv),(6,ov),(7,mv),(8,wv),(12,.ptr x 0),(14,.int .i64 ((m:Int)-1))] →
  (∀E' h' I,Has E' [(0,rv),(6,ov),(7,mv),(8,I)]→Sat h' (mT I (cf (D++(ks.take m).reverse.map (·.pg)))::cH x n (l+1) b (kisC ks)::S)→Q (.exit 2) E' h')→WP ⟨Tryz.prog,told⟩ 81 (.loop tpI) E h Q:=by
 intro m
 induction m with
 |zero =>
  intro D wv h E S Q hm hD s J hq
  refine WP.loop (WP.has J (zK 4 rfl (zC rfl kC (by simp) ?_)))
  exact zk 9 rfl (WP.exit (hq _ _ wv ⟨rfl,rfl,rfl,rfl,aa⟩ (by simpa using s)))
 |succ m ih =>
  intro D wv h E S Q hm hD s J hq
  obtain⟨k,hk⟩:∃k,ks[m]?=some k:=⟨_,aG (by omega)⟩
  obtain⟨bv,cv,us,s⟩:=bQ.1 (s.ae [1])
  rw[show(((m+1:Nat):Int)-1)=(m:Int) by omega] at J
  refine WP.loop (WP.has J (zK 4 rfl (zB rfl kC (by simp) ?_)))
  refine zk 3 rfl (zY s 0 fT bZ rfl (zB rfl cL (decide_eq_true (by omega)) ?_))
  have s:Sat h (cH x n (l+1) b (kisC ks)::_):=bQ.2 ⟨bv,cv,us,s⟩
  dsimp only[aT,bringA] at s
  refine zk 5 rfl (WP.block (zK 4 rfl (zc rfl (Fq hT (j_ hk) (dW k (aR hk)) s) ?_)))
  rintro v h ⟨rfl,s⟩
  have s:=s.ae [1,0]
  dsimp only[bringA,getA,aT] at s
  obtain⟨iv,h1,w,h2,e3,e4,s2⟩:=TT (k:=k.pg) s (by omega)
  refine aA.any rfl rfl rfl (OpR.of (R:=fun v h'=>v=iv∧h'=h1) (gI rfl e3) ⟨rfl,rfl⟩) ?_
  rintro iv h1 ⟨rfl,rfl⟩
  refine aA.any rfl rfl rfl (OpR.of (R:=fun v h'=>v=w∧h'=h2) (iG rfl rfl e4) ⟨rfl,rfl⟩) ?_
  rintro w h2 ⟨rfl,rfl⟩
  refine za rfl (zv (zr rfl (zm rfl (zb rfl (by exact ei (ay (by omega) (by omega))) ?_))))
  refine za rfl (zv ?_)
  refine ih (D++[k.pg]) w _ _ S Q (by omega) (by rw[aX,vm];omega) s2 ⟨rfl,rfl,rfl,rfl,rfl,rfl,aa⟩ (fun E' h' I fh s'=>hq E' h' I fh ?_)
  rw[mI,hk]
  simpa using s'
theorem Ra (J:cs.length≤512){D:List Nat}
 (s:Sat h (mT wv (cf D)::cH x n 0 b cs::S))(hE:Has E [(0,rv),(6,ov),(7,mv),(8,wv),(12,.ptr x 0),(14,.int .i64 ((cs.length:Int)-1))])
 (I:∀E',Has E' [(0,rv),(6,ov),(7,mv),(8,wv)]→Sat h (mT wv (cf D)::cH x n 0 b cs::S)→Q (.exit 2) E' h): WP ⟨Tryz.prog,told⟩ 81 (.loop tpI) E h Q:=by
 have s1:=s
 obtain⟨bv,cv,us,s⟩:=bQ.1 (s.ae [1])
 refine WP.loop (WP.has hE (zK 4 rfl ?_))
 rcases lJ cs.length with h0|h0
 ·skip
  refine zC rfl kC (decide_eq_false (by omega)) ?_
  exact zk 9 rfl (WP.exit (I _ ⟨rfl,rfl,rfl,rfl,aa⟩ s1))
 ·skip
  refine zB rfl kC (decide_eq_true (by omega)) ?_
  refine zk 3 rfl (zY s 0 fT bZ rfl (zC rfl cL (by simp) ?_))
  exact zk 3 rfl (WP.exit (I _ ⟨rfl,rfl,rfl,rfl,aa⟩ s1))
theorem Rb (hT:W told)(hR:kf told N B rv A pg)(hN:N≤65536){all:List Nat}(gW:all.Nodup)(nT:∀m∈all,m<N)(KL:all.length≤3000): ∀(T:Nat) (J:List gR) (out:List Nat) (seen:List (Int×Unit)) (ov mv wv:V) (ε:bw) (h:H) (E:List (Nat×V)) (S:List aI) (Q:Ex→List (Nat×V)→H→Prop),
  (J.flatMap gu).length≤T→out++J.flatMap gu=all→(∀k∈J,PdT F P k)→(∀m:Nat,lookL (m:Int) seen≠none→m∈out)→EI N B ε→pg ε=P →
  Sat h (.arr 1 ov (cf out)::nf D6 mv seen::mT wv (cf (J.reverse.map (·.pg)))::A ε::S)→Has E [(0,rv),(6,ov),(7,mv),(8,wv)] →
  (∀E' h' D5 aj,EI N B aj→Sm N ε aj→Has E' [(6,D5)]→Sat h' (.arr 1 D5 (cf all)::A aj::S)→Q (.exit 0) E' h')→WP ⟨Tryz.prog,told⟩ 81 (.loop tpO) E h Q:=by
 intro T
 induction T with
 |zero =>
  intro J out seen ov mv wv ε h E S Q hlen I Rc NT dL dW s hE hq
  have ug:J=[]:=by
   cases J with
   |nil=>rfl
   |cons k t=>simp[gu] at hlen
  subst ug
  have pz:=L7 (P:=Tryz.prog) (s.ae [2]) cC
  refine WP.loop (WP.has hE (zK 4 rfl (zo rfl (aC rfl rfl rfl pz) (zC rfl cL (by simp[cf]) ?_))))
  refine zk 2 rfl (WP.exit ?_)
  simp only[Et,g_] at I
  subst I
  exact hq _ _ ov ε dL (Sm.refl N ε) ⟨rfl,aa⟩ ((s.ae [0,2]).del 3 |>.del 2)
 |succ T ih =>
  intro J out seen ov mv wv ε h E S Q hlen I Rc NT dL dW s hE hq
  have pz:=L7 (P:=Tryz.prog) (s.ae [2]) cC
  cases J with
  |nil =>
   refine WP.loop (WP.has hE (zK 4 rfl (zo rfl (aC rfl rfl rfl pz) (zC rfl cL (by simp[cf]) ?_))))
   refine zk 2 rfl (WP.exit ?_)
   simp only[Et,g_] at I
   subst I
   exact hq _ _ ov ε dL (Sm.refl N ε) ⟨rfl,aa⟩ ((s.ae [0,2]).del 3 |>.del 2)
  |cons k rest =>
   obtain⟨l,lo,hi,cs,adP,hv,hp⟩:=Rc k bO
   have hka:k.pg∈all:=by rw[←I];simp[gu]
   have ZT:=nT _ hka
   have hko:k.pg∉out:=by
    rw[←I,fE,gu,vA] at gW
    exact fun hm=>gW.2.2 _ hm _ (fP _ bO) rfl
   have zZ:lookL (k.pg:Int) seen=none:=by
    cases hq:lookL (k.pg:Int) seen with
    |none=>rfl
    |some _=>exact absurd (NT k.pg (by rw[hq];simp)) hko
   have lq:cf ((k::rest).reverse.map (·.pg))=cf (rest.reverse.map (·.pg))++[.int .i64 (k.pg:Int)]:=by simp[cf]
   have Ln:rest.length≤3000:=by
    have h1:rest.length≤(rest.flatMap gu).length:=by
     clear lq I Rc hlen pz s
     induction rest with
     |nil=>simp
     |cons y t ih2=>rw[fE,aX];simp only[gu,aZ];omega
    have:=dn List.length I
    rw[aX,fE,aX] at this
    omega
   rw[lq] at s pz
   have ZU:(cf (rest.reverse.map (·.pg))).length=rest.length:=by rw[iD,cq,ju]
   have rZ:(cf (rest.reverse.map (·.pg))++[V.int .i64 (k.pg:Int)])[rest.length]?=some (.int .i64 (k.pg:Int)):=by rw[g8 (by omega),ZU,gG];rfl
   obtain⟨id,off,e1,e2⟩:=ZS (P:=Tryz.prog) (s.ae [2]) rZ cC jO
   obtain⟨wv2,e3,s2⟩:=WU (P:=Tryz.prog) (s.ae [2]) cC jO
   rw[aX,ZU,vm] at pz
   rw[ZU] at e3
   refine WP.loop (WP.has hE (zK 4 rfl (zo rfl (aC rfl rfl rfl pz) (zB rfl cL (decide_eq_true (by omega)) ?_))))
   refine zk 3 rfl (WP.block (zK 4 rfl (zo rfl (aC rfl rfl rfl pz) (zo rfl (az (r:=.int .i64 (rest.length:Int)) rfl rfl (by rw[show(rest.length:Int)=((rest.length+1:Nat):Int)-1 by omega];exact ei (ay (by omega) (by omega)))) ?_))))
   refine zo rfl (bx (r:=.ptr id off) rfl rfl e1) (zl rfl (e2 _ bZ) (zk 6 rfl (zo rfl (aC rfl rfl rfl pz) (zo rfl (az (r:=.int .i64 (rest.length:Int)) rfl rfl (by rw[show(rest.length:Int)=((rest.length+1:Nat):Int)-1 by omega];exact ei (ay (by omega) (by omega)))) ?_))))
   refine zo rfl (bS (p:=none) (q:=some (.int .i64 (rest.length:Int))) (m:=none) (p':=none) (q':=some rest.length) (m':=none) rfl rfl rfl rfl rfl (by rw[b9 (by omega),dm]) rfl e3) ?_
   have s:=s2.ae [2,1,0]
   have IV:eU Tryz.prog h 140 mv (.int .i64 (k.pg:Int)) true=some (.aW [.agg [],.bool false]):=by
    rcases l_ (n:=(k.pg:Int)) (fun _ _=>aJ.pu _) s D3 bP G3 with⟨_,g2,_⟩|⟨uu,y,g1,_⟩
    ·exact g2
    ·rw[zZ] at g1;cases g1
   refine zk 7 rfl (zo rfl (jo rfl rfl IV) (zk 3 rfl ?_))
   refine aA.cB s rfl rfl rfl (cF G3) (fun p10 h s => ?_)
   refine zS rfl (s.iK (j:=0) rfl Uu rfl rfl) ?_
   intro h s
   have s:=s.drop
   refine zk 12 rfl (zo rfl (cP rfl (by rw[Uv];rfl)) ?_)
   refine aA.mS rfl rfl (OpR.mapUpdate rfl rfl rfl rfl (mo (n:=(k.pg:Int)) (f:=D6) (x:=()) (fun _ _=>aJ.pu _) (s.fq rfl) D3 bP)) ?_
   intro _ h s
   have s:=s.ae [1]
   obtain⟨iv,h1,w,h2,f3,f4,s2⟩:=Cl (k:=k.pg) s (by
    have:=dn List.length I
    rw[aX] at this
    omega)
   refine zk 5 rfl (aA.any rfl rfl rfl (OpR.of (R:=fun v h'=>v=iv∧h'=h1) (gI rfl f3) ⟨rfl,rfl⟩) ?_)
   rintro iv h1 ⟨rfl,rfl⟩
   refine aA.any rfl rfl rfl (OpR.of (R:=fun v h'=>v=w∧h'=h2) (iG rfl rfl f4) ⟨rfl,rfl⟩) ?_
   rintro w h2 ⟨rfl,rfl⟩
   have s:=s2.ae [3]
   refine zk 6 rfl (zc rfl (wz (l:=l) (cs:=cs) hT hR dL ZT (by rw[dW];exact hp) (fun c hc=>⟨(hv.cells c hc).1,(hv.cells c hc).2.1⟩) (by omega) s) ?_)
   rintro v h ⟨x,mw,rfl,ow,f_,s⟩
   have ki:pg mw=P:=by rw[←dW];funext m;exact hR.same f_ m
   rw[dW] at s
   have ff:cs.length≤512:=by have:=hp.fits;omega
   obtain⟨bv,cv,us,s⟩:=bQ.1 s
   have xJ:=j3 (P:=Tryz.prog) bh s
   have NU:(out++[k.pg])++(k.ps++rest.flatMap gu)=all:=by rw[←I];simp[gu]
   have Re:∀m:Nat,lookL (m:Int) (cY (k.pg:Int) () seen)≠none→m∈out++[k.pg]:=fun m hm=>by
    rw[kT] at hm
    by_cases hq:k.pg=m
    ·subst hq;simp
    ·rw[ax (by omega)] at hm
     exact fP _ (NT m hm)
   refine zk 10 rfl (zC rfl aN (rfl) (zk 7 rfl (zY s 0 eW je rfl (zo rfl (aC rfl rfl rfl xJ) (zo rfl (az (r:=.int .i64 ((cs.length:Int)-1)) rfl rfl (ei (ay (by omega) (by omega)))) ?_)))))
   refine zk 2 rfl (WP.block ?_)
   have s:Sat h (cH x k.pg l (P k.pg) cs::_):=bQ.2 ⟨bv,cv,us,s⟩
   have s:=s.ae [4,0]
   cases l with
   |zero =>
    have xL:k.ps=[]:=hv.2.2
    rw[xL,cO] at NU
    refine Ra ff s ⟨rfl,rfl,rfl,rfl,rfl,rfl,aa⟩ (fun E' hE s' => ?_)
    have s:=s'
    exact WP.has hE (ih rest (out++[k.pg]) _ _ _ _ mw _ _ S Q (by rw[fE,aX] at hlen;simp only[gu,aZ] at hlen;omega) NU (fun m hm=>Rc m (bR _ hm)) Re ow ki ((s.ae [3,3,0,1]).del 4) ⟨rfl,rfl,rfl,rfl,aa⟩ (fun E' h' D5 aj g1 g2=>hq E' h' D5 aj g1 (f_.trans g2)))
   |succ l =>
    obtain⟨ks,ko,JE,yw,xL,xU⟩:=hv
    subst ko
    rw[iy] at ff ⊢
    refine TU hT JE.pg ff (by omega) ks.length _ _ _ _ _ _ (aM _) (by rw[cq,ju];omega) s ⟨rfl,rfl,rfl,rfl,rfl,rfl,aa⟩ (fun E' h' LW hE s' => ?_)
    have s:=s'
    rw[ja,←Ew,←List.reverse_append] at s
    refine WP.has hE ?_
    refine ih (ks++rest) (out++[k.pg]) _ _ _ _ mw _ _ S Q ?_ ?_ (fun m hm => ?_) Re ow ki ((s.ae [3,3,0,1]).del 4) ⟨rfl,rfl,rfl,rfl,aa⟩ (fun E' h' D5 aj g1 g2=>hq E' h' D5 aj g1 (f_.trans g2))
    ·rw[fE,aX,gu,aZ,xL] at hlen
     rw[mH,aX]
     omega
    ·rw[mH,←xL]
     exact NU
    ·rcases List.mem_append.1 hm with hm|hm
     ·obtain⟨i,hi⟩:=List.mem_iff_getElem?.1 hm
      obtain⟨cs',a1,_,a3⟩:=xU i m hi
      exact⟨l,_,_,cs',by omega,a1,a3⟩
     ·exact Rc m (bR _ hm)
theorem WV (J:W told){cs:List V}(h1:1≤cs.length)(s:Sat h (roS 1 w cs::S)): Call ⟨Tryz.prog,told⟩ 79 [w] h fun v h'=>Sat h' (roS 1 v cs::S):=by
 have I:=zX (P:=Tryz.prog) (n:=cs.length) (s.nr (j:=0) rfl (ig _ _ _)) (by omega) (by decide) cC
 obtain⟨v',e1,s1⟩:=UT (P:=Tryz.prog) (b:=cs.length) s (aM _) h1 cC jO
 rw[ja] at s1
 refine Call.of_wp (J.free _ rfl) Tryz.func79 rfl rfl (zK 8 rfl (zo rfl (aC rfl rfl rfl I) (zm rfl (zo rfl (aC rfl rfl rfl I) (zo rfl (bS (p:=none) (q:=some (.int .i64 (cs.length:Int))) (m:=some (.int .i64 (cs.length:Int))) (p':=none) (q':=some cs.length) (m':=some cs.length) rfl rfl rfl rfl rfl (by rw[b9 (by omega),dm]) (by rw[b9 (by omega),dm]) e1) ?_)))))
 exact zk 2 rfl (WP.ret ⟨aa,_,rfl,s1.del 1⟩)
theorem Rf (hT:W told)(hR:kf told N B rv A pg)(hN:N≤65536)(hL:L≤60)(hv:Nv F P L [] none cs es ps)(hp:cm (P root) 204 0 L cs)(gW:(root::ps).Nodup)(I:∀m∈root::ps,m<N)(KL:ps.length≤2999)(dL:EI N B ε)(dW:pg ε=P)(s:Sat h (A ε::S)):
  Call ⟨Tryz.prog,told⟩ 25 [rv,.int .i64 (root:Int)] h fun v h'=>∃w aj,v=.aW [w,.int .i64 0]∧EI N B aj∧Sm N ε aj∧Sat h' (roS 1 w (cf (root::ps))::A aj::S):=by
 refine Call.of_wp (hT.free _ rfl) Tryz.func25 rfl rfl (zK 7 rfl ?_)
 obtain⟨J,e3,s1⟩:=Bc (P:=Tryz.prog) s cC yL jO rfl (by decide)
 refine aA.any rfl rfl rfl (OpR.of (R:=fun v h'=>v=.sl h.next 0 0 (.exact 0)∧h'=J) (gI rfl e3) ⟨rfl,rfl⟩) ?_
 rintro v h' ⟨rfl,rfl⟩
 have s:Sat h' (.arr 1 (.sl h.next 0 0 (.exact 0)) (cf [])::_):=Wo s1
 generalize V.sl h.next 0 0 (.exact 0)=ov at s ⊢
 refine zk 4 rfl ?_
 refine aA.yK s rfl rfl rfl rfl (fun p16 h s => ?_)
 refine zk 5 rfl ?_
 have s:=oE (f:=D6) s
 obtain⟨iv,J,e4,s2⟩:=jB (P:=Tryz.prog) (k:=1) (x:=.int .i64 (root:Int)) s cC yL jO rfl (by decide) (by decide) rfl rfl
 refine aA.any rfl rfl rfl (OpR.of (R:=fun v h'=>v=iv∧h'=J) (gI rfl e4) ⟨rfl,rfl⟩) ?_
 rintro iv J ⟨rfl,rfl⟩
 have s:=ZR (cs:=cf [root]) (by simp[cf]) s2
 have s:=s.ae [2,1,0]
 refine zk 3 rfl (WP.block ?_)
 refine Rb (F:=F) hT hR hN gW I (by simp only[aZ];omega) (root::ps).length [⟨[],root,es,ps⟩] [] [] _ _ _ ε _ _ S _ (by simp[gu]) (by simp[gu]) (fun k hk=>by
  rw[List.mem_singleton.1 hk]
  exact⟨L,_,_,cs,hL,hv,hp⟩) (fun m hm=>by simp[lookL] at hm) dL dW s ⟨rfl,rfl,rfl,rfl,aa⟩ (fun E' h' D5 aj k1 k2 hE s' => ?_)
 have s:=s'.rz.dG Nw
 refine WP.has hE (zK 3 rfl (zc rfl (WV hT (by simp[cf]) s) ?_))
 rintro v h s
 exact zk 3 rfl (WP.ret ⟨aa,_,rfl,v,aj,rfl,k1,k2,s⟩)
end
section
variable {told:cy} {root:Nat}
theorem Nv.ld (hv:Nv F P L lo hi cs es ps): ∀c∈cs,jl L c∧c.length≤225:=fun c I=>⟨(hv.cells c I).1,(hv.cells c I).2.1⟩
theorem Rg (hT:W told)(hR:kf told N B rv A pg)(hL:L≤60)(hv:Nv F P L lo hi cs es ps)(hp:cm (P root) 204 0 L cs)(hr:root<N)(J:EI N B ε)(dW:pg ε=P)(s:Sat h (A ε::S)):
  Call ⟨Tryz.prog,told⟩ 67 [rv,.int .i64 (root:Int)] h fun v h'=>∃aj,v=.aW [.int .i64 ((L+1:Nat):Int),.int .i64 0]∧EI N B aj∧Sm N ε aj∧Sat h' (A aj::S):=by
 refine Call.of_wp (hT.free _ rfl) Tryz.func67 rfl rfl (zK 9 rfl (zc rfl (wz (l:=L) (cs:=cs) hT hR J hr (by rw[dW];exact hp) hv.ld (by omega) s) ?_))
 rintro v h ⟨x,mw,rfl,I,f_,s⟩
 obtain⟨bv,cv,us,s⟩:=bQ.1 s
 refine zk 10 rfl (zC rfl aN (rfl) (zk 7 rfl (zY s 0 fT bZ rfl (zo rfl (az (r:=.int .i64 ((L+1:Nat):Int)) rfl rfl (by rw[show((L+1:Nat):Int)=(L:Int)+1 by omega];exact aO (ay (by omega) (by omega)))) ?_))))
 exact zk 3 rfl (WP.ret ⟨aa,_,rfl,mw,rfl,I,f_,s.drop.drop.drop.drop⟩)
end
def vi (v:V)(hi:Option Ky): aI:=match hi with
 |none=>.pu (v=.aV)
 |some b=>.bK v b
theorem aJ.bel (v:V)(hi:Option Ky): aJ (vi v hi):=by
 cases hi with
 |none=>exact aJ.pu _
 |some b=>exact aJ.bK _ _
structure ZV (l f:Nat)(lo:Ky)(hi:Option Ky)(cs:List (List Nat)): Prop where
 rK:∀c∈cs,jl l c∧c.length≤225
 lo:∀i c,cs[i]?=some c→f≤i→lo≤fN l c
 hi:∀i c,cs[i]?=some c→f≤i→∀b,hi=some b→fN l c<b
 up:∀i c d,cs[i]?=some c→cs[i+1]?=some d→f≤i→fN l c<fN l d
section
theorem Nv.keys (hv:Nv F P l lo hi cs es ps): ZV l (min 1 l) lo hi cs:=by
 cases l with
 |zero =>
  have Ah:=hv.ld
  obtain⟨rfl,lB,_⟩:=hv
  have J:∀i c,(es.map dU)[i]?=some c→∃e,es[i]?=some e∧c=dU e:=fun i c I=>by
   rw[jv] at I
   cases he:es[i]? with
   |none=>rw[he] at I;cases I
   |some e=>rw[he] at I;exact⟨e,he,(bp I).symm⟩
  refine⟨Ah,fun i c I _ => ?_,fun i c I _ b hb => ?_,fun i c d I hd _ => ?_⟩
  ·obtain⟨e,he,rfl⟩:=J i c I
   rw[pE]
   exact(lB.bd e (aR he)).1
  ·obtain⟨e,he,rfl⟩:=J i c I
   rw[pE]
   exact(lB.bd e (aR he)).2 b hb
  ·obtain⟨e,he,rfl⟩:=J i c I
   obtain⟨e2,Du,rfl⟩:=J (i+1) d hd
   rw[pE,pE]
   exact lB.get he Du (by omega)
 |succ l =>
  have Ah:=hv.ld
  obtain⟨ks,rfl,hs,_,_,_⟩:=hv
  have J:∀i c,(kisC ks)[i]?=some c→min 1 (l+1)≤i→∃k,ks[i]?=some k∧c=ie k.pg k.key:=fun i c I h1=>by
   have hi:=(List.getElem?_eq_some_iff.1 I).1
   rw[iy] at hi
   have hk:ks[i]?=some ks[i]:=aG hi
   have:=j_ hk
   rw[ax (by omega),I] at this
   exact⟨_,hk,bp this⟩
  refine⟨Ah,fun i c I h1 => ?_,fun i c I h1 b hb => ?_,fun i c d I hd h1 => ?_⟩
  ·obtain⟨k,hk,rfl⟩:=J i c I h1
   rw[pF]
   exact oO (hs.bd i k hk (by omega)).1
  ·obtain⟨k,hk,rfl⟩:=J i c I h1
   rw[pF]
   exact(hs.bd i k hk (by omega)).2 b hb
  ·obtain⟨k,hk,rfl⟩:=J i c I h1
   obtain⟨k2,j8,rfl⟩:=J (i+1) d hd (by omega)
   rw[pF,pF]
   exact hs.jX i (i+1) k k2 hk j8 (by omega) (by omega)
end
section
variable {told:cy} {f:Nat} {DJ:Option Ky}
theorem TV {x:Operand}: binV Tryz.prog h .neq 29 x y .aV .aV=some (.bool false):=by
 simp only[binV,eqV,ak,fQ,Bool.not_true]
theorem WW {x:Operand}{v:V}{l:List Nat}(hv:View h v l)(I:1≤l.length): binV Tryz.prog h .neq 29 x y v .aV=some (.bool true):=by
 obtain⟨id,off,cap,rfl⟩:=gp hv I
 simp only[binV,eqV,ak,fQ,vG]
theorem JF {a b:Ky}(h:a<b): ¬ cmpN a b≥0:=by have:=(qK a b).1.2 h;omega
theorem ZW {a b:Ky}(h:b≤a): ¬ cmpN a b<0:=fun q=>List.not_lt.2 h ((qK a b).1.1 q)
noncomputable def ckA : Code:=cE [1,1,1,1,0,1,0,0] ((Tryz.f153.body).getD .skip)
theorem NV (hT:WB told)(hk:ZV l f lo hi cs)(hl:l≤60)(ff:cs.length≤512)(Gu:∀b,hi=some b→1≤b.length): ∀(j i:Nat) (h:H) (E:List (Nat×V)) (Q:Ex→List (Nat×V)→H→Prop),(cs.length≤i∧j=0∨i+j=cs.length)→f≤i →
  Sat h (cH x n l b cs::.bK fv lo::vi hv hi::S)→Has E [(0,rv),(1,.ptr x 0),(2,fv),(3,hv),(4,mv),(13,.int .i64 (f:Int)),(14,.int .i64 (i:Int))] →
  (∀E' h',Has E' [(0,rv),(1,.ptr x 0),(2,fv),(3,hv),(4,mv)]→Sat h' (cH x n l b cs::.bK fv lo::vi hv hi::S)→Q (.exit 0) E' h')→WP ⟨Tryz.prog,told⟩ 138 (.loop ckA) E h Q:=by
 intro j
 induction j with
 |zero =>
  intro i h E Q iB hf s hE hq
  have s1:=s
  obtain⟨bv,cv,us,s⟩:=bQ.1 s
  have xJ:=j3 (P:=Tryz.prog) bh s
  refine WP.loop (WP.has hE (zK 6 rfl (zY s 0 eW je rfl (zo rfl (aC rfl rfl rfl xJ) (zC rfl aL (decide_eq_false (by omega)) ?_)))))
  exact zk 2 rfl (WP.exit (hq _ _ ⟨rfl,rfl,rfl,rfl,rfl,aa⟩ s1))
 |succ j ih =>
  intro i h E Q iB hf s hE hq
  obtain⟨c,hc⟩:∃c,cs[i]?=some c:=⟨_,aG (by omega)⟩
  have y7:=aR hc
  have m6:=hk.lo i c hc hf
  have nX:=hk.hi i c hc hf
  have s1:=s
  obtain⟨bv,cv,us,s⟩:=bQ.1 s
  have xJ:=j3 (P:=Tryz.prog) bh s
  refine WP.loop (WP.has hE (zK 6 rfl (zY s 0 eW je rfl (zo rfl (aC rfl rfl rfl xJ) (zB rfl aL (decide_eq_true (by omega)) ?_)))))
  refine zk 4 rfl (WP.block (zK 4 rfl (zc rfl (nJ hT.w hc (hk.rK c y7).1 (by omega) (hk.rK c y7).2 s1) ?_)))
  rintro kv h s
  have I:=s.aq (k:=0) rfl (aY _ _)
  have Ul:=s.aq (k:=2) rfl (aY _ _)
  refine zk 6 rfl (zc rfl (nK hT I Ul) ?_)
  rintro v h' ⟨rfl,rfl⟩
  refine zC rfl aL (decide_eq_false (ZW m6)) (zk 2 rfl ?_)
  have fin:∀(E':List (Nat×V)) (h':H),Has E' [(0,rv),(1,.ptr x 0),(2,fv),(3,hv),(4,mv),(13,.int .i64 (f:Int)),(14,.int .i64 ((i+1:Nat):Int))]→Sat h' (l9 kv (fN l c)::cH x n l b cs::.bK fv lo::vi hv hi::S)→WP ⟨Tryz.prog,told⟩ 138 (.loop ckA) E' h' Q:=fun E' h' fh s'=>ih (i+1) h' E' Q (by omega) (by omega) s'.drop fh hq
  cases hi with
  |none =>
   have hh:hv=.aV:=by
    obtain⟨_,_,_,_,q⟩:=s.at (k:=3) rfl
    exact q
   subst hh
   refine zC rfl TV (rfl) (zk 10 rfl ?_)
   by_cases hif:f<i
   ·obtain⟨d,hd⟩:∃d,cs[i-1]?=some d:=⟨_,aG (by omega)⟩
    have J:=aR hd
    have KZ:=hk.up (i-1) d c hd (by rw[show i-1+1=i by omega];exact hc) (by omega)
    refine zB rfl cL (decide_eq_true (by omega)) ?_
    refine zk 3 rfl (zo rfl (az (r:=.int .i64 ((i-1:Nat):Int)) rfl rfl (by rw[show((i-1:Nat):Int)=(i:Int)-1 by omega];exact ei (ay (by omega) (by omega)))) ?_)
    have s:=s.ae [1]
    dsimp only[bringA,getA,aT] at s
    refine zc rfl (nJ hT.w hd (hk.rK d J).1 (by omega) (hk.rK d J).2 s) ?_
    rintro kd h s
    have DC:=s.aq (k:=0) rfl (aY _ _)
    have I:=s.aq (k:=2) rfl (aY _ _)
    refine zm rfl (zc rfl (nK hT DC I) ?_)
    rintro v h' ⟨rfl,rfl⟩
    refine zh rfl (az rfl rfl kC) (decide_eq_false (JF KZ)) (zk 2 rfl (zv (zj rfl (WP.skip (zr rfl (zm rfl (zb rfl (by exact aO (ay (by omega) (by omega))) ?_)))))))
    refine za rfl (zv ?_)
    exact fin _ _ ⟨rfl,rfl,rfl,rfl,rfl,rfl,rfl,aa⟩ ((s.ae [2,1]).del 2)
   ·skip
    refine zC rfl cL (decide_eq_false (by omega)) ?_
    refine zk 10 rfl (zv (zj rfl (WP.skip (zr rfl (zm rfl (zb rfl (by exact aO (ay (by omega) (by omega))) ?_))))))
    refine za rfl (zv ?_)
    exact fin _ _ ⟨rfl,rfl,rfl,rfl,rfl,rfl,rfl,aa⟩ s
  |some b =>
   have s:Sat h' (l9 kv (fN l c)::cH x n l _ cs::.bK fv lo::.bK hv b::S):=s
   have hhv:=s.aq (k:=3) rfl (aY _ _)
   refine zB rfl (WW hhv (Gu b rfl)) (rfl) (zk 3 rfl (zc rfl (nK hT I hhv) ?_))
   rintro v h' ⟨rfl,rfl⟩
   refine zC rfl kC (decide_eq_false (JF (nX b rfl))) (zk 5 rfl ?_)
   by_cases hif:f<i
   ·obtain⟨d,hd⟩:∃d,cs[i-1]?=some d:=⟨_,aG (by omega)⟩
    have J:=aR hd
    have KZ:=hk.up (i-1) d c hd (by rw[show i-1+1=i by omega];exact hc) (by omega)
    refine zB rfl cL (decide_eq_true (by omega)) ?_
    refine zk 3 rfl (zo rfl (az (r:=.int .i64 ((i-1:Nat):Int)) rfl rfl (by rw[show((i-1:Nat):Int)=(i:Int)-1 by omega];exact ei (ay (by omega) (by omega)))) ?_)
    have s:=s.ae [1]
    dsimp only[bringA,getA,aT] at s
    refine zc rfl (nJ hT.w hd (hk.rK d J).1 (by omega) (hk.rK d J).2 s) ?_
    rintro kd h s
    have DC:=s.aq (k:=0) rfl (aY _ _)
    have I:=s.aq (k:=2) rfl (aY _ _)
    refine zm rfl (zc rfl (nK hT DC I) ?_)
    rintro v h' ⟨rfl,rfl⟩
    refine zh rfl (az rfl rfl kC) (decide_eq_false (JF KZ)) (zk 2 rfl (zv (zj rfl (WP.skip (zr rfl (zm rfl (zb rfl (by exact aO (ay (by omega) (by omega))) ?_)))))))
    refine za rfl (zv ?_)
    exact fin _ _ ⟨rfl,rfl,rfl,rfl,rfl,rfl,rfl,aa⟩ ((s.ae [2,1]).del 2)
   ·skip
    refine zC rfl cL (decide_eq_false (by omega)) ?_
    refine zk 10 rfl (zv (zj rfl (WP.skip (zr rfl (zm rfl (zb rfl (by exact aO (ay (by omega) (by omega))) ?_))))))
    refine za rfl (zv ?_)
    exact fin _ _ ⟨rfl,rfl,rfl,rfl,rfl,rfl,rfl,aa⟩ s
noncomputable def ckP : Code:=cE [1,1,1,1,1,0,1,0,0,1,0,0,1,0] ((Tryz.f153.body).getD .skip)
theorem Rh (hT:W told){k:gR}(hk:ks[i]?=some k)(I:∀c∈kisC ks,jl (l+1) c∧c.length≤225)(hl:l≤60)(yD:i≤1000)
 (s:Sat h (cH x n (l+1) b (kisC ks)::.bK fv lo::S))(hE:Has E [(0,rv),(1,.ptr x 0),(2,fv),(3,hv),(4,mv),(16,.int .i64 (i:Int)),(17,fv),(18,hv)])
 (hq:∀E' h' lv,Has E' [(0,rv),(1,.ptr x 0),(2,fv),(3,hv),(4,mv),(16,.int .i64 (i:Int)),(17,lv),(18,hv)]→Sat h' (.bK lv (loK lo ks i)::cH x n (l+1) b (kisC ks)::.bK fv lo::S)→Q .normal E' h'): WP ⟨Tryz.prog,told⟩ 138 ckP E h Q:=by
 have J:=j_ hk
 refine WP.has hE (zK 3 rfl ?_)
 rcases lJ i with rfl|h1
 ·skip
  refine zC rfl cL (by simp) ?_
  refine zv (zj rfl (WP.skip (hq _ _ fv ⟨rfl,rfl,rfl,rfl,rfl,rfl,rfl,rfl,aa⟩ ?_)))
  have e:loK lo ks 0=lo:=by rw[loK,aH rfl]
  rw[e]
  exact((s.ae [1]).dup (aJ.bK _ _)).ae [0,1,0]
 ·rw[ax (by omega)] at J
  refine zB rfl cL (decide_eq_true (by omega)) ?_
  refine zk 5 rfl (zc rfl (nJ hT J (I _ (aR J)).1 (by omega) (I _ (aR J)).2 s) ?_)
  rintro r h s
  rw[pF] at s
  refine za rfl (zv (hq _ _ r ⟨rfl,rfl,rfl,rfl,rfl,rfl,rfl,rfl,aa⟩ ?_))
  have e:loK lo ks i=k.key:=by rw[loK,ax (by omega),hk]
  rw[e]
  exact s
noncomputable def ckH : Code:=cE [1,1,1,1,1,0,1,0,0,1,0,0,1,1,0] ((Tryz.f153.body).getD .skip)
theorem NX (hT:W told)(hi:i<ks.length)(I:∀c∈kisC ks,jl (l+1) c∧c.length≤225)(hl:l≤60)(yD:ks.length≤1000)
 (s:Sat h (cH x n (l+1) b (kisC ks)::vi hv DJ::S))(hE:Has E [(0,rv),(1,.ptr x 0),(2,fv),(3,hv),(4,mv),(16,.int .i64 (i:Int)),(17,lv),(18,hv)])
 (hq:∀E' h' uv,Has E' [(0,rv),(1,.ptr x 0),(2,fv),(3,hv),(4,mv),(16,.int .i64 (i:Int)),(17,lv),(18,uv)]→Sat h' (vi uv (fV DJ ks i)::cH x n (l+1) b (kisC ks)::vi hv DJ::S)→Q .normal E' h'): WP ⟨Tryz.prog,told⟩ 138 ckH E h Q:=by
 have s1:=s
 obtain⟨bv,cv,us,s⟩:=bQ.1 s
 have J:=j3 (P:=Tryz.prog) bh s
 rw[iy] at J
 have eT:(i:Int)+1=((i+1:Nat):Int):=by omega
 refine WP.has hE (zK 3 rfl (zo rfl (az (r:=.int .i64 ((i+1:Nat):Int)) rfl rfl ((aO (ay (by omega) (by omega))).trans (by rw[eT]))) ?_))
 refine zk 2 rfl (zY s 0 eW je rfl (zo rfl (aC rfl rfl rfl J) ?_))
 by_cases cV:i+1<ks.length
 ·obtain⟨k2,j8⟩:∃k2,ks[i+1]?=some k2:=⟨_,aG cV⟩
  have hc:=j_ j8
  rw[ax (by omega)] at hc
  refine zB rfl aL (decide_eq_true (by omega)) ?_
  refine zk 5 rfl (zo rfl (az (r:=.int .i64 ((i+1:Nat):Int)) rfl rfl ((aO (ay (by omega) (by omega))).trans (by rw[eT]))) ?_)
  refine zc rfl (nJ hT hc (I _ (aR hc)).1 (by omega) (I _ (aR hc)).2 s1) ?_
  rintro r h s
  rw[pF] at s
  refine za rfl (zv (hq _ _ r ⟨rfl,rfl,rfl,rfl,rfl,rfl,rfl,rfl,aa⟩ ?_))
  have e:fV DJ ks i=some k2.key:=by rw[fV,j8]
  rw[e]
  exact s
 ·skip
  refine zC rfl aL (decide_eq_false (by omega)) ?_
  refine zv (zj rfl (WP.skip (hq _ _ hv ⟨rfl,rfl,rfl,rfl,rfl,rfl,rfl,rfl,aa⟩ ?_)))
  have e:fV DJ ks i=DJ:=by rw[fV,List.getElem?_eq_none_iff.2 (by omega)]
  rw[e]
  exact((s1.ae [1]).dup (aJ.bel _ _)).ae [0,1,0]
end
section
variable {told:cy} {root:Nat}
noncomputable def ckB : Code:=cE [1,1,1,1,1,0,1,0,0] ((Tryz.f153.body).getD .skip)
def Vg (told:cy)(N B:Nat)(rv:V)(A:bw→aI)(pg:bw→Int→List Nat)(F:Nat→List (List Nat)→Prop)(P:Int→List Nat)(l:Nat): Prop :=
 ∀(x n:Nat) (lo:Ky) (hi:Option Ky) (cs:List (List Nat)) (es:List En) (ps:List Nat) (seen:List (Int×Unit)) (fv hv mv:V) (ε:bw) (h:H) (S:List aI),Nv F P l lo hi cs es ps→(∀b,hi=some b→1≤b.length)→(n::ps).Nodup→(∀m∈n::ps,m<N∧lookL (m:Int) seen=none)→EI N B ε→pg ε=P→cs.length≤512 →
  Sat h (cH x n l (P n) cs::nf D6 mv seen::A ε::.bK fv lo::vi hv hi::S) →
  Call ⟨Tryz.prog,told⟩ 153 [rv,.ptr x 0,fv,hv,mv] h fun v h'=>∃seen' aj,v=.int .i64 0∧EI N B aj∧Sm N ε aj∧(∀m:Nat,m∉n::ps→lookL (m:Int) seen'=lookL (m:Int) seen)∧Sat h' (nf D6 mv seen'::A aj::S)
theorem NY (hT:WB told)(hR:kf told N B rv A pg)(hN:N≤65536)(hl:l+1≤60)(ih:Vg told N B rv A pg F P l)(JE:Sep lo hi ks)(ff:ks.length≤512)(Ah:∀c∈kisC ks,jl (l+1) c∧c.length≤225)(Gu:∀b,hi=some b→1≤b.length)
 (xU:∀i k,ks[i]?=some k→∃cs',Nv F P l (loK lo ks i) (fV hi ks i) cs' k.es k.ps∧F l cs'∧cm (P k.pg) 204 0 l cs'): ∀(j i:Nat) (seen:List (Int×Unit)) (ε:bw) (h:H) (E:List (Nat×V)) (Q:Ex→List (Nat×V)→H→Prop),i+j=ks.length →
  ((ks.drop i).flatMap gu).Nodup→(∀m∈(ks.drop i).flatMap gu,m<N∧lookL (m:Int) seen=none)→EI N B ε→pg ε=P →
  Sat h (cH x n (l+1) b (kisC ks)::.bK fv lo::vi hv hi::nf D6 mv seen::A ε::S)→Has E [(0,rv),(1,.ptr x 0),(2,fv),(3,hv),(4,mv),(16,.int .i64 (i:Int))] →
  (∀E' h' seen' aj,EI N B aj→Sm N ε aj→(∀m:Nat,m∉(ks.drop i).flatMap gu→lookL (m:Int) seen'=lookL (m:Int) seen)→Sat h' (nf D6 mv seen'::A aj::S)→Q (.exit 2) E' h')→WP ⟨Tryz.prog,told⟩ 138 (.loop ckB) E h Q:=by
 intro j
 induction j with
 |zero =>
  intro i seen ε h E Q iB gW I dL dW s hE hq
  have s1:=s
  obtain⟨bv,cv,us,s⟩:=bQ.1 s
  have J:=j3 (P:=Tryz.prog) bh s
  rw[iy] at J
  refine WP.loop (WP.has hE (zK 5 rfl (zY s 0 fT bZ rfl (zB rfl cL (by simp) ?_))))
  refine zk 4 rfl (zY s 0 eW je rfl (zo rfl (aC rfl rfl rfl J) (zC rfl aL (decide_eq_false (by omega)) ?_)))
  exact zk 3 rfl (WP.exit (hq _ _ seen ε dL (Sm.refl N ε) (fun _ _=>rfl) s1.drop.drop.drop))
 |succ j ihj =>
  intro i seen ε h E Q iB gW I dL dW s hE hq
  obtain⟨k,hk⟩:∃k,ks[i]?=some k:=⟨_,aG (by omega)⟩
  obtain⟨cs',ZX,_,rJ⟩:=xU i k hk
  have hd:(ks.drop i).flatMap gu=gu k++(ks.drop (i+1)).flatMap gu:=by
   obtain⟨hb,ZP⟩:=List.getElem?_eq_some_iff.1 hk
   rw[←ZP,mF hb,fE]
  rw[hd] at gW I hq
  obtain⟨acz,Cn,Jv⟩:=List.nodup_append.1 gW
  have ZT:=(I k.pg (fP _ bO)).1
  have acA:cs'.length≤512:=by have:=rJ.fits;omega
  have hh':∀b,fV hi ks i=some b→1≤b.length:=fun b hb=>by
   unfold fV at hb
   cases hq:ks[i+1]? with
   |none=>rw[hq] at hb;exact Gu b hb
   |some m =>
    rw[hq] at hb
    obtain rfl:=bp hb
    exact(JE.sz (i+1) m hq (by omega)).1
  have s1:=s
  obtain⟨bv,cv,us,s⟩:=bQ.1 s
  have J:=j3 (P:=Tryz.prog) bh s
  rw[iy] at J
  refine WP.loop (WP.has hE (zK 5 rfl (zY s 0 fT bZ rfl (zB rfl cL (by simp) ?_))))
  refine zk 4 rfl (zY s 0 eW je rfl (zo rfl (aC rfl rfl rfl J) (zB rfl aL (decide_eq_true (by omega)) ?_)))
  refine zk 5 rfl (WP.block (zK 8 rfl (Rh hT.w hk Ah (by omega) (by omega) s1 ⟨rfl,rfl,rfl,rfl,rfl,rfl,rfl,rfl,aa⟩ fun E' h' lv fh s' => ?_)))
  have s:=s'.ae [1,2]
  dsimp only[bringA,getA,aT] at s
  refine WP.has fh (zw (NX hT.w (by omega) Ah (by omega) (by omega) s ⟨rfl,rfl,rfl,rfl,rfl,rfl,rfl,rfl,aa⟩ fun E' h' uv fh s' => ?_))
  have s:=s'.ae [1,5]
  dsimp only[bringA,getA,aT] at s
  refine WP.has fh ?_
  have tU:=j_ hk
  refine zK 5 rfl (zc rfl (DT hT.w hR dL tU ZT hN (by rw[dW];exact rJ) ZX.ld (by omega) s) ?_)
  rintro v h ⟨y,mw,rfl,ow,f_,s⟩
  have ki:pg mw=P:=by rw[←dW];funext m;exact hR.same f_ m
  rw[dW] at s
  have s:=s.ae [0,5,1,3,1,0]
  dsimp only[bringA,getA,aT] at s
  have s:=s.ae [0,6,1,1,1]
  dsimp only[bringA,getA,aT] at s
  refine zk 10 rfl (zC rfl aN (rfl) (zk 10 rfl (zc rfl (ih y k.pg (loK lo ks i) (fV hi ks i) cs' k.es k.ps seen lv uv mv mw _ _ ZX hh' acz (fun m hm=>I m (fP _ hm)) ow ki acA s) ?_)))
  rintro v h ⟨aa8,lZ,rfl,qu,l7,iq,s⟩
  have NZ:pg lZ=P:=by rw[←ki];funext m;exact hR.same l7 m
  have s:=s.ae [3,2,2,0,0]
  dsimp only[bringA,getA,aT] at s
  refine za rfl (zv (zg rfl (zm rfl (zh rfl (az rfl rfl aN) (rfl) (zv (zj rfl (WP.skip (zr rfl (zm rfl (zb rfl (by exact aO (ay (by omega) (by omega))) ?_))))))))))
  refine za rfl (zv ?_)
  refine ihj (i+1) aa8 lZ _ _ Q (by omega) Cn (fun m hm=>⟨(I m (kD _ hm)).1,?_⟩) qu NZ s ⟨rfl,rfl,rfl,rfl,rfl,rfl,aa⟩ (fun E' h' seen' aj g1 g2 g3 g4=>hq E' h' seen' aj g1 ((f_.trans l7).trans g2) (fun m hm => ?_) g4)
  ·rw[iq m fun q=>Jv m q m hm rfl]
   exact(I m (kD _ hm)).2
  ·rw[g3 m fun q=>hm (kD _ q),iq m fun q=>hm (fP _ q)]
theorem GD (hT:WB told)(hR:kf told N B rv A pg)(hN:N≤65536)(hl:l≤60)(ih:∀l',l=l'+1→Vg told N B rv A pg F P l'): Vg told N B rv A pg F P l:=by
 intro x n lo hi cs es ps seen fv hv mv ε h S I Gu gW J dL dW ff s
 have UK:=I.keys
 have Ah:=UK.rK
 obtain⟨bv,cv,us,s⟩:=bQ.1 s
 have s:=s.ae [4]
 have IV:eU Tryz.prog h 140 mv (.int .i64 (n:Int)) true=some (.aW [.agg [],.bool false]):=by
  rcases l_ (n:=(n:Int)) (fun _ _=>aJ.pu _) s D3 bP G3 with⟨_,g2,_⟩|⟨uu,y,g1,_⟩
  ·exact g2
  ·rw[(J n bO).2] at g1;cases g1
 refine Call.of_wp (hT.w.free _ rfl) Tryz.func153 rfl rfl (zK 10 rfl (zY s 1 qA bZ rfl (zo rfl (jo rfl rfl IV) (zk 3 rfl ?_))))
 refine aA.cB s rfl rfl rfl (cF G3) (fun p11 h s => ?_)
 refine zS rfl (s.iK (j:=0) rfl Uu rfl rfl) ?_
 intro h s
 have s:=s.drop
 refine zk 13 rfl (zY s 1 qA bZ rfl (zo rfl (cP rfl (by rw[Uv];rfl)) ?_))
 refine aA.mS rfl rfl (OpR.mapUpdate rfl rfl rfl rfl (mo (n:=(n:Int)) (f:=D6) (x:=()) (fun _ _=>aJ.pu _) (s.fq rfl) D3 bP)) ?_
 intro _ h s
 have s:=s.ae [1,1,1,1]
 have FY:∀m:Nat,m≠n→lookL (m:Int) (cY (n:Int) () seen)=lookL (m:Int) seen:=fun m hm=>by rw[kT,ax (by omega)]
 refine zk 5 rfl (zY s 0 fT bZ rfl (zo rfl (MV (r:=.int .i64 ((min 1 l:Nat):Int)) rfl rfl (abM.trans (by rw[show min (1:Int) (l:Int)=((min 1 l:Nat):Int) by omega]))) ?_))
 refine zk 8 rfl (WP.block ?_)
 have s:Sat h (cH x n l (P n) cs::_):=bQ.2 ⟨bv,cv,us,s⟩
 have s:=s.ae [0,2,2]
 refine NV hT UK hl ff Gu (cs.length-min 1 l) (min 1 l) _ _ _ (by omega) (aM _) s ⟨rfl,rfl,rfl,rfl,rfl,rfl,rfl,aa⟩ (fun E' h' hE s' => ?_)
 have s:=s'
 refine WP.has hE (zK 5 rfl (WP.block ?_))
 have s:=s.ae [0,0,0,0,0]
 cases l with
 |zero =>
  have s1:=s
  obtain⟨bv,cv,us,s⟩:=bQ.1 s
  refine WP.loop (zK 5 rfl (zY s 0 fT bZ rfl (zC rfl cL (by simp) ?_)))
  exact zk 11 rfl (WP.exit (zK 4 rfl (WP.ret ⟨aa,_,rfl,_,ε,rfl,dL,Sm.refl N ε,fun m hm=>FY m fun q=>hm (q ▸ bO),s1.drop.drop.drop⟩)))
 |succ l =>
  have adQ:=I
  obtain⟨ks,rfl,JE,yw,xL,xU⟩:=I
  rw[iy] at ff
  rw[xL] at gW J
  obtain⟨BG,tJ⟩:=List.nodup_cons.1 gW
  refine NY hT hR hN (by omega) (ih l rfl) JE ff Ah Gu xU ks.length 0 _ ε _ _ _ (by omega) (by rw[eC];exact tJ) (fun m hm => ?_) dL dW s ⟨rfl,rfl,rfl,rfl,rfl,rfl,aa⟩ (fun E' h' seen' aj g1 g2 g3 s' => ?_)
  ·rw[eC] at hm
   obtain⟨q1,q2⟩:=J m (bR _ hm)
   exact⟨q1,by rw[FY m fun q=>BG (q ▸ hm)];exact q2⟩
  have s:=s'
  rw[eC] at g3
  refine WP.has (F:=[]) aa (zK 4 rfl (WP.ret ⟨aa,_,rfl,?_⟩))
  exact⟨seen',aj,rfl,g1,g2,fun m hm=>by
   rw[xL] at hm
   rw[g3 m fun q=>hm (bR _ q),FY m fun q=>hm (q ▸ bO)],s⟩
theorem acB (I:WB told)(J:kf told N B rv A pg)(hN:N≤65536): ∀(l:Nat),l≤60→Vg told N B rv A pg F P l:=by
 intro l
 induction l with
 |zero=>exact fun h=>GD I J hN h fun l' e=>by cases e
 |succ l ih=>exact fun h=>GD I J hN h fun l' e=>Nat.succ.inj e ▸ ih (by omega)
theorem Ri (hT:WB told)(hR:kf told N B rv A pg)(hN:N≤65536)(hL:L≤60)(hv:Nv F P L [] none cs es ps)(hp:cm (P root) 204 0 L cs)(gW:(root::ps).Nodup)(I:∀m∈root::ps,m<N)(dL:EI N B ε)(J:pg ε=P)(s:Sat h (A ε::S)):
  Call ⟨Tryz.prog,told⟩ 69 [rv,.int .i64 (root:Int)] h fun v h'=>∃aj,v=.int .i64 0∧EI N B aj∧Sm N ε aj∧Sat h' (A aj::S):=by
 refine Call.of_wp (hT.w.free _ rfl) Tryz.func69 rfl rfl (zK 8 rfl (zc rfl (wz (l:=L) (cs:=cs) hT.w hR dL (I root bO) (by rw[J];exact hp) hv.ld (by omega) s) ?_))
 rintro v h ⟨x,mw,rfl,ow,f_,s⟩
 have ki:pg mw=P:=by rw[←J];funext m;exact hR.same f_ m
 rw[J] at s
 refine zk 10 rfl (zC rfl aN (rfl) (zk 7 rfl ?_))
 refine aA.yK s rfl rfl rfl rfl (fun p18 h s => ?_)
 have s:=oE (f:=D6) s
 have s:=s.qT.fq (φ:=V.aV=.aV) rfl
 have s:Sat _ (vi .aV none::_):=s
 have s:=s.ae [3,2,2,1,0]
 refine zc rfl (acB hT hR hN L hL x root [] none cs es ps [] .aV .aV _ mw _ _ hv (fun b hb=>by cases hb) gW (fun m hm=>⟨I m hm,rfl⟩) ow ki (by have:=hp.fits;omega) s) ?_
 rintro v h ⟨seen',lZ,rfl,qu,l7,_,s⟩
 exact zk 2 rfl (WP.ret ⟨aa,_,rfl,lZ,rfl,qu,f_.trans l7,s.drop⟩)
end
theorem Rj : ∀ {ks:List gR},ks≠[]→(∀k∈ks,l≤k.ps.length)→l+1≤(ks.flatMap gu).length:=by
 intro ks I J
 cases ks with
 |nil=>exact absurd rfl I
 |cons k t =>
  have:=J k bO
  rw[fE,aX,gu,aZ]
  omega
theorem Nv.deep : ∀ {l:Nat} {lo:Ky} {hi:Option Ky} {cs:List (List Nat)} {es:List En} {ps:List Nat},Nv F P l lo hi cs es ps→l≤ps.length:=by
 intro l
 induction l with
 |zero=>intros;exact eN _
 |succ l I =>
  rintro lo hi cs es ps ⟨ks,_,hs,_,rfl,J⟩
  refine Rj hs.ne fun k hm => ?_
  obtain⟨i,hi⟩:=List.mem_iff_getElem?.1 hm
  obtain⟨cs',a1,_,_⟩:=J i k hi
  exact I a1
theorem jt {l:List Nat}(h:l[i]?=some n): (cf l)[i]?=some (.int .i64 (n:Int)):=by rw[cf,jv,h];rfl
section
variable {P:Program} {v c:V} {cs:List V} {e:TypeId}
theorem G_ (a:uI (T.get h.tr) 1 v cs)(J:cs[i]?=some c)(hu:P.underlying t=some (.slice e))(I:bg P e=some 1):
  ∃id off,indexAddrV P t v (.int .i64 (i:Int))=some (.ptr id off)∧∀t',isAggT P t'=some false→loadV P h t' (.ptr id off)=some c:=by
 have hi:=(List.getElem?_eq_some_iff.1 J).1
 obtain⟨id,off,e1,e2⟩:=Y_ (i:=i) a (by omega) (by decide) hu I
 exact⟨id,off,e1,fun t' ht=>e2 0 c t' (by rw[gh,aH (by decide),eA,cz,dA];exact J) ht⟩
end
section
variable {told:cy} {pl ul:List Nat}
noncomputable def hoO : Code:=cE [1,1,1,1,1,1,0,1,0,0] ((Tryz.f19.body).getD .skip)
noncomputable def hoA : Code:=cE [1,1,1,1,1,1,0,1,0,0,1,0,0,1,0,1,0,0] ((Tryz.f19.body).getD .skip)
noncomputable def hoB : Code:=cE [1,1,1,1,1,1,0,1,0,0,1,0,0,1,1,0,1,0,0] ((Tryz.f19.body).getD .skip)
theorem TW (hp:pl[i]?=some n)(qp:ul.length≤100000): ∀(j k:Nat) (E:List (Nat×V)) (Q:Ex→List (Nat×V)→H→Prop),k+j=ul.length→Sat h (roS 1 w (cf pl)::.arr 1 uv (cf ul)::S) →
  Has E [(9,w),(13,uv),(14,.int .i64 0),(15,.int .i64 (i:Int)),(16,.bool (decide (n∈ul.take k))),(17,.int .i64 (k:Int))] →
  (∀E',Has E' [(9,w),(13,uv),(14,.int .i64 0),(15,.int .i64 (i:Int)),(16,.bool (decide (n∈ul)))]→Q (.exit 2) E' h)→WP ⟨Tryz.prog,told⟩ 143 (.loop hoA) E h Q:=by
 intro j
 induction j with
 |zero =>
  intro k E Q hk s hE hq
  have I:=s.eY (P:=Tryz.prog) (j:=1) (n:=ul.length) rfl (by rw[iD,cz]) (by decide) cC
  obtain rfl:k=ul.length:=hk
  rw[ja] at hE
  refine WP.loop (WP.has hE (zK 5 rfl (zo rfl (aC rfl rfl rfl I) (zC rfl aL (by simp) ?_))))
  exact zk 2 rfl (WP.exit (hq _ ⟨rfl,rfl,rfl,rfl,rfl,aa⟩))
 |succ j ih =>
  intro k E Q hk s hE hq
  have I:=s.eY (P:=Tryz.prog) (j:=1) (n:=ul.length) rfl (by rw[iD,cz]) (by decide) cC
  obtain⟨u,hu⟩:∃u,ul[k]?=some u:=⟨_,aG (by omega)⟩
  have qi:ul.take (k+1)=ul.take k++[u]:=by rw[mI,hu];rfl
  obtain⟨id,off,e1,e2⟩:=jg (P:=Tryz.prog) s (k:=1) (i:=k) rfl (jt hu) cC jO
  obtain⟨uL,vg,e3,e4⟩:=G_ (P:=Tryz.prog) (s.nr (j:=0) rfl (ig _ _ _)) (jt hp) cC jO
  by_cases J:n∈ul.take k
  ·rw[dy J] at hE
   refine WP.loop (WP.has hE (zK 5 rfl (zo rfl (aC rfl rfl rfl I) (zB rfl aL (by simp;omega) ?_))))
   refine zk 4 rfl (WP.block (WP.drawn [af,af,af,af,af,af,af,af,af,af,af,af,af] rfl (by kernel_rfl) (by kernel_rfl) ?_))
   refine zM rfl (zM rfl (aE.no (e:=false) rfl rfl rfl rfl (aE.no (e:=false) rfl rfl rfl rfl (aE.no (e:=false) rfl rfl rfl rfl (aE.no (e:=false) rfl rfl rfl rfl (aE.no (e:=false) rfl rfl rfl rfl (aE.no (e:=false) rfl rfl rfl rfl (aE.no (e:=false) rfl rfl rfl rfl (aE.no (e:=false) rfl rfl rfl rfl (aE.no (e:=false) rfl rfl rfl rfl (zO rfl (mN rfl rfl) (zA rfl ?_))))))))))))
   refine aE.nil ⟨⟨aa,aa,aa,aa,aa,aa,aa,aa,aa,aa,aa,aa,aa,aa⟩,?_⟩
   refine zK 2 rfl (zb rfl (by exact aO (ay (by omega) (by omega))) ?_)
   refine za rfl (zv ?_)
   exact ih (k+1) _ Q (by omega) s ⟨rfl,rfl,rfl,rfl,by rw[dy (by rw[qi];exact fP _ J)];rfl,rfl,aa⟩ hq
  ·rw[eM J] at hE
   have key:∀E',Has E' [(9,w),(13,uv),(14,.int .i64 0),(15,.int .i64 (i:Int)),(16,.bool (decide ((u:Int)=(n:Int)))),(17,.int .i64 ((k+1:Nat):Int))]→WP ⟨Tryz.prog,told⟩ 143 (.loop hoA) E' h Q:=fun E' fh=>by
    refine ih (k+1) E' Q (by omega) s ?_ hq
    have e:decide (n∈ul.take (k+1))=decide ((u:Int)=(n:Int)):=by
     rw[qi]
     exact decide_eq_decide.2 ⟨fun q=>by
      rcases List.mem_append.1 q with q|q
      ·exact absurd q J
      ·rw[List.mem_singleton.1 q],fun q=>kD _ (by rw[Ek];omega)⟩
    rw[e]
    exact fh
   by_cases hun:u=n
   ·subst hun
    refine WP.loop (WP.has hE (zK 5 rfl (zo rfl (aC rfl rfl rfl I) (zB rfl aL (by simp;omega) ?_))))
    refine zk 4 rfl (WP.block (WP.drawn [af,af,af,af,af,af,af,af,af,af,af,af,af] rfl (by kernel_rfl) (by kernel_rfl) ?_))
    refine zM rfl (zM rfl (zM rfl (zM rfl (zO rfl (bx (r:=.ptr id off) rfl rfl e1) (zL rfl (e2 _ bZ) (zM rfl (zM rfl (zO rfl (bx (r:=.ptr uL vg) rfl rfl e3) (zL rfl (e4 _ bZ) (aE.vV rfl rfl rfl rfl (az rfl rfl ej) (by simp) ?_))))))))))
    refine zO rfl (o5 rfl rfl) (zA rfl ?_)
    refine aE.nil ⟨⟨aa,aa,aa,aa,aa,aa,aa,aa,aa,aa,aa,aa,aa,aa⟩,?_⟩
    refine zK 2 rfl (zb rfl (by exact aO (ay (by omega) (by omega))) ?_)
    refine za rfl (zv ?_)
    exact key _ ⟨rfl,rfl,rfl,rfl,by rw[dy rfl];rfl,rfl,aa⟩
   ·skip
    refine WP.loop (WP.has hE (zK 5 rfl (zo rfl (aC rfl rfl rfl I) (zB rfl aL (by simp;omega) ?_))))
    refine zk 4 rfl (WP.block (WP.drawn [af,af,af,af,af,af,af,af,af,af,af,af,af] rfl (by kernel_rfl) (by kernel_rfl) ?_))
    refine zM rfl (zM rfl (zM rfl (zM rfl (zO rfl (bx (r:=.ptr id off) rfl rfl e1) (zL rfl (e2 _ bZ) (zM rfl (zM rfl (zO rfl (bx (r:=.ptr uL vg) rfl rfl e3) (zL rfl (e4 _ bZ) (aE.rX rfl rfl rfl rfl (az rfl rfl ej) (by simp;omega) ?_))))))))))
    refine zO rfl (o5 rfl rfl) (zA rfl ?_)
    refine aE.nil ⟨⟨aa,aa,aa,aa,aa,aa,aa,aa,aa,aa,aa,aa,aa,aa⟩,?_⟩
    refine zK 2 rfl (zb rfl (by exact aO (ay (by omega) (by omega))) ?_)
    refine za rfl (zv ?_)
    exact key _ ⟨rfl,rfl,rfl,rfl,by rw[eM (by omega)];rfl,rfl,aa⟩
theorem N3 (J:pl.Nodup)(hp:pl[i]?=some n)(FH:pl.length≤100000): ∀(j k:Nat) (E:List (Nat×V)) (Q:Ex→List (Nat×V)→H→Prop),k+j=i→Sat h (roS 1 w (cf pl)::.arr 1 uv (cf ul)::S) →
  Has E [(9,w),(13,uv),(14,.int .i64 0),(15,.int .i64 (i:Int)),(16,.bool true),(18,.int .i64 (k:Int))] →
  (∀E',Has E' [(9,w),(13,uv),(14,.int .i64 0),(15,.int .i64 (i:Int)),(16,.bool true)]→Q (.exit 4) E' h)→WP ⟨Tryz.prog,told⟩ 143 (.loop hoB) E h Q:=by
 have hi:=(List.getElem?_eq_some_iff.1 hp).1
 intro j
 induction j with
 |zero =>
  intro k E Q hk s hE hq
  obtain rfl:k=i:=hk
  refine WP.loop (WP.has hE (zK 5 rfl (zC rfl aL (by simp) ?_)))
  exact zk 2 rfl (WP.exit (hq _ ⟨rfl,rfl,rfl,rfl,rfl,aa⟩))
 |succ j ih =>
  intro k E Q hk s hE hq
  obtain⟨u,hu⟩:∃u,pl[k]?=some u:=⟨_,aG (by omega)⟩
  have hun:u≠n:=fun q=>by
   subst q
   obtain⟨a1,a2⟩:=List.getElem?_eq_some_iff.1 hu
   obtain⟨b1,b2⟩:=List.getElem?_eq_some_iff.1 hp
   exact List.pairwise_iff_getElem.1 J k i a1 b1 (by omega) (a2.trans b2.symm)
  obtain⟨id,off,e1,e2⟩:=G_ (P:=Tryz.prog) (s.nr (j:=0) rfl (ig _ _ _)) (jt hu) cC jO
  obtain⟨uL,I,e3,e4⟩:=G_ (P:=Tryz.prog) (s.nr (j:=0) rfl (ig _ _ _)) (jt hp) cC jO
  refine WP.loop (WP.has hE (zK 5 rfl (zB rfl aL (by simp;omega) ?_)))
  refine zk 4 rfl (WP.block (WP.drawn [af,af,af,af,af,af,af,af,af,af,af,af,af] rfl (by kernel_rfl) (by kernel_rfl) ?_))
  refine zM rfl (zM rfl (zM rfl (zM rfl (zO rfl (bx (r:=.ptr id off) rfl rfl e1) (zL rfl (e2 _ bZ) (zM rfl (zM rfl (zO rfl (bx (r:=.ptr uL I) rfl rfl e3) (zL rfl (e4 _ bZ) (aE.vV rfl rfl rfl rfl (az rfl rfl aN) (by simp;omega) ?_))))))))))
  refine zO rfl (mN rfl rfl) (zA rfl ?_)
  refine aE.nil ⟨⟨aa,aa,aa,aa,aa,aa,aa,aa,aa,aa,aa,aa,aa,aa⟩,?_⟩
  refine zK 2 rfl (zb rfl (by exact aO (ay (by omega) (by omega))) ?_)
  refine za rfl (zv ?_)
  exact ih (k+1) _ Q (by omega) s ⟨rfl,rfl,rfl,rfl,rfl,rfl,aa⟩ hq
theorem N4 (gW:pl.Nodup)(FH:pl.length≤100000)(qp:ul.length≤100000)(Tm:∀n∈pl,n∈ul): ∀(j i:Nat) (E:List (Nat×V)) (Q:Ex→List (Nat×V)→H→Prop),i+j=pl.length→Sat h (roS 1 w (cf pl)::.arr 1 uv (cf ul)::S) →
  Has E [(9,w),(13,uv),(14,.int .i64 0),(15,.int .i64 (i:Int))]→(∀E',Has E' [(14,.int .i64 0)]→Q (.exit 0) E' h)→WP ⟨Tryz.prog,told⟩ 143 (.loop hoO) E h Q:=by
 intro j
 induction j with
 |zero =>
  intro i E Q hi s I hq
  have J:=zX (P:=Tryz.prog) (n:=pl.length) (s.nr (j:=0) rfl (ig _ _ _)) (by rw[iD,cz]) (by decide) cC
  refine WP.loop (WP.has I (zK 5 rfl (zo rfl (aC rfl rfl rfl J) (zC rfl aL (by simp;omega) ?_))))
  exact zk 2 rfl (WP.exit (hq _ ⟨rfl,aa⟩))
 |succ j ih =>
  intro i E Q hi s I hq
  have J:=zX (P:=Tryz.prog) (n:=pl.length) (s.nr (j:=0) rfl (ig _ _ _)) (by rw[iD,cz]) (by decide) cC
  obtain⟨n,hn⟩:∃n,pl[i]?=some n:=⟨_,aG (by omega)⟩
  have uV:=Tm n (aR hn)
  refine WP.loop (WP.has I (zK 5 rfl (zo rfl (aC rfl rfl rfl J) (zB rfl aL (by simp;omega) ?_))))
  refine zk 4 rfl (WP.block (zK 9 rfl (WP.block ?_)))
  refine TW hn qp ul.length 0 _ _ (by omega) s ⟨rfl,rfl,rfl,rfl,rfl,rfl,aa⟩ (fun E' I => ?_)
  rw[dy uV] at I
  refine WP.has I (zK 5 rfl (WP.block ?_))
  refine N3 gW hn FH i 0 _ _ (by omega) s ⟨rfl,rfl,rfl,rfl,rfl,rfl,aa⟩ (fun E' I => ?_)
  refine WP.has I (zg rfl (zm rfl (zo rfl (eG rfl rfl) (zv (zj rfl (WP.skip (zr rfl (zm rfl (zb rfl (by exact aO (ay (by omega) (by omega))) ?_)))))))))
  refine za rfl (zv ?_)
  exact ih (i+1) _ Q (by omega) s ⟨rfl,rfl,rfl,rfl,aa⟩ hq
end
section
variable {told:cy} {root:Nat}
theorem WX {f:Nat→Bool}: j∈wB f n↔j<n∧f j=true:=by
 unfold wB
 rw[List.mem_filter,List.mem_range]
theorem He {a b:bw}(J:kf told N B rv A pg)(hs:Sm N a b)(I:pg a=P): pg b=P:=by rw[←I];funext m;exact J.same hs m
theorem TX (hT:WB told)(J:kf told N B rv A pg)(hN:N≤2999)(ht:D2 N root R ot P P es)(hb:∀d∈es,∀x∈d.1,x<256)(hlen:es.length≤300)(dL:EI N B ε)(dW:pg ε=P)(s:Sat h (A ε::.arr 2 lv (cD es)::S)):
  Call ⟨Tryz.prog,told⟩ 19 [rv,.int .i64 (root:Int),lv] h fun v h'=>∃aj,v=.bool true∧EI N B aj∧Sm N ε aj∧Sat h' (A aj::.arr 2 lv (cD es)::S):=by
 obtain⟨M,L,cs,ps,jW,GF,hv,hp,adR,_⟩:=ht
 obtain⟨hpn,_⟩:=hv.JA
 have hL:L≤10:=hv.lvl (by omega)
 have hdp:=hv.deep
 have gW:(root::ps).Nodup:=(List.nodup_append.1 GF.nd).1
 have I:∀m∈root::ps,m<N:=fun m hm=>(GF.tY m (fP _ hm)).2
 have hr:=I root bO
 have h2r:=(GF.tY root (fP _ bO)).1
 have Bz:(cD es).length=es.length*2:=dF _
 have pz:∀ {h:H} {j:Nat} {S:List aI},Sat h S→getA S j=some (.arr 2 lv (cD es))→lenV Tryz.prog h 28 lv=some (.int .i64 (es.length:Int)):=fun s hj=>s.eY (P:=Tryz.prog) hj Bz (by decide) iO
 refine Call.of_wp (hT.w.free _ rfl) Tryz.func19 rfl rfl (zK 9 rfl (zo rfl (aC rfl rfl rfl (pz s (j:=1) rfl)) (zo rfl (az (r:=.int .i64 ((es.length:Int)+1)) rfl rfl (aO (ay (by omega) (by omega)))) ?_)))
 refine zc rfl (Q_ hT J (by omega) (by omega) hv hp hr (fun m hm=>I m (bR _ hm)) hb (by omega) (by omega) (by omega) dL dW s) ?_
 rintro v h ⟨ov,mw,rfl,ow,f_,s⟩
 have ki:=He J f_ dW
 have s:=s.ae [1]
 refine zk 10 rfl (zc rfl (Rf (F:=iM) hT.w J (by omega) (by omega) hv hp gW I (by omega) ow ki s) ?_)
 rintro v h ⟨w,lZ,rfl,qu,l7,s⟩
 have NZ:=He J l7 ki
 have s:=s.ae [1]
 refine zk 10 rfl (zc rfl (Rg hT.w J (by omega) hv hp hr qu NZ s) ?_)
 rintro v h ⟨rU,rfl,BR,r7,s⟩
 have ZY:=He J r7 NZ
 refine zk 10 rfl (zo rfl (eG rfl rfl) (zk 3 rfl ?_))
 have s:=s.ae [2,2]
 refine zc rfl (TP hT.w (by omega) s) ?_
 rintro v h ⟨rfl,s⟩
 refine zo rfl (eG rfl rfl) (zk 3 rfl (zC rfl aN (rfl) (zk 3 rfl (zC rfl aN (rfl) (zk 4 rfl ?_)))))
 have s:=s.ae [2]
 refine zc rfl (Ri (F:=iM) hT J (by omega) (by omega) hv hp gW I BR ZY s) ?_
 rintro v h ⟨t_,rfl,ZE,hs4,s⟩
 have acC:=He J hs4 ZY
 have FH:(root::ps).length=ps.length+1:=rfl
 have UG:=zX (P:=Tryz.prog) (n:=(root::ps).length) (s.nr (j:=3) rfl (ig _ _ _)) (by rw[iD,cz]) (by decide) cC
 obtain⟨id,off,e1,e2⟩:=G_ (P:=Tryz.prog) (i:=0) (s.nr (j:=3) rfl (ig _ _ _)) (jt (n:=root) rfl) cC jO
 refine zC rfl aN (rfl) (zk 3 rfl (zo rfl (aC rfl rfl rfl UG) (zC rfl aL (decide_eq_false (by omega)) ?_)))
 refine zk 3 rfl (zo rfl (bx (r:=.ptr id off) rfl rfl e1) (zl rfl (e2 _ bZ) (zm rfl (zC rfl aN (by simp) ?_))))
 refine zk 3 rfl (zC rfl aL (by simp;omega) ?_)
 refine zk 4 rfl (zo rfl (aC rfl rfl rfl UG) (zC rfl cL (by simp;omega) ?_))
 refine zk 3 rfl (zo rfl (aC rfl rfl rfl UG) (zm rfl (zo rfl (aC rfl rfl rfl (pz s (j:=2) rfl)) (zo rfl (az (r:=.int .i64 (2*(es.length:Int))) rfl rfl (jq (ay (by omega) (by omega)))) ?_))))
 refine zo rfl (az (r:=.int .i64 (2*(es.length:Int)+1)) rfl rfl (aO (ay (by omega) (by omega)))) ?_
 refine zC rfl cL (decide_eq_false (by omega)) ?_
 refine zk 7 rfl (zc rfl (TB hT.w J ZE (by omega) (by rw[acC];exact jW) s) ?_)
 rintro v h ⟨uv,NK,rfl,adi,hs5,s⟩
 have s:=s.ae [4,0]
 refine zk 11 rfl (WP.block ?_)
 refine N4 gW (by omega) (by have:=Fw (f:=bt M) (k:=N);omega) (fun n hn=>WX.2 ⟨I n hn,by rw[GF.bits n (I n hn)];exact dy (.inr (fP _ hn))⟩) (root::ps).length 0 _ _ (by omega) s ⟨rfl,rfl,rfl,rfl,aa⟩ (fun E' hE => ?_)
 refine WP.has hE (zK 3 rfl (zB rfl ej (by simp) ?_))
 exact zk 2 rfl (WP.ret ⟨aa,_,rfl,NK,rfl,adi,(((f_.trans l7).trans r7).trans hs4).trans hs5,((s.ae [2,3]).del 4 |>.del 3 |>.del 2)⟩)
end
structure WS (told:cy): Prop where
 w:W told
 fmt:told 32=some (oo Tryz.prog 32 (Ji 32))
section
variable {told:cy} {p:Nat} {v x y:V} {Rt:List V} {U:List Bool} {l c L:List Nat}
theorem N5 (hT:WS told){m:Nat}(hB:B≤800)(I:EI N B ε)(hN:4≤N)(J:N≤2999)(hz:(pgA ε 0).length=512)(hg:b7 (pgA ε 0)=false)(hd:uN K m ε)(hf:K+1068≤m)(s:Sat h (SA a p q r .cU data bA ε::S)):
  Call ⟨Tryz.prog,told⟩ 32 [.ptr a 0] h fun v h'=>v=.int .i64 0∧∃aj,EI N (B+2) aj∧ir N (List.replicate 64 0) xV (pgA aj)∧uN (K+1068) m aj∧Sat h' (SA a p q r .cU data bA aj::S)∧GDn N B 1 ε aj :=
 Call.defer hT.fmt I9 rfl (QL hB I hN J hz hg hd hf s)
theorem FA (hT:WS told){m f:Nat}(hN:4≤n)(UQ:n≤2999)(hm:m≤16777216)(hf:1068≤m)(h4:1≤f)(h5:f≤1024)(s:Sat h S):
  Call ⟨Tryz.prog,told⟩ 42 [.int .i64 (n:Int),.int .i64 (m:Int),.int .i64 (f:Int)] h fun v h'=>∃p a q r ε,v=.ptr a 0∧EI n 3 ε∧ir n (List.replicate 64 0) xV (pgA ε)∧uN 1068 m ε∧Sat h' (SA a p q r .cU [] 0 ε::S):=by
 have I:b7 (List.replicate 512 0)=false:=by decide +kernel
 refine Call.of_wp (hT.w.free _ rfl) Tryz.func42 rfl rfl (zK 9 rfl (zc rfl (Nm (n:=n) (m:=m) (f:=f) hT.w s (by omega) (by omega) hm h4 h5) ?_))
 rintro v h ⟨p,a,q,r,rfl,s⟩
 have s:Sat h (SA a p q r .cU [] 0 (fresh n m f)::S):=cG.2 s
 refine zk 10 rfl (zC rfl (xk zI) (rfl) (zk 2 rfl (zc rfl (N5 (K:=0) (m:=m) hT (by decide) (EI.fresh (by omega) hm h4 h5) hN UQ (by rw[Gx];exact fc) (by rw[Gx];exact I) ⟨aM _,rfl⟩ (by omega) s) ?_)))
 rintro v h ⟨rfl,aj,J,hp,hd,s,_⟩
 rw[ep] at hd
 exact zC rfl aN (rfl) (zk 9 rfl (WP.ret ⟨aa,_,rfl,p,a,q,r,aj,rfl,J,hp,hd,s⟩))
theorem Ai (I:W told)(s:Sat h (SA a p q r .cU data bA ε::S)): Call ⟨Tryz.prog,told⟩ 13 [.ptr a 0] h fun v h'=>∃g,v=.ptr g 0∧Sat h' (GA g a p q r data bA [] ε::S):=by
 have s:=cG.1 s
 have s:Sat h (fA a p q r .cU data bA::e_ r p q ε.1::cM q p ε.2.1::bM p ε.2.2::S):=s
 refine Call.of_wp (I.free _ rfl) Tryz.func13 rfl rfl (zK 7 rfl (zc rfl (Ge I s) ?_))
 rintro v h ⟨g,rfl,s⟩
 exact zk 10 rfl (zC rfl aN (rfl) (zk 8 rfl (WP.ret ⟨aa,_,rfl,g,rfl,cG.2 s⟩)))
end
section
variable {bf tx p:Nat} {aj:bw} {e:Int} {cl:Bool}
theorem rH.or7 (hr:rH ε now kd tx 0 0 [] 0 bf e cl aj)(I:EI N B ε)(hB:B≤1000)(hw:NW N now)(hN:N≤2999)(hl:now.length≤2000)(h1:1≤kd)(h2:kd≤7)(Iv:tx<16384):
  (cl=false∧e=7)∨(cl=true∧e=0∧EI N (B+2) aj∧∀m,pgA aj m=match lookL m now with|some b=>dK b bf|none=>pgA ε m):=by
 have CX:∀n∈fy now,0≤n∧n<N:=fun n hq=>hw.keys n (rG.1 hq)
 have NI:=I.done hB hw (by omega) (by omega) hr
 rcases NI with⟨J,he,_⟩|⟨J,he,k1,k2⟩
 ·refine .inl ⟨J,?_⟩
  rcases he with he|he
  ·exact he
  ·exfalso
   cases hr with
   |arg hh=>omega
   |dead _ _ _ hd=>rw[I.ec.dk.alive] at hd;cases hd
   |qo e c aj _ _ _ _ hc Du=>exact absurd (hc.ec I.ec I.ok CX).2.2 Du
   |app c lZ _ _ _ _ hc Du =>
    have Is:=Ck (kd:=kd) hc hw hl (by omega) Iv
    grind[lY]
   |put c lZ e rU _ _ _ _ hc ha hp=>cases J
 ·exact .inr ⟨J,he,k1,k2⟩
theorem cm.done {i:Int}{k link extra:Nat}(hd:∀m,pgA aj m=match lookL m now with|.some b=>dK b bf|.none=>pgA ε m)(I:cm (pgG now ε i) k link extra cs): cm (pgA aj i) k link extra cs:=by
 rw[hd]
 unfold pgG at I
 cases J:lookL i now with
 |none=>rw[J] at I;exact I
 |some b =>
  rw[J] at I
  obtain⟨k1,k2,_⟩:=zU (n:=bf) I.len
  exact I.tail k2 k1
theorem Nv.IW {P':Int→List Nat}: ∀ {l:Nat} {lo:Ky} {hi:Option Ky} {cs:List (List Nat)} {es:List En} {ps:List Nat},Nv F P l lo hi cs es ps→(∀m∈ps,∀k x e cs,cm (P m) k x e cs→cm (P' m) k x e cs)→Nv F P' l lo hi cs es ps:=by
 intro l
 induction l with
 |zero=>intro lo hi cs es ps h _;exact h
 |succ l ih =>
  intro lo hi cs es ps ⟨ks,h1,h2,h3,h4,h5⟩ hp
  subst h4
  refine⟨ks,h1,h2,h3,rfl,fun i k J => ?_⟩
  obtain⟨cs',a1,a2,a3⟩:=h5 i k J
  have hm:=aR J
  have hq:∀m∈k.pg::k.ps,∀k x e cs,cm (P m) k x e cs→cm (P' m) k x e cs:=fun m I=>hp m (List.mem_flatMap.2 ⟨k,hm,I⟩)
  exact⟨cs',ih a1 fun m I=>hq m (bR _ I),a2,hq k.pg bO _ _ _ _ a3⟩
def oz (N root:Nat)(R ot:List Nat)(P:Int→List Nat)(es:List En): Prop:=D2 N root R ot P P es
theorem D2.o {root:Nat}{I:Int→List Nat}(h:D2 N root R ot I P es): oz N root R ot P es:=by
 obtain⟨M,L,cs,ps,J,h2,h3,h4,h5,_⟩:=h
 exact⟨M,L,cs,ps,J,h2,h3,h4,h5,fun _ _=>rfl⟩
theorem oz.done {root:Nat}(hw:NW N now)(I:∀m,pgA aj m=match lookL m now with|some b=>dK b bf|none=>pgA ε m)(h:oz N root R ot (pgG now ε) es): oz N root R ot (pgA aj) es:=by
 obtain⟨M,L,cs,ps,J,h2,h3,h4,h5,_⟩:=h
 exact⟨M,L,cs,ps,J.done hw I,h2,h3.IW fun m _ k x e cs hp=>hp.done I,h4.done I,h5,fun _ _=>rfl⟩
theorem oz.fresh {root:Nat}(hs:ir N R M P)(I:mY N M (root::ot))(J:cm (P root) 204 0 0 []): oz N root R ot P [] :=
 ⟨M,0,[],[],hs,I,⟨rfl,⟨by simp,by simp,List.Pairwise.nil⟩,rfl⟩,J,by decide,fun _ _=>rfl⟩
theorem oz.ok {root:Nat}(h:oz N root R ot P es): jH [] none es:=by
 obtain⟨M,L,cs,ps,J,h2,I,h4,h5,_⟩:=h
 exact I.ok
theorem oz.root {root:Nat}(h:oz N root R ot P es): root<N:=by
 obtain⟨M,L,cs,ps,J,I,h3,h4,h5,_⟩:=h
 exact(I.tY root (fP _ bO)).2
end
structure WT (told:cy): Prop extends WI told where
 fmt:told 32=some (oo Tryz.prog 32 (Ji 32))
theorem WT.ws {told:cy}(h:WT told): WS told:=⟨h.w,h.fmt⟩
section
variable {told:cy} {p:Nat}
theorem Rk (J:W told)(hB:B≤900)(I:EI N B ε)(hw:NW N now)(hN:N≤2999)(hl:now.length≤2000)(h1:1≤kd)(h2:kd≤7)(s:Sat h (GA g a p q r data bA now ε::S)):
  Call ⟨Tryz.prog,told⟩ 18 [.ptr g 0,.agg (nM (kd:Int) 0 0 0 .aV .aV)] h fun v h'=>∃(bf:Nat),(v=.aW [.int .u64 (bf:Int),.int .i64 7])∨∃aj,v=.aW [.int .u64 (bf:Int),.int .i64 0]∧EI N (B+2) aj∧(∀m,pgA aj m=match lookL m now with|some b=>dK b bf|none=>pgA ε m)∧Sat h' (SA a p q r .cU data bA aj::S):=by
 refine(Gy J hB I hw s).mono ?_
 rintro v h ⟨bf,e,cl,aj,hr,rfl,s⟩
 rcases hr.or7 I (by omega) hw hN hl h1 h2 (by decide) with⟨rfl,rfl⟩|⟨rfl,rfl,k1,k2⟩
 ·exact⟨bf,.inl rfl⟩
 ·exact⟨bf,.inr ⟨aj,rfl,k1,k2,s.drop⟩⟩
noncomputable def grL : Code:=cE [1,1,1,1,1,1,0,1,0,0] ((Tryz.f12.body).getD .skip)
theorem Kx (hT:W told){m0:Nat}{sv:V}(hN:nt+4≤N)(hnt:nt≤20)(hB:B≤2000): ∀(j i:Nat) (rs:List Nat) (M:List Nat) (lv:V) (ε:bw) (now:List (Int×List Nat)) (h:H) (E:List (Nat×V)) (Q:Ex→List (Nat×V)→H→Prop),i+j=nt→rs.length=i→EI N B ε→NW N now→now.length≤3*i→ir N R M (pgG now ε)→mY N M rs→(∀z∈rs,cm (pgG now ε (z:Nat)) 204 0 0 [])→uN K m0 ε →
  Sat h (.arr 1 lv (cf rs)::GA g a p q r data bA now ε::S)→Has E [(1,.int .i64 (nt:Int)),(7,sv),(8,.ptr g 0),(9,lv),(10,.int .i64 (i:Int))] →
  (∀rs M lv ε now E' h',rs.length=nt→EI N B ε→NW N now→now.length≤3*nt→ir N R M (pgG now ε)→mY N M rs→(∀z∈rs,cm (pgG now ε (z:Nat)) 204 0 0 [])→uN K m0 ε→Has E' [(7,sv),(8,.ptr g 0),(9,lv)]→Sat h' (.arr 1 lv (cf rs)::GA g a p q r data bA now ε::S)→Q (.exit 0) E' h')→WP ⟨Tryz.prog,told⟩ 49 (.loop grL) E h Q:=by
 intro j
 induction j with
 |zero =>
  intro i rs M lv ε now h E Q hi J dL hw ZZ jW I dW Z0 s hE hq
  obtain rfl:i=nt:=hi
  refine WP.loop (WP.has hE (zK 5 rfl (zC rfl aL (by simp) ?_)))
  exact zk 2 rfl (WP.exit (hq rs M lv ε now _ _ J dL hw ZZ jW I dW Z0 ⟨rfl,rfl,rfl,aa⟩ s))
 |succ j ih =>
  intro i rs M lv ε now h E Q hi J dL hw ZZ jW I dW Z0 s hE hq
  refine WP.loop (WP.has hE (zK 5 rfl (zB rfl aL (by simp;omega) ?_)))
  refine zk 4 rfl (WP.block (zK 3 rfl (zc rfl (Tw hT hB dL hw jW I (s.ae [1])) ?_)))
  rintro v h ⟨aj,bH,h1,h2,h3,h4,s,(⟨_,_,hn⟩|⟨z,M',rfl,z2,hzN,acD,acE,acF,hpz,acG⟩)⟩
  ·omega
  have s:=s.ae [1]
  dsimp only[aT,bringA,getA] at s
  obtain⟨iv,Xe,w,HM,e3,e4,s2⟩:=Cl (k:=z) s (by omega)
  refine zk 10 rfl (zC rfl aN (rfl) (zk 6 rfl (aA.any rfl rfl rfl (OpR.of (R:=fun v h'=>v=iv∧h'=Xe) (gI rfl e3) ⟨rfl,rfl⟩) ?_)))
  rintro iv hA ⟨rfl,rfl⟩
  refine aA.any rfl rfl rfl (OpR.of (R:=fun v h'=>v=w∧h'=HM) (iG rfl rfl e4) ⟨rfl,rfl⟩) ?_
  rintro w hB' ⟨rfl,rfl⟩
  refine za rfl (zv (zr rfl (zm rfl (zb rfl (by first|exact aO (ay (by omega) (by omega))|rfl) ?_))))
  refine za rfl (zv ?_)
  refine ih (i+1) (rs++[z]) M' w aj bH _ _ Q (by omega) (by rw[aX,J];rfl) h1 h3 (by omega) acE (acF.perm (List.perm_append_singleton _ _).symm) (fun y hy => ?_) (Z0.sm h2) s2 ⟨rfl,rfl,rfl,rfl,rfl,aa⟩ hq
  rcases List.mem_append.1 hy with hy|hy
  ·have h2y:=(I.tY y hy).1
   rw[acG y (by omega) (by have:y≠z:=fun q=>acD (q ▸ hy);omega)]
   exact dW y hy
  ·rw[List.mem_singleton.1 hy]
   exact hpz.f
end
section
variable {told:cy}
theorem GG (I:WT told)(hN:nt+4≤N)(J:N≤2999)(hnt:nt≤20)(s:Sat h S):
  Call ⟨Tryz.prog,told⟩ 12 [.int .i64 (N:Int),.int .i64 (nt:Int)] h fun v h'=>∃p a q r lv rs M ε,v=.aW [.ptr a 0,lv,.bool true]∧rs.length=nt∧EI N 5 ε∧ir N (List.replicate 64 0) M (pgA ε)∧mY N M rs∧(∀z∈rs,cm (pgA ε (z:Nat)) 204 0 0 []) ∧
   Sat h' (.arr 1 lv (cf rs)::SA a p q r .cU [] 0 ε::S):=by
 refine Call.of_wp (I.w.free _ rfl) Tryz.func12 rfl rfl (zK 9 rfl (zc rfl (FA (n:=N) (m:=1048576) (f:=32) I.ws (by omega) J (by decide) (by decide) (by decide) (by decide) s) ?_))
 rintro v h ⟨p,a,q,r,ε,rfl,dL,hp,hd,s⟩
 refine zk 6 rfl (zC rfl (xk zI) (rfl) (zk 6 rfl (zc rfl (Ai I.w s) ?_)))
 rintro v h ⟨g,rfl,s⟩
 refine zk 6 rfl (zC rfl (xk kU) (rfl) ?_)
 have s:=s.kS (k:=1)
 generalize hR:List.replicate 64 0=R at hp ⊢
 refine zk 12 rfl (WP.block ?_)
 have Y9:mY N xV []:=⟨sL,by simp,fun j _=>by rw[QK];simp⟩
 refine Kx I.w hN hnt (by decide) nt 0 [] xV .aV ε [] _ _ _ (by omega) rfl dL (NW.nil N) (by simp) hp Y9 (by simp) hd s ⟨rfl,rfl,rfl,rfl,rfl,aa⟩ (fun rs M lv mw now E' h' k1 k2 k3 k4 k5 k6 k7 IX hE s' => ?_)
 have s:=s'.ae [1]
 refine WP.has hE (zK 3 rfl (zo rfl (cP rfl (xA (kd:=1))) (zc rfl (Gz (kd:=1) (L:=3*nt) I.w (by decide) k2 k3 k4 J (by omega) (by decide) (by decide) IX (by omega) s) ?_)))
 rintro v h ⟨bf,lZ,rfl,q1,q2,q3,s,_⟩
 refine zk 11 rfl (zB rfl ej (by decide) ?_)
 exact zk 4 rfl (WP.ret ⟨aa,_,rfl,p,a,q,r,lv,rs,M,lZ,rfl,k1,q1,k5.done k3 q2,k6,fun z hz=>(k7 z hz).done q2,(s.del 0).ae [1,0]⟩)
end
section
variable {told:cy} {root p:Nat} {b:Nat}
theorem Ct (s:Sat h S)(hb:b<256): ∃v I J,buildSliceV Tryz.prog h 29 1 [(0,.int .u8 (b:Int))]=some (v,I)∧convV Tryz.prog I 29 29 v=none∧convB Tryz.prog I 29 29 v=some (v,J)∧Sat J (.bK v [b]::S):=by
 have s1:=s.new (.cells 1 [.int .u8 (b:Int)] false)
 have hg:=s1.row (k:=0) rfl
 refine⟨_,_,(h.new (.cells 1 [.int .u8 (b:Int)] false)).put h.next (some (.cells 1 (ofBytes [b]) true)),TF (P:=Tryz.prog) (u:=.int .u8 (b:Int)) ak Us K3 rfl rfl rfl,?_,?_,?_⟩
 ·simp only[convV,ak]
 ·simp only[convB,ak,Tryz.underlying5,hg]
  rfl
 ·have s2:Sat _ (pt h.next (.cells 1 (ofBytes [b]) true)::S):=s1.put (k:=0) rfl
  exact s2.freeze.dG fun m r hm=>⟨by simpa using hb,.inr ⟨h.next,0,.exact 1,1,_,true,rfl,hm,rfl,aM _,rfl,aM _⟩⟩
theorem JG (hT:WI told)(hB:B≤2000)(hN:N≤2999)(I:EI N B ε)(hw:NW N now){val:Ky}(ht:oz N root R ot (pgG now ε) es)(yw:es.length<1000)(hX:bX X (b5 kv k))(hY:bX Y (b5 vv val))(hk:1≤k.length∧k.length≤96)(J:val.length≤128)
 (s:Sat h (GA g a p q r data bA now ε::X::Y::S)):
  Call ⟨Tryz.prog,told⟩ 14 [.ptr g 0,.int .i64 (root:Int),kv,vv] h fun v h'=>∃aj bH,EI N B aj∧Sm N ε aj∧NW N bH∧((v=.aW [.aV,.bool false,.int .i64 7]∧N≤2*es.length+ot.length+14∧Sat h' (GA g a p q r data bA bH aj::X::Y::S)) ∨
   (∃ov,v=.aW [ov,.bool (fb es k).isSome,.int .i64 0]∧Sat h' (GA g a p q r data bA bH aj::Cp ov (fb es k)::X::Y::S)∧D2 N root R ot (pgG now ε) (pgG bH aj) (ke es k val))):=by
 obtain⟨M,L,cs,ps,h1,h2,h3,h4,h5,_⟩:=ht
 have hpn:=h3.JA.1
 have hL:L≤10:=h3.lvl (by omega)
 refine(WM (L:=L) (cs:=cs) (ps:=ps) hT hB hN I hw h1 h2 h3 h4 (by omega) hX hY hk J s).mono ?_
 rintro v h ⟨aj,bH,k1,k2,k3,(⟨e1,e2,e3⟩|e)⟩
 ·refine⟨aj,bH,k1,k2,k3,.inl ⟨e1,?_,e3⟩⟩
  simp only[aX,aZ] at e2
  omega
 ·exact⟨aj,bH,k1,k2,k3,.inr e⟩
theorem JH (hT:WB told)(hR:kf told N B rv A pg)(hN:N≤2999)(I:EI N B ε)(J:oz N root R ot (pg ε) es)(yw:es.length<1000)(hX:bX X (b5 kv k))(hk:1≤k.length∧k.length≤96)
 (s:Sat h (A ε::X::S)):
  Call ⟨Tryz.prog,told⟩ 17 [rv,.int .i64 (root:Int),kv] h fun v h'=>∃aj,EI N B aj∧Sm N ε aj∧match fb es k with
   |none=>v=.aW [.aV,.bool false,.int .i64 0]∧Sat h' (A aj::X::S)
   |some val=>∃bv,v=.aW [bv,.bool true,.int .i64 0]∧Sat h' (aQ bv val::A aj::X::S):=by
 have hr:=J.root
 obtain⟨M,L,cs,ps,h1,h2,h3,h4,h5,_⟩:=J
 exact WG hT hR (by omega) h5 hX hk h3 h4 I rfl hr (fun m hm=>(h2.tY m (fP _ (bR _ hm))).2) s
theorem Rl (hT:WB told)(hR:kf told N B rv A pg)(hN:N≤2999)(I:EI N B ε)(J:oz N root R ot (pg ε) es)(yw:es.length<1000)(hX:bX X (b5 kv k))(hk:k.length≤96)
 (s:Sat h (A ε::X::S)):
  Call ⟨Tryz.prog,told⟩ 16 [rv,.int .i64 (root:Int),kv] h fun v h'=>∃aj,EI N B aj∧Sm N ε aj∧match kj es k with
   |none=>v=.aW [.aV,.aV,.bool false,.int .i64 0]∧Sat h' (A aj::S)
   |some e=>∃kb vb,v=.aW [kb,vb,.bool true,.int .i64 0]∧Sat h' (aQ kb e.1::aQ vb e.2::A aj::S):=by
 have hr:=J.root
 obtain⟨M,L,cs,ps,h1,h2,h3,h4,h5,_⟩:=J
 have hL:L≤10:=h3.lvl (by omega)
 exact Cr hT hR (by omega) (by omega) hX hk h3 h4 I rfl hr (fun m hm=>(h2.tY m (fP _ (bR _ hm))).2) s
theorem N6 (I:WT told)(s:Sat h S): Call ⟨Tryz.prog,told⟩ 11 [] h fun v h'=>v=.bool true∧Sat h' S:=by
 refine Call.of_wp (I.w.free _ rfl) Tryz.func11 rfl rfl (zK 6 rfl (zc rfl (GG (N:=16) (nt:=1) I (by decide) (by decide) (by decide) s) ?_))
 rintro v h ⟨p,a,q,r,lw,rs,M,ε,rfl,Ln,dL,J,GF,dW,s⟩
 obtain⟨root,rfl⟩:∃z,rs=[z]:=List.length_eq_one_iff.1 Ln
 generalize List.replicate 64 0=R at J
 have ht:oz 16 root R [] (pgA ε) []:=oz.fresh J GF (dW root bO)
 have s:=s.ae [1]
 refine zk 12 rfl (zo rfl (eG rfl rfl) (zk 6 rfl (zc rfl (Ai I.w s) ?_)))
 rintro v h ⟨g,rfl,s⟩
 have s:=s.ae [1]
 obtain⟨id,off,e1,e2⟩:=jg (P:=Tryz.prog) s (k:=0) (i:=0) rfl (jt (n:=root) rfl) cC jO
 refine zk 6 rfl (zC rfl (xk kU) (rfl) (zk 7 rfl (zo rfl (bx (r:=.ptr id off) rfl rfl e1) (zl rfl (e2 _ bZ) ?_))))
 obtain⟨kv,h1,h2,e3,e4,e5,s2⟩:=Ct (b:=98) s (by decide)
 refine aA.any rfl rfl rfl (OpR.of (R:=fun v h'=>v=kv∧h'=h1) (gI rfl e3) ⟨rfl,rfl⟩) ?_
 rintro kv hA ⟨rfl,rfl⟩
 refine aA.any rfl rfl rfl (OpR.of (R:=fun v h'=>v=kv∧h'=h2) (s8 rfl e4 e5) ⟨rfl,rfl⟩) ?_
 rintro kv h ⟨rfl,rfl⟩
 obtain⟨vv,h1,h2,e3,e4,e5,s3⟩:=Ct (b:=49) s2 (by decide)
 refine aA.any rfl rfl rfl (OpR.of (R:=fun v h'=>v=vv∧h'=h1) (gI rfl e3) ⟨rfl,rfl⟩) ?_
 rintro vv hA ⟨rfl,rfl⟩
 refine aA.any rfl rfl rfl (OpR.of (R:=fun v h'=>v=vv∧h'=h2) (s8 rfl e4 e5) ⟨rfl,rfl⟩) ?_
 rintro vv h ⟨rfl,rfl⟩
 have s:=s3.ae [3,1,0]
 refine zc rfl (JG (now:=[]) (B:=5) I.toWI (by decide) (by decide) dL (NW.nil 16) ht (by decide) (aY _ _) (aY _ _) (by decide) (by decide) s) ?_
 rintro v h ⟨aj,bH,k1,k2,k3,(⟨_,ue,_⟩|⟨ov,rfl,s,Z1⟩)⟩
 ·simp at ue
 have s:=(s.del 1).ae [3]
 obtain⟨id,off,e1,e2⟩:=jg (P:=Tryz.prog) s (k:=0) (i:=0) rfl (jt (n:=root) rfl) cC jO
 refine zk 11 rfl (zo rfl (qR rfl (mki_of kU rfl)) (zm rfl (zo rfl (bx (r:=.ptr id off) rfl rfl e1) (zl rfl (e2 _ bZ) ?_))))
 obtain⟨kw,h1,h2,e3,e4,e5,s2⟩:=Ct (b:=98) s (by decide)
 refine aA.any rfl rfl rfl (OpR.of (R:=fun v h'=>v=kw∧h'=h1) (gI rfl e3) ⟨rfl,rfl⟩) ?_
 rintro kw hA ⟨rfl,rfl⟩
 refine aA.any rfl rfl rfl (OpR.of (R:=fun v h'=>v=kw∧h'=h2) (s8 rfl e4 e5) ⟨rfl,rfl⟩) ?_
 rintro kw h ⟨rfl,rfl⟩
 have s:=s2.ae [2,0]
 refine zc rfl (JH I.toWB (Jg I.w (by decide) k3) (by decide) k1 Z1.o (by decide) (aY _ _) (by decide) s) ?_
 rintro v h ⟨lZ,q1,q2,q3⟩
 have hg:fb (ke [] [98] [49]) [98]=some [49]:=by decide
 rw[hg] at q3
 obtain⟨bv,rfl,s⟩:=q3
 exact zk 11 rfl (zB rfl ej (rfl) (zk 2 rfl (zo rfl (eG rfl rfl) (zk 3 rfl (zB rfl ej (rfl) (zk 6 rfl (zo rfl (b8 rfl (uE (s.aq (k:=0) rfl (aK _ _)))) (zB rfl ML (rfl) (zk 3 rfl (WP.ret ⟨aa,_,rfl,rfl,s.drop.drop.drop.drop.drop.drop⟩))))))))))
end
section
variable {v:V} {l:List Nat}
theorem wD (J:jz h v l)(hl:l.length=n+1): sliceV Tryz.prog h 29 (slR v 0 n) none (some (n+1)) none=some v∧(∀i:Nat,i<n→indexAddrV Tryz.prog 29 (slR v 0 n) (.int .i64 (i:Int))=indexAddrV Tryz.prog 29 v (.int .i64 (i:Int)))∧lenV Tryz.prog h 29 (slR v 0 n)=some (.int .i64 (n:Int))∧(slR v 0 n).cells=[slR v 0 n]∧storable (slR v 0 n)=true:=by
 have I:bg Tryz.prog 5=some 1:=d_
 rcases J.2 with⟨_,rfl⟩|⟨id,cs,c,rfl,_,hc⟩|⟨id,rfl,hg,_⟩
 ·grind
 ·have e:slR (.sl id 0 l.length (.exact c)) 0 n=.sl id 0 n (.exact c):=by
   grind[slR]
  refine⟨?_,fun i hi => ?_,vU ak,rfl,rfl⟩
  ·simp only[sliceV,ak,I,eo,cS]
   grind[aP]
  ·simp only[indexAddrV,ak,I,dm]
   grind
 ·have e:slR (.sl id 0 l.length (.rest 1 0)) 0 n=.sl id 0 n (.rest 1 0):=rfl
  refine⟨?_,fun i hi => ?_,vU ak,rfl,rfl⟩
  ·simp only[sliceV,ak,I,eo,cS]
   grind[fC,aP,Nat.beq_refl]
  ·simp only[indexAddrV,ak,I,dm]
   grind
end
theorem FB {c:Nat}(I:c<256): Nat.xor c 255<256:=Nat.xor_lt_two_pow (n:=8) I (by decide)
theorem Rm {P:Program}{x:Operand}{c:Nat}(I:c<256): binV P h .xor t x y (.int .u8 (c:Int)) (.int .u8 255)=some (.int .u8 ((Nat.xor c 255:Nat):Int)):=by
 simp only[binV,ikBeq,ag,intV]
 exact wo (f:=Nat.xor) (b:=255) I (by decide) (FB I) rfl
section
variable {told:cy} {p8 i0:Nat} {xv yv vz bv:V}
noncomputable def kx1 : Code:=cE [1,1,1,1,1,1,0,1,0,0,1,0,0,1,1,1,1,1,1,1,1,1,0,1,0,0] ((Tryz.f3.body).getD .skip)
theorem acH (Rn:kv=slR bv 0 n)(hn:n≤8192): ∀(d j:Nat) (l:List Nat) (h:H) (E:List (Nat×V)) (Q:Ex→List (Nat×V)→H→Prop),j+d=n→l.length=n+1→Sat h (aQ bv l::S) →
  Has E [(0,dv),(3,.ptr a 0),(4,lw),(6,lv),(7,.int .i64 (i0:Int)),(8,.ptr p8 0),(9,kv),(10,uv),(11,.ptr g 0),(12,ov),(15,.int .i64 (j:Int))] →
  (∀l' E' h',Has E' [(0,dv),(3,.ptr a 0),(4,lw),(6,lv),(7,.int .i64 (i0:Int)),(8,.ptr p8 0),(9,kv),(10,uv),(11,.ptr g 0),(12,ov)]→Sat h' (aQ bv l'::S)→Q (.exit 2) E' h')→WP ⟨Tryz.prog,told⟩ 263 (.loop kx1) E h Q:=by
 intro d
 induction d with
 |zero =>
  intro j l h E Q hj hl s hE hq
  obtain⟨_,_,k3,_⟩:=wD (s.buf (k:=0) rfl) hl
  rw[←Rn] at k3
  refine WP.loop (WP.has hE (zK 5 rfl (zo rfl (aC rfl rfl rfl k3) (zC rfl aL (decide_eq_false (by omega)) ?_))))
  exact zk 2 rfl (WP.exit (hq l _ _ ⟨rfl,rfl,rfl,rfl,rfl,rfl,rfl,rfl,rfl,rfl,aa⟩ s))
 |succ d ih =>
  intro j l h E Q hj hl s hE hq
  obtain⟨_,k2,k3,_⟩:=wD (s.buf (k:=0) rfl) hl
  have k4:=k2 j (by omega)
  rw[←Rn] at k3 k4
  obtain⟨c,hc⟩:∃c,l[j]?=some c:=⟨_,aG (by omega)⟩
  have rY:=(s.buf (k:=0) rfl).1 c (aR hc)
  obtain⟨J,I,e1,e2⟩:=c7 (s.buf (k:=0) rfl).view hc
  obtain⟨id,off,e3,h2,e4,s2⟩:=gD s (i:=j) (b:=Nat.xor c 255) (by omega) (FB rY)
  have ee:V.ptr J I=V.ptr id off:=by rw[e1] at e3;exact bp e3
  rw[←k4] at e1
  rw[←ee] at e4
  refine WP.loop (WP.has hE (zK 5 rfl (zo rfl (aC rfl rfl rfl k3) (zB rfl aL (decide_eq_true (by omega)) ?_))))
  refine zk 4 rfl (WP.block (zK 5 rfl (zo rfl (bx (r:=.ptr J I) rfl rfl e1) (zl rfl e2 (zb rfl (Rm rY) (zo rfl (bx (r:=.ptr J I) rfl rfl e1) (zS rfl (⟨h2,e4,s2⟩) ?_)))))))
  rintro h s
  refine zv (zr rfl (zm rfl (zb rfl (by first|exact aO (ay (by omega) (by omega))|rfl) ?_)))
  refine za rfl (zv ?_)
  exact ih (j+1) _ _ _ Q (by omega) (by rw[bT];exact hl) s ⟨rfl,rfl,rfl,rfl,rfl,rfl,rfl,rfl,rfl,rfl,rfl,aa⟩ hq
noncomputable def kx2 : Code:=cE [1,1,1,1,1,1,0,1,0,0,1,0,0,1,1,1,1,1,1,1,1,1,1,0,1,0,0] ((Tryz.f3.body).getD .skip)
theorem acI (Rn:uv=slR bv 0 n)(hn:n≤8192): ∀(d j:Nat) (l:List Nat) (h:H) (E:List (Nat×V)) (Q:Ex→List (Nat×V)→H→Prop),j+d=n→l.length=n+1→Sat h (aQ bv l::S) →
  Has E [(0,dv),(3,.ptr a 0),(4,lw),(6,lv),(7,.int .i64 (i0:Int)),(8,.ptr p8 0),(9,kv),(10,uv),(11,.ptr g 0),(12,ov),(16,.int .i64 (j:Int))] →
  (∀l' E' h',Has E' [(0,dv),(3,.ptr a 0),(4,lw),(6,lv),(7,.int .i64 (i0:Int)),(8,.ptr p8 0),(9,kv),(10,uv),(11,.ptr g 0),(12,ov)]→Sat h' (aQ bv l'::S)→Q (.exit 4) E' h')→WP ⟨Tryz.prog,told⟩ 263 (.loop kx2) E h Q:=by
 intro d
 induction d with
 |zero =>
  intro j l h E Q hj hl s hE hq
  obtain⟨_,_,k3,_⟩:=wD (s.buf (k:=0) rfl) hl
  rw[←Rn] at k3
  refine WP.loop (WP.has hE (zK 5 rfl (zo rfl (aC rfl rfl rfl k3) (zC rfl aL (decide_eq_false (by omega)) ?_))))
  exact zk 2 rfl (WP.exit (hq l _ _ ⟨rfl,rfl,rfl,rfl,rfl,rfl,rfl,rfl,rfl,rfl,aa⟩ s))
 |succ d ih =>
  intro j l h E Q hj hl s hE hq
  obtain⟨_,k2,k3,_⟩:=wD (s.buf (k:=0) rfl) hl
  have k4:=k2 j (by omega)
  rw[←Rn] at k3 k4
  obtain⟨c,hc⟩:∃c,l[j]?=some c:=⟨_,aG (by omega)⟩
  have rY:=(s.buf (k:=0) rfl).1 c (aR hc)
  obtain⟨J,I,e1,e2⟩:=c7 (s.buf (k:=0) rfl).view hc
  obtain⟨id,off,e3,h2,e4,s2⟩:=gD s (i:=j) (b:=Nat.xor c 255) (by omega) (FB rY)
  have ee:V.ptr J I=V.ptr id off:=by rw[e1] at e3;exact bp e3
  rw[←k4] at e1
  rw[←ee] at e4
  refine WP.loop (WP.has hE (zK 5 rfl (zo rfl (aC rfl rfl rfl k3) (zB rfl aL (decide_eq_true (by omega)) ?_))))
  refine zk 4 rfl (WP.block (zK 5 rfl (zo rfl (bx (r:=.ptr J I) rfl rfl e1) (zl rfl e2 (zb rfl (Rm rY) (zo rfl (bx (r:=.ptr J I) rfl rfl e1) (zS rfl (⟨h2,e4,s2⟩) ?_)))))))
  rintro h s
  refine zv (zr rfl (zm rfl (zb rfl (by first|exact aO (ay (by omega) (by omega))|rfl) ?_)))
  refine za rfl (zv ?_)
  exact ih (j+1) _ _ _ Q (by omega) (by rw[bT];exact hl) s ⟨rfl,rfl,rfl,rfl,rfl,rfl,rfl,rfl,rfl,rfl,rfl,aa⟩ hq
noncomputable def kx3 : Code:=cE [1,1,1,1,1,1,0,1,0,0,1,0,0,1,1,1,1,1,1,1,1,1,1,1,0,1,0,0] ((Tryz.f3.body).getD .skip)
theorem acJ : ∀(d j:Nat) (l:List Nat) (h:H) (E:List (Nat×V)) (Q:Ex→List (Nat×V)→H→Prop),j+d=l.length→l.length≤8192→Sat h (aQ ov l::S) →
  Has E [(0,dv),(3,.ptr a 0),(4,lw),(6,lv),(7,.int .i64 (i0:Int)),(8,.ptr p8 0),(9,kv),(10,uv),(11,.ptr g 0),(12,ov),(17,.int .i64 (j:Int))] →
  (∀l' E' h',Has E' [(0,dv),(3,.ptr a 0),(4,lw),(6,lv),(7,.int .i64 (i0:Int)),(8,.ptr p8 0),(9,kv),(10,uv),(11,.ptr g 0),(12,ov)]→Sat h' (aQ ov l'::S)→Q (.exit 6) E' h')→WP ⟨Tryz.prog,told⟩ 263 (.loop kx3) E h Q:=by
 intro d
 induction d with
 |zero =>
  intro j l h E Q hj hl s I J
  refine WP.loop (WP.has I (zK 5 rfl (zo rfl (aC rfl rfl rfl (au ak (s.aq (k:=0) rfl (aK _ _)))) (zC rfl aL (decide_eq_false (by omega)) ?_))))
  exact zk 2 rfl (WP.exit (J l _ _ ⟨rfl,rfl,rfl,rfl,rfl,rfl,rfl,rfl,rfl,rfl,aa⟩ s))
 |succ d ih =>
  intro j l h E Q hj hl s I J
  obtain⟨id,off,e3,h2,e4,s2⟩:=gD s (i:=j) (b:=99) (by omega) (by decide)
  refine WP.loop (WP.has I (zK 5 rfl (zo rfl (aC rfl rfl rfl (au ak (s.aq (k:=0) rfl (aK _ _)))) (zB rfl aL (decide_eq_true (by omega)) ?_))))
  refine zk 4 rfl (WP.block (zK 3 rfl (zo rfl (bx (r:=.ptr id off) rfl rfl e3) (zS rfl (⟨h2,e4,s2⟩) ?_))))
  rintro h s
  refine zv (zr rfl (zm rfl (zb rfl (by first|exact aO (ay (by omega) (by omega))|rfl) ?_)))
  refine za rfl (zv ?_)
  exact ih (j+1) _ _ _ Q (by rw[bT];omega) (by rw[bT];exact hl) s ⟨rfl,rfl,rfl,rfl,rfl,rfl,rfl,rfl,rfl,rfl,rfl,aa⟩ J
noncomputable def kx4 : Code:=cE [1,1,1,1,1,1,0,1,0,0,1,0,0,1,1,1,1,1,1,1,1,1,1,1,1,1,1,0,1,0,0] ((Tryz.f3.body).getD .skip)
theorem acK : ∀(d j:Nat) (l:List Nat) (h:H) (E:List (Nat×V)) (Q:Ex→List (Nat×V)→H→Prop),j+d=l.length→l.length≤8192→Sat h (aQ xv l::S) →
  Has E [(0,dv),(3,.ptr a 0),(4,lw),(6,lv),(7,.int .i64 (i0:Int)),(11,.ptr g 0),(18,xv),(19,yv),(22,vz),(25,.int .i64 (j:Int))] →
  (∀l' E' h',Has E' [(0,dv),(3,.ptr a 0),(4,lw),(6,lv),(7,.int .i64 (i0:Int)),(11,.ptr g 0),(18,xv),(19,yv),(22,vz)]→Sat h' (aQ xv l'::S)→Q (.exit 8) E' h')→WP ⟨Tryz.prog,told⟩ 263 (.loop kx4) E h Q:=by
 intro d
 induction d with
 |zero =>
  intro j l h E Q hj hl s I J
  refine WP.loop (WP.has I (zK 5 rfl (zo rfl (aC rfl rfl rfl (au ak (s.aq (k:=0) rfl (aK _ _)))) (zC rfl aL (decide_eq_false (by omega)) ?_))))
  exact zk 2 rfl (WP.exit (J l _ _ ⟨rfl,rfl,rfl,rfl,rfl,rfl,rfl,rfl,rfl,aa⟩ s))
 |succ d ih =>
  intro j l h E Q hj hl s I J
  obtain⟨id,off,e3,h2,e4,s2⟩:=gD s (i:=j) (b:=98) (by omega) (by decide)
  refine WP.loop (WP.has I (zK 5 rfl (zo rfl (aC rfl rfl rfl (au ak (s.aq (k:=0) rfl (aK _ _)))) (zB rfl aL (decide_eq_true (by omega)) ?_))))
  refine zk 4 rfl (WP.block (zK 3 rfl (zo rfl (bx (r:=.ptr id off) rfl rfl e3) (zS rfl (⟨h2,e4,s2⟩) ?_))))
  rintro h s
  refine zv (zr rfl (zm rfl (zb rfl (by first|exact aO (ay (by omega) (by omega))|rfl) ?_)))
  refine za rfl (zv ?_)
  exact ih (j+1) _ _ _ Q (by rw[bT];omega) (by rw[bT];exact hl) s ⟨rfl,rfl,rfl,rfl,rfl,rfl,rfl,rfl,rfl,rfl,aa⟩ J
noncomputable def kx5 : Code:=cE [1,1,1,1,1,1,0,1,0,0,1,0,0,1,1,1,1,1,1,1,1,1,1,1,1,1,1,1,0,1,0,0] ((Tryz.f3.body).getD .skip)
theorem acL : ∀(d j:Nat) (l:List Nat) (h:H) (E:List (Nat×V)) (Q:Ex→List (Nat×V)→H→Prop),j+d=l.length→l.length≤8192→Sat h (aQ yv l::S) →
  Has E [(0,dv),(3,.ptr a 0),(4,lw),(6,lv),(7,.int .i64 (i0:Int)),(11,.ptr g 0),(18,xv),(19,yv),(22,vz),(26,.int .i64 (j:Int))] →
  (∀l' E' h',Has E' [(0,dv),(3,.ptr a 0),(4,lw),(6,lv),(7,.int .i64 (i0:Int)),(11,.ptr g 0),(18,xv),(19,yv),(22,vz)]→Sat h' (aQ yv l'::S)→Q (.exit 10) E' h')→WP ⟨Tryz.prog,told⟩ 263 (.loop kx5) E h Q:=by
 intro d
 induction d with
 |zero =>
  intro j l h E Q hj hl s I J
  refine WP.loop (WP.has I (zK 5 rfl (zo rfl (aC rfl rfl rfl (au ak (s.aq (k:=0) rfl (aK _ _)))) (zC rfl aL (decide_eq_false (by omega)) ?_))))
  exact zk 2 rfl (WP.exit (J l _ _ ⟨rfl,rfl,rfl,rfl,rfl,rfl,rfl,rfl,rfl,aa⟩ s))
 |succ d ih =>
  intro j l h E Q hj hl s I J
  obtain⟨id,off,e3,h2,e4,s2⟩:=gD s (i:=j) (b:=97) (by omega) (by decide)
  refine WP.loop (WP.has I (zK 5 rfl (zo rfl (aC rfl rfl rfl (au ak (s.aq (k:=0) rfl (aK _ _)))) (zB rfl aL (decide_eq_true (by omega)) ?_))))
  refine zk 4 rfl (WP.block (zK 3 rfl (zo rfl (bx (r:=.ptr id off) rfl rfl e3) (zS rfl (⟨h2,e4,s2⟩) ?_))))
  rintro h s
  refine zv (zr rfl (zm rfl (zb rfl (by first|exact aO (ay (by omega) (by omega))|rfl) ?_)))
  refine za rfl (zv ?_)
  exact ih (j+1) _ _ _ Q (by rw[bT];omega) (by rw[bT];exact hl) s ⟨rfl,rfl,rfl,rfl,rfl,rfl,rfl,rfl,rfl,rfl,aa⟩ J
noncomputable def kx6 : Code:=cE [1,1,1,1,1,1,0,1,0,0,1,0,0,1,1,1,1,1,1,1,1,1,1,1,1,1,1,1,1,0,1,0,0] ((Tryz.f3.body).getD .skip)
theorem acM : ∀(d j:Nat) (l:List Nat) (h:H) (E:List (Nat×V)) (Q:Ex→List (Nat×V)→H→Prop),j+d=l.length→l.length≤8192→Sat h (aQ vz l::S) →
  Has E [(0,dv),(3,.ptr a 0),(4,lw),(6,lv),(7,.int .i64 (i0:Int)),(11,.ptr g 0),(18,xv),(19,yv),(22,vz),(27,.int .i64 (j:Int))] →
  (∀l' E' h',Has E' [(0,dv),(3,.ptr a 0),(4,lw),(6,lv),(7,.int .i64 (i0:Int)),(11,.ptr g 0),(18,xv),(19,yv),(22,vz)]→Sat h' (aQ vz l'::S)→Q (.exit 12) E' h')→WP ⟨Tryz.prog,told⟩ 263 (.loop kx6) E h Q:=by
 intro d
 induction d with
 |zero =>
  intro j l h E Q hj hl s I J
  refine WP.loop (WP.has I (zK 5 rfl (zo rfl (aC rfl rfl rfl (au ak (s.aq (k:=0) rfl (aK _ _)))) (zC rfl aL (decide_eq_false (by omega)) ?_))))
  exact zk 2 rfl (WP.exit (J l _ _ ⟨rfl,rfl,rfl,rfl,rfl,rfl,rfl,rfl,rfl,aa⟩ s))
 |succ d ih =>
  intro j l h E Q hj hl s I J
  obtain⟨id,off,e3,h2,e4,s2⟩:=gD s (i:=j) (b:=96) (by omega) (by decide)
  refine WP.loop (WP.has I (zK 5 rfl (zo rfl (aC rfl rfl rfl (au ak (s.aq (k:=0) rfl (aK _ _)))) (zB rfl aL (decide_eq_true (by omega)) ?_))))
  refine zk 4 rfl (WP.block (zK 3 rfl (zo rfl (bx (r:=.ptr id off) rfl rfl e3) (zS rfl (⟨h2,e4,s2⟩) ?_))))
  rintro h s
  refine zv (zr rfl (zm rfl (zb rfl (by first|exact aO (ay (by omega) (by omega))|rfl) ?_)))
  refine za rfl (zv ?_)
  exact ih (j+1) _ _ _ Q (by rw[bT];omega) (by rw[bT];exact hl) s ⟨rfl,rfl,rfl,rfl,rfl,rfl,rfl,rfl,rfl,rfl,aa⟩ J
end
structure Aj where
 act:Int
 tree:Int
 k:List Nat
 v:List Nat
def ny : List V→List Aj→aI
 |[],[]=>.pu True
 |a::b::c::d::l,D::m=>.an (.an (.pu (a=.int .i64 D.act∧b=.int .i64 D.tree)) (.an (.bK c D.k) (.bK d D.v))) (ny l m)
 |_,_=>.pu False
theorem aJ.ny : ∀(m:List Aj) (l:List V),aJ (Am.ny l m):=by
 intro m
 induction m with
 |nil=>intro l;cases l with
  |nil=>exact aJ.pu _
  |cons a t=>rcases t with _|⟨b,_|⟨c,_|⟨d,t⟩⟩⟩<;>exact aJ.pu _
 |cons D m I =>
  intro l
  rcases l with _|⟨a,_|⟨b,_|⟨c,_|⟨d,l⟩⟩⟩⟩
  ·exact aJ.pu _
  ·exact aJ.pu _
  ·exact aJ.pu _
  ·exact aJ.pu _
  ·exact aJ.an (aJ.an (aJ.pu _) (aJ.an (aJ.bK _ _) (aJ.bK _ _))) (I l)
theorem FC {a b:PM}: ∀ {m:List Aj} {l:List V},(ny l m).p a b→l.length=m.length*4:=by
 intro m
 induction m with
 |nil =>
  intro l h
  rcases l with _|⟨a,_|⟨b,_|⟨c,_|⟨d,l⟩⟩⟩⟩
  ·rfl
  all_goals exact h.elim
 |cons D m I =>
  intro l h
  rcases l with _|⟨a,_|⟨b,_|⟨c,_|⟨d,l⟩⟩⟩⟩
  ·exact h.elim
  ·exact h.elim
  ·exact h.elim
  ·exact h.elim
  ·have:=I h.2
   simp only[aZ]
   omega
theorem L8 {a b:PM}: ∀ {m:List Aj} {l:List V} {i:Nat} {D:Aj},(ny l m).p a b→m[i]?=some D→∃kv vv,(l.drop (i*4)).take 4=[.int .i64 D.act,.int .i64 D.tree,kv,vv]∧(aI.bK kv D.k).p a b∧(aI.bK vv D.v).p a b:=by
 intro m
 induction m with
 |nil=>intro l i D h hi;simp at hi
 |cons D' m I =>
  intro l i D h hi
  rcases l with _|⟨x,_|⟨y,_|⟨c,_|⟨d,l⟩⟩⟩⟩
  ·exact h.elim
  ·exact h.elim
  ·exact h.elim
  ·exact h.elim
  ·cases i with
   |zero =>
    simp only[iW,aD] at hi
    subst hi
    obtain⟨⟨⟨rfl,rfl⟩,J,h3⟩,_⟩:=h
    exact⟨c,d,rfl,J,h3⟩
   |succ i =>
    obtain⟨kv,vv,e,k⟩:=I h.2 (by simpa using hi)
    refine⟨kv,vv,?_,k⟩
    rw[show(i+1)*4=4+i*4 by omega,←sK]
    exact e
theorem Z2 {cs:List V}{L:List Aj}{D:Aj}(s:Sat h (ny cs L::S))(hi:L[i]?=some D): ∃kv vv,(cs.drop (i*4)).take 4=[.int .i64 D.act,.int .i64 D.tree,kv,vv]∧Sat h (.bK kv D.k::.bK vv D.v::ny cs L::S):=by
 obtain⟨m,r,_,_,J⟩:=s.at (k:=0) rfl
 obtain⟨kv,vv,e,_⟩:=L8 J hi
 refine⟨kv,vv,e,?_⟩
 have key:∀m r,(ny cs L).p m r→(aI.bK kv D.k).p m r∧(aI.bK vv D.v).p m r:=fun m r hm=>by
  obtain⟨kv',vv',I,k⟩:=L8 hm hi
  rw[e] at I
  injection I with _ I
  injection I with _ I
  injection I with e1 I
  injection I with e2 _
  rw[e1,e2]
  exact k
 have s1:=(s.dup (aJ.ny _ _)).dG (B:=.bK vv D.v) fun m r hm=>(key m r hm).2
 have s2:=((s1.ae [1]).dup (aJ.ny _ _)).dG (B:=.bK kv D.k) fun m r hm=>(key m r hm).1
 exact s2.ae [0,1,0]
theorem TY {v:Ky}(h:d∈ke es k v): d∈es∨d=(k,v):=by
 unfold ke at h
 rcases List.mem_append.1 h with h|h
 ·exact .inl (List.mem_filter.1 h).1
 ·rcases List.mem_cons.1 h with h|h
  ·exact .inr h
  ·exact .inl (List.mem_filter.1 h).1
theorem L9 {l:Ky}(h:jH lo hi es)(I:fb es k=some l): l.length≤128:=by
 unfold fb at I
 obtain⟨e,he,rfl⟩:=Option.map_eq_some_iff.1 I
 exact(h.sz e (KE he)).2.2
theorem TZ {v:V}{o:Option (List Nat)}(ho:∀l,o=some l→l.length≤8192)(s:Sat h (Cp v o::S)): ∃l,l.length≤8192∧Sat h (aQ v l::S):=by
 cases o with
 |none =>
  obtain⟨rfl,s1⟩:=pT.1 s
  exact⟨[],eN _,s1.rA⟩
 |some l=>exact⟨l,ho l rfl,s⟩
theorem L_ {P:Program}{e:TypeId}{v:V}{l:List Nat}(hv:View h v l)(hu:P.underlying t=some (.slice e)): ∀h',lenV P h' t v=some (.int .i64 (l.length:Int)):=by
 intro h'
 rcases hv.2 with⟨rfl|⟨a,rfl⟩,rfl⟩|⟨id,off,cap,n,cs,st,rfl,_⟩
 ·exact AW hu
 ·simp only[lenV,hu];rfl
 ·exact vU hu
section
variable {told:cy} {p root:Nat} {cs:List V} {L:List Aj}
noncomputable def ktO : Code:=cE [1,1,1,1,1,1,0,1,0,0] ((Tryz.f3.body).getD .skip)
theorem acN (hT:WT told)(hL:L.length≤200): ∀(d i:Nat) (lv:V) (es:List En) (ε:bw) (h:H) (E:List (Nat×V)) (Q:Ex→List (Nat×V)→H→Prop),i+d=L.length→EI 1024 (5+2*i) ε→oz 1024 root R [] (pgA ε) es→(∀d∈es,∀x∈d.1,x<256)→es.length≤i →
  Sat h (.arr 2 lv (cD es)::SA a p q r .cU [] 0 ε::.arr 1 lw (cf [root])::nm 4 dv cs::ny cs L::S)→Has E [(0,dv),(3,.ptr a 0),(4,lw),(6,lv),(7,.int .i64 (i:Int))] →
  (∀E' h',look E' 2=some (.bool true)→Q .ret E' h') →
  (∀lv es ε E' h',EI 1024 (5+2*L.length) ε→oz 1024 root R [] (pgA ε) es→(∀d∈es,∀x∈d.1,x<256)→es.length≤200→Sat h' (.arr 2 lv (cD es)::SA a p q r .cU [] 0 ε::.arr 1 lw (cf [root])::nm 4 dv cs::ny cs L::S)→Has E' [(3,.ptr a 0),(4,lw),(6,lv)]→Q (.exit 0) E' h') →
  WP ⟨Tryz.prog,told⟩ 263 (.loop ktO) E h Q:=by
 have hW:=hT.w
 intro d
 induction d with
 |zero =>
  intro i lv es ε h E Q hi dL ht hb Bz s hE FD hq
  obtain rfl:i=L.length:=hi
  have ff:cs.length=L.length*4:=by
   obtain⟨m,r,_,_,h3⟩:=s.at (k:=4) rfl
   exact FC h3
  refine WP.loop (WP.has hE (zK 5 rfl (zo rfl (aC rfl rfl rfl (s.IP (n:=L.length) (j:=3) rfl ff (by decide) Af)) ?_)))
  refine zC rfl aL (by simp) ?_
  exact zk 2 rfl (WP.exit (hq lv es ε _ _ dL ht hb (by omega) s ⟨rfl,rfl,rfl,aa⟩))
 |succ d ih =>
  intro i lv es ε h E Q hi dL ht hb Bz s hE FD hq
  obtain⟨D,hD⟩:∃D,L[i]?=some D:=⟨_,aG (by omega)⟩
  have ff:cs.length=L.length*4:=by
   obtain⟨m,r,_,_,h3⟩:=s.at (k:=4) rfl
   exact FC h3
  have QZ:=s.IP (P:=Tryz.prog) (n:=L.length) (j:=3) rfl ff (by decide) Af
  obtain⟨id,off,e1,e2⟩:=s.aaW (P:=Tryz.prog) (i:=i) (j:=3) rfl (by omega) (by decide) Af Yh abG
  obtain⟨kv,vv,LM,s⟩:=Z2 (s.ae [4]) hD
  rw[LM] at e2
  have tU:=(s.aq (k:=0) rfl (aY _ _)).cells
  have U7:=(s.aq (k:=1) rfl (aY _ _)).cells
  have wC:=jZ (s.aq (k:=0) rfl (aY _ _))
  have xS:=jZ (s.aq (k:=1) rfl (aY _ _))
  have wk:=L_ (P:=Tryz.prog) (s.aq (k:=0) rfl (aY _ _)) ak
  have xT:=L_ (P:=Tryz.prog) (s.aq (k:=1) rfl (aY _ _)) ak
  have hKb:=(s.aq (k:=0) rfl (aY _ _)).1
  have lq:[V.int .i64 D.act,.int .i64 D.tree,kv,vv].all storable=true:=by simp only[kI,lM,tU.2,U7.2];rfl
  have s:=s.ae [0,0,1,1,1,1,0]
  dsimp only[aT,bringA,getA] at s
  refine WP.loop (WP.has hE (zK 5 rfl (zo rfl (aC rfl rfl rfl QZ) (zB rfl aL (by simp;omega) ?_))))
  refine zk 4 rfl (WP.block (zK 4 rfl (zo rfl (bx (r:=.ptr id off) rfl rfl e1) (zl rfl e2 ?_))))
  refine aA.cB s rfl rfl rfl (cF abH) (fun p8 h s => ?_)
  dsimp only[V.cells,List.length_cons,List.length_nil,Nat.reduceAdd] at s
  refine zS rfl (s.iK (j:=0) rfl Yh rfl lq) ?_
  intro h s
  dsimp only[setA] at s
  have AR:Sat h (.arr 2 lv (cD es)::SA a p q r .cU [] 0 ε::.arr 1 lw (cf [root])::nm 4 dv cs::ny cs L::S):=s.drop.drop.drop
  refine zk 4 rfl (zf rfl (ob _ _) (zl rfl (by first|exact s.ld (k:=0) rfl ah rfl|exact s.ld (k:=1) rfl ah rfl|exact s.ld (k:=2) rfl ah rfl|exact s.ld (k:=3) rfl ah rfl|exact s.ld (k:=4) rfl ah rfl|exact s.ld (k:=5) rfl ah rfl|exact s.ld (k:=6) rfl ah rfl|exact s.ld (k:=7) rfl ah rfl|exact s.bW (k:=0) rfl ah rfl|exact s.bW (k:=1) rfl ah rfl|exact s.bW (k:=2) rfl ah rfl|exact s.bW (k:=3) rfl ah rfl) ?_))
  refine zo rfl (aC rfl rfl rfl (by first|exact mP rfl ak|exact B1 rfl ak|exact au ak (s.aq (k:=0) rfl (aK _ _))|exact au ak (s.aq (k:=0) rfl (aY _ _))|exact au ak (s.aq (k:=0) rfl (eV _ _))|exact au ak (s.aq (k:=1) rfl (aK _ _))|exact au ak (s.aq (k:=1) rfl (aY _ _))|exact au ak (s.aq (k:=1) rfl (eV _ _))|exact au ak (s.aq (k:=2) rfl (aK _ _))|exact au ak (s.aq (k:=2) rfl (aY _ _))|exact au ak (s.aq (k:=2) rfl (eV _ _))|exact au ak (s.aq (k:=3) rfl (aK _ _))|exact au ak (s.aq (k:=3) rfl (aY _ _))|exact au ak (s.aq (k:=3) rfl (eV _ _))|exact au ak (s.aq (k:=4) rfl (aK _ _))|exact au ak (s.aq (k:=4) rfl (aY _ _))|exact au ak (s.aq (k:=4) rfl (eV _ _))|exact au ak (s.aq (k:=5) rfl (aK _ _))|exact au ak (s.aq (k:=5) rfl (aY _ _))|exact au ak (s.aq (k:=5) rfl (eV _ _))|exact au ak (s.aq (k:=6) rfl (aK _ _))|exact au ak (s.aq (k:=6) rfl (aY _ _))|exact au ak (s.aq (k:=6) rfl (eV _ _))|exact au ak (s.aq (k:=7) rfl (aK _ _))|exact au ak (s.aq (k:=7) rfl (aY _ _))|exact au ak (s.aq (k:=7) rfl (eV _ _))|exact au ak (s.aq (k:=0) rfl J)|exact au ak (s.aq (k:=1) rfl J)|exact au ak (s.aq (k:=2) rfl J)|exact au ak (s.aq (k:=3) rfl J)|exact au ak (s.aq (k:=4) rfl J)|exact au ak (s.aq (k:=5) rfl J)|exact au ak (s.aq (k:=6) rfl J)|exact au ak (s.aq (k:=7) rfl J)|exact au ak (s.aq (k:=8) rfl J)|exact au ak (s.aq (k:=9) rfl J)|exact au ak (s.aq (k:=10) rfl J)|exact au ak (s.aq (k:=11) rfl J))) ?_
  by_cases lR:D.k.length<1
  ·skip
   refine zB rfl aL (decide_eq_true (by omega)) ?_
   refine zk 14 rfl (WP.exit (zK 2 rfl (zb rfl (by first|exact aO (ay (by omega) (by omega))|rfl) ?_)))
   refine za rfl (zv ?_)
   exact ih (i+1) lv es ε _ _ Q (by omega) (dL.more (by omega)) ht hb (by omega) AR ⟨rfl,rfl,rfl,rfl,rfl,aa⟩ FD hq
  refine zC rfl aL (decide_eq_false (by omega)) ?_
  refine zm rfl (zf rfl (ob _ _) (zl rfl (by first|exact s.ld (k:=0) rfl ah rfl|exact s.ld (k:=1) rfl ah rfl|exact s.ld (k:=2) rfl ah rfl|exact s.ld (k:=3) rfl ah rfl|exact s.ld (k:=4) rfl ah rfl|exact s.ld (k:=5) rfl ah rfl|exact s.ld (k:=6) rfl ah rfl|exact s.ld (k:=7) rfl ah rfl|exact s.bW (k:=0) rfl ah rfl|exact s.bW (k:=1) rfl ah rfl|exact s.bW (k:=2) rfl ah rfl|exact s.bW (k:=3) rfl ah rfl) ?_))
  refine zo rfl (aC rfl rfl rfl (by first|exact mP rfl ak|exact B1 rfl ak|exact au ak (s.aq (k:=0) rfl (aK _ _))|exact au ak (s.aq (k:=0) rfl (aY _ _))|exact au ak (s.aq (k:=0) rfl (eV _ _))|exact au ak (s.aq (k:=1) rfl (aK _ _))|exact au ak (s.aq (k:=1) rfl (aY _ _))|exact au ak (s.aq (k:=1) rfl (eV _ _))|exact au ak (s.aq (k:=2) rfl (aK _ _))|exact au ak (s.aq (k:=2) rfl (aY _ _))|exact au ak (s.aq (k:=2) rfl (eV _ _))|exact au ak (s.aq (k:=3) rfl (aK _ _))|exact au ak (s.aq (k:=3) rfl (aY _ _))|exact au ak (s.aq (k:=3) rfl (eV _ _))|exact au ak (s.aq (k:=4) rfl (aK _ _))|exact au ak (s.aq (k:=4) rfl (aY _ _))|exact au ak (s.aq (k:=4) rfl (eV _ _))|exact au ak (s.aq (k:=5) rfl (aK _ _))|exact au ak (s.aq (k:=5) rfl (aY _ _))|exact au ak (s.aq (k:=5) rfl (eV _ _))|exact au ak (s.aq (k:=6) rfl (aK _ _))|exact au ak (s.aq (k:=6) rfl (aY _ _))|exact au ak (s.aq (k:=6) rfl (eV _ _))|exact au ak (s.aq (k:=7) rfl (aK _ _))|exact au ak (s.aq (k:=7) rfl (aY _ _))|exact au ak (s.aq (k:=7) rfl (eV _ _))|exact au ak (s.aq (k:=0) rfl J)|exact au ak (s.aq (k:=1) rfl J)|exact au ak (s.aq (k:=2) rfl J)|exact au ak (s.aq (k:=3) rfl J)|exact au ak (s.aq (k:=4) rfl J)|exact au ak (s.aq (k:=5) rfl J)|exact au ak (s.aq (k:=6) rfl J)|exact au ak (s.aq (k:=7) rfl J)|exact au ak (s.aq (k:=8) rfl J)|exact au ak (s.aq (k:=9) rfl J)|exact au ak (s.aq (k:=10) rfl J)|exact au ak (s.aq (k:=11) rfl J))) ?_
  by_cases j8:D.k.length>96
  ·skip
   refine zB rfl cL (decide_eq_true (by omega)) ?_
   refine zk 9 rfl (WP.exit (zK 2 rfl (zb rfl (by first|exact aO (ay (by omega) (by omega))|rfl) ?_)))
   refine za rfl (zv ?_)
   exact ih (i+1) lv es ε _ _ Q (by omega) (dL.more (by omega)) ht hb (by omega) AR ⟨rfl,rfl,rfl,rfl,rfl,aa⟩ FD hq
  refine zC rfl cL (decide_eq_false (by omega)) ?_
  refine zk 2 rfl (zf rfl (tE _ _) (zl rfl (by first|exact s.ld (k:=0) rfl ah rfl|exact s.ld (k:=1) rfl ah rfl|exact s.ld (k:=2) rfl ah rfl|exact s.ld (k:=3) rfl ah rfl|exact s.ld (k:=4) rfl ah rfl|exact s.ld (k:=5) rfl ah rfl|exact s.ld (k:=6) rfl ah rfl|exact s.ld (k:=7) rfl ah rfl|exact s.bW (k:=0) rfl ah rfl|exact s.bW (k:=1) rfl ah rfl|exact s.bW (k:=2) rfl ah rfl|exact s.bW (k:=3) rfl ah rfl) ?_))
  refine zo rfl (aC rfl rfl rfl (by first|exact mP rfl ak|exact B1 rfl ak|exact au ak (s.aq (k:=0) rfl (aK _ _))|exact au ak (s.aq (k:=0) rfl (aY _ _))|exact au ak (s.aq (k:=0) rfl (eV _ _))|exact au ak (s.aq (k:=1) rfl (aK _ _))|exact au ak (s.aq (k:=1) rfl (aY _ _))|exact au ak (s.aq (k:=1) rfl (eV _ _))|exact au ak (s.aq (k:=2) rfl (aK _ _))|exact au ak (s.aq (k:=2) rfl (aY _ _))|exact au ak (s.aq (k:=2) rfl (eV _ _))|exact au ak (s.aq (k:=3) rfl (aK _ _))|exact au ak (s.aq (k:=3) rfl (aY _ _))|exact au ak (s.aq (k:=3) rfl (eV _ _))|exact au ak (s.aq (k:=4) rfl (aK _ _))|exact au ak (s.aq (k:=4) rfl (aY _ _))|exact au ak (s.aq (k:=4) rfl (eV _ _))|exact au ak (s.aq (k:=5) rfl (aK _ _))|exact au ak (s.aq (k:=5) rfl (aY _ _))|exact au ak (s.aq (k:=5) rfl (eV _ _))|exact au ak (s.aq (k:=6) rfl (aK _ _))|exact au ak (s.aq (k:=6) rfl (aY _ _))|exact au ak (s.aq (k:=6) rfl (eV _ _))|exact au ak (s.aq (k:=7) rfl (aK _ _))|exact au ak (s.aq (k:=7) rfl (aY _ _))|exact au ak (s.aq (k:=7) rfl (eV _ _))|exact au ak (s.aq (k:=0) rfl J)|exact au ak (s.aq (k:=1) rfl J)|exact au ak (s.aq (k:=2) rfl J)|exact au ak (s.aq (k:=3) rfl J)|exact au ak (s.aq (k:=4) rfl J)|exact au ak (s.aq (k:=5) rfl J)|exact au ak (s.aq (k:=6) rfl J)|exact au ak (s.aq (k:=7) rfl J)|exact au ak (s.aq (k:=8) rfl J)|exact au ak (s.aq (k:=9) rfl J)|exact au ak (s.aq (k:=10) rfl J)|exact au ak (s.aq (k:=11) rfl J))) ?_
  by_cases Ll:D.v.length>128
  ·skip
   refine zB rfl cL (decide_eq_true (by omega)) ?_
   refine zk 3 rfl (WP.exit (zK 2 rfl (zb rfl (by first|exact aO (ay (by omega) (by omega))|rfl) ?_)))
   refine za rfl (zv ?_)
   exact ih (i+1) lv es ε _ _ Q (by omega) (dL.more (by omega)) ht hb (by omega) AR ⟨rfl,rfl,rfl,rfl,rfl,aa⟩ FD hq
  refine zC rfl cL (decide_eq_false (by omega)) ?_
  refine zk 5 rfl ?_
  have I:=s
  refine WP.HT [none,some (0,2),some (0,2),af,af,af,some (0,5),some (0,5),some (0,5),none,none] rfl (by kernel_rfl) (by kernel_rfl) ?_
  obtain⟨h1,e3,s1⟩:=Bc (P:=Tryz.prog) s ak Us K3 rfl (by decide)
  refine aE.any rfl rfl rfl rfl (OpR.of (R:=fun v h'=>v=.sl h.next 0 0 (.exact 0)∧h'=h1) (gI rfl e3) ⟨rfl,rfl⟩) ?_
  rintro v h' ⟨rfl,rfl⟩
  have s:=(Lx s1).ae [0,1]
  dsimp only[bringA,getA,aT] at s
  have s1:=s
  refine zF rfl (ob _ _) (zL rfl (by first|exact s.ld (k:=0) rfl ah rfl|exact s.ld (k:=1) rfl ah rfl|exact s.ld (k:=2) rfl ah rfl|exact s.ld (k:=3) rfl ah rfl|exact s.ld (k:=4) rfl ah rfl|exact s.ld (k:=5) rfl ah rfl|exact s.ld (k:=6) rfl ah rfl|exact s.ld (k:=7) rfl ah rfl|exact s.bW (k:=0) rfl ah rfl|exact s.bW (k:=1) rfl ah rfl|exact s.bW (k:=2) rfl ah rfl|exact s.bW (k:=3) rfl ah rfl) ?_)
  refine aE.any rfl rfl rfl rfl (OpR.lX rfl s (aY _ _) rfl rfl rfl rfl (by rw[bI];omega)) ?_
  intro u0 h s
  rw[cO] at s
  have s2:=s
  refine aE.any rfl rfl rfl rfl (OpR.A8 (n:=201) rfl s rfl rfl rfl (by decide)) ?_
  intro w0 h s
  have s3:=s
  refine aE.any rfl rfl rfl rfl (OpR.lX rfl (s.ae [1,0]) (aK _ _) rfl rfl rfl rfl (by rw[aZ,bI];omega)) ?_
  intro kb h s
  have s:=s.del 1
  dsimp only[aT,bringA] at s
  have s4:=s
  refine zF rfl (ob _ _) (zL rfl (by first|exact s.ld (k:=0) rfl ah rfl|exact s.ld (k:=1) rfl ah rfl|exact s.ld (k:=2) rfl ah rfl|exact s.ld (k:=3) rfl ah rfl|exact s.ld (k:=4) rfl ah rfl|exact s.ld (k:=5) rfl ah rfl|exact s.ld (k:=6) rfl ah rfl|exact s.ld (k:=7) rfl ah rfl|exact s.bW (k:=0) rfl ah rfl|exact s.bW (k:=1) rfl ah rfl|exact s.bW (k:=2) rfl ah rfl|exact s.bW (k:=3) rfl ah rfl) ?_)
  refine zO rfl (aC rfl rfl rfl (wk _)) (zO rfl (bS (p:=none) (q:=some (.int .i64 (D.k.length:Int))) (m:=none) (p':=none) (q':=some D.k.length) (m':=none) rfl rfl rfl rfl rfl (by rw[b9 (by omega),dm]) rfl (BZ (s.buf (k:=0) rfl).view (b:=D.k.length) (by rw[aX];omega)).1) ?_)
  refine zA rfl ?_
  refine aE.nil ⟨⟨⟨aa,fun _ _=>.inr ⟨rfl,⟨_,lU rfl (ob _ _)⟩,bj _ rfl⟩,ga (.inr ⟨rfl,⟨_,o_load rfl (by first|exact I.ld (k:=0) rfl ah rfl|exact I.ld (k:=1) rfl ah rfl|exact I.ld (k:=2) rfl ah rfl|exact I.ld (k:=3) rfl ah rfl|exact I.ld (k:=4) rfl ah rfl|exact I.ld (k:=5) rfl ah rfl|exact I.ld (k:=6) rfl ah rfl|exact I.ld (k:=7) rfl ah rfl|exact I.bW (k:=0) rfl ah rfl|exact I.bW (k:=1) rfl ah rfl|exact I.bW (k:=2) rfl ah rfl|exact I.bW (k:=3) rfl ah rfl)⟩,wC⟩) (.inr ⟨rfl,⟨_,o_load rfl (by first|exact s1.ld (k:=0) rfl ah rfl|exact s1.ld (k:=1) rfl ah rfl|exact s1.ld (k:=2) rfl ah rfl|exact s1.ld (k:=3) rfl ah rfl|exact s1.ld (k:=4) rfl ah rfl|exact s1.ld (k:=5) rfl ah rfl|exact s1.ld (k:=6) rfl ah rfl|exact s1.ld (k:=7) rfl ah rfl|exact s1.bW (k:=0) rfl ah rfl|exact s1.bW (k:=1) rfl ah rfl|exact s1.bW (k:=2) rfl ah rfl|exact s1.bW (k:=3) rfl ah rfl)⟩,wC⟩),aa,aa,aa,fun _ _=>.inr ⟨rfl,⟨_,lU rfl (ob _ _)⟩,bj _ rfl⟩,C8 (.inr ⟨rfl,⟨_,o_load rfl (by first|exact I.ld (k:=0) rfl ah rfl|exact I.ld (k:=1) rfl ah rfl|exact I.ld (k:=2) rfl ah rfl|exact I.ld (k:=3) rfl ah rfl|exact I.ld (k:=4) rfl ah rfl|exact I.ld (k:=5) rfl ah rfl|exact I.ld (k:=6) rfl ah rfl|exact I.ld (k:=7) rfl ah rfl|exact I.bW (k:=0) rfl ah rfl|exact I.bW (k:=1) rfl ah rfl|exact I.bW (k:=2) rfl ah rfl|exact I.bW (k:=3) rfl ah rfl)⟩,wC⟩) (.inr ⟨rfl,⟨_,o_load rfl (by first|exact s1.ld (k:=0) rfl ah rfl|exact s1.ld (k:=1) rfl ah rfl|exact s1.ld (k:=2) rfl ah rfl|exact s1.ld (k:=3) rfl ah rfl|exact s1.ld (k:=4) rfl ah rfl|exact s1.ld (k:=5) rfl ah rfl|exact s1.ld (k:=6) rfl ah rfl|exact s1.ld (k:=7) rfl ah rfl|exact s1.bW (k:=0) rfl ah rfl|exact s1.bW (k:=1) rfl ah rfl|exact s1.bW (k:=2) rfl ah rfl|exact s1.bW (k:=3) rfl ah rfl)⟩,wC⟩) (.inr ⟨rfl,⟨_,o_load rfl (by first|exact s2.ld (k:=0) rfl ah rfl|exact s2.ld (k:=1) rfl ah rfl|exact s2.ld (k:=2) rfl ah rfl|exact s2.ld (k:=3) rfl ah rfl|exact s2.ld (k:=4) rfl ah rfl|exact s2.ld (k:=5) rfl ah rfl|exact s2.ld (k:=6) rfl ah rfl|exact s2.ld (k:=7) rfl ah rfl|exact s2.bW (k:=0) rfl ah rfl|exact s2.bW (k:=1) rfl ah rfl|exact s2.bW (k:=2) rfl ah rfl|exact s2.bW (k:=3) rfl ah rfl)⟩,wC⟩) (.inr ⟨rfl,⟨_,o_load rfl (by first|exact s3.ld (k:=0) rfl ah rfl|exact s3.ld (k:=1) rfl ah rfl|exact s3.ld (k:=2) rfl ah rfl|exact s3.ld (k:=3) rfl ah rfl|exact s3.ld (k:=4) rfl ah rfl|exact s3.ld (k:=5) rfl ah rfl|exact s3.ld (k:=6) rfl ah rfl|exact s3.ld (k:=7) rfl ah rfl|exact s3.bW (k:=0) rfl ah rfl|exact s3.bW (k:=1) rfl ah rfl|exact s3.bW (k:=2) rfl ah rfl|exact s3.bW (k:=3) rfl ah rfl)⟩,wC⟩) (.inr ⟨rfl,⟨_,o_load rfl (by first|exact s4.ld (k:=0) rfl ah rfl|exact s4.ld (k:=1) rfl ah rfl|exact s4.ld (k:=2) rfl ah rfl|exact s4.ld (k:=3) rfl ah rfl|exact s4.ld (k:=4) rfl ah rfl|exact s4.ld (k:=5) rfl ah rfl|exact s4.ld (k:=6) rfl ah rfl|exact s4.ld (k:=7) rfl ah rfl|exact s4.bW (k:=0) rfl ah rfl|exact s4.bW (k:=1) rfl ah rfl|exact s4.bW (k:=2) rfl ah rfl|exact s4.bW (k:=3) rfl ah rfl)⟩,wC⟩),C8 (.inr ⟨rfl,⟨_,aC rfl rfl rfl (wk _)⟩,bj _ rfl⟩) (.inr ⟨rfl,⟨_,aC rfl rfl rfl (wk _)⟩,bj _ rfl⟩) (.inr ⟨rfl,⟨_,aC rfl rfl rfl (wk _)⟩,bj _ rfl⟩) (.inr ⟨rfl,⟨_,aC rfl rfl rfl (wk _)⟩,bj _ rfl⟩) (.inr ⟨rfl,⟨_,aC rfl rfl rfl (wk _)⟩,bj _ rfl⟩),aa,aa,aa⟩,.inr rfl,.inl rfl,.inl rfl,.inl rfl,.inr rfl,.inl rfl,.inl rfl,.inl rfl,.inl rfl,.inl rfl,.inl rfl,aa⟩,?_⟩
  refine zw ?_
  have s:=s.ae [2,0,0]
  dsimp only[bringA,getA,aT] at s
  have I:=s
  refine WP.HT [none,some (0,2),some (0,2),af,af,af,some (0,5),some (0,5),some (0,5),none,none] rfl (by kernel_rfl) (by kernel_rfl) ?_
  obtain⟨h1,e3,s1⟩:=Bc (P:=Tryz.prog) s ak Us K3 rfl (by decide)
  refine aE.any rfl rfl rfl rfl (OpR.of (R:=fun v h'=>v=.sl h.next 0 0 (.exact 0)∧h'=h1) (gI rfl e3) ⟨rfl,rfl⟩) ?_
  rintro v h' ⟨rfl,rfl⟩
  have s:=(Lx s1).ae [0,3]
  dsimp only[bringA,getA,aT] at s
  have s1:=s
  refine zF rfl (tE _ _) (zL rfl (by first|exact s.ld (k:=0) rfl ah rfl|exact s.ld (k:=1) rfl ah rfl|exact s.ld (k:=2) rfl ah rfl|exact s.ld (k:=3) rfl ah rfl|exact s.ld (k:=4) rfl ah rfl|exact s.ld (k:=5) rfl ah rfl|exact s.ld (k:=6) rfl ah rfl|exact s.ld (k:=7) rfl ah rfl|exact s.bW (k:=0) rfl ah rfl|exact s.bW (k:=1) rfl ah rfl|exact s.bW (k:=2) rfl ah rfl|exact s.bW (k:=3) rfl ah rfl) ?_)
  refine aE.any rfl rfl rfl rfl (OpR.lX rfl s (aY _ _) rfl rfl rfl rfl (by rw[bI];omega)) ?_
  intro u0 h s
  rw[cO] at s
  have s2:=s
  refine aE.any rfl rfl rfl rfl (OpR.A8 (n:=202) rfl s rfl rfl rfl (by decide)) ?_
  intro w0 h s
  have s3:=s
  refine aE.any rfl rfl rfl rfl (OpR.lX rfl (s.ae [1,0]) (aK _ _) rfl rfl rfl rfl (by rw[aZ,bI];omega)) ?_
  intro vb h s
  have s:=s.del 1
  dsimp only[aT,bringA] at s
  have s4:=s
  refine zF rfl (tE _ _) (zL rfl (by first|exact s.ld (k:=0) rfl ah rfl|exact s.ld (k:=1) rfl ah rfl|exact s.ld (k:=2) rfl ah rfl|exact s.ld (k:=3) rfl ah rfl|exact s.ld (k:=4) rfl ah rfl|exact s.ld (k:=5) rfl ah rfl|exact s.ld (k:=6) rfl ah rfl|exact s.ld (k:=7) rfl ah rfl|exact s.bW (k:=0) rfl ah rfl|exact s.bW (k:=1) rfl ah rfl|exact s.bW (k:=2) rfl ah rfl|exact s.bW (k:=3) rfl ah rfl) ?_)
  refine zO rfl (aC rfl rfl rfl (xT _)) (zO rfl (bS (p:=none) (q:=some (.int .i64 (D.v.length:Int))) (m:=none) (p':=none) (q':=some D.v.length) (m':=none) rfl rfl rfl rfl rfl (by rw[b9 (by omega),dm]) rfl (BZ (s.buf (k:=0) rfl).view (b:=D.v.length) (by rw[aX];omega)).1) ?_)
  refine zA rfl ?_
  refine aE.nil ⟨⟨⟨aa,fun _ _=>.inr ⟨rfl,⟨_,lU rfl (tE _ _)⟩,bj _ rfl⟩,ga (.inr ⟨rfl,⟨_,o_load rfl (by first|exact I.ld (k:=0) rfl ah rfl|exact I.ld (k:=1) rfl ah rfl|exact I.ld (k:=2) rfl ah rfl|exact I.ld (k:=3) rfl ah rfl|exact I.ld (k:=4) rfl ah rfl|exact I.ld (k:=5) rfl ah rfl|exact I.ld (k:=6) rfl ah rfl|exact I.ld (k:=7) rfl ah rfl|exact I.bW (k:=0) rfl ah rfl|exact I.bW (k:=1) rfl ah rfl|exact I.bW (k:=2) rfl ah rfl|exact I.bW (k:=3) rfl ah rfl)⟩,xS⟩) (.inr ⟨rfl,⟨_,o_load rfl (by first|exact s1.ld (k:=0) rfl ah rfl|exact s1.ld (k:=1) rfl ah rfl|exact s1.ld (k:=2) rfl ah rfl|exact s1.ld (k:=3) rfl ah rfl|exact s1.ld (k:=4) rfl ah rfl|exact s1.ld (k:=5) rfl ah rfl|exact s1.ld (k:=6) rfl ah rfl|exact s1.ld (k:=7) rfl ah rfl|exact s1.bW (k:=0) rfl ah rfl|exact s1.bW (k:=1) rfl ah rfl|exact s1.bW (k:=2) rfl ah rfl|exact s1.bW (k:=3) rfl ah rfl)⟩,xS⟩),aa,aa,aa,fun _ _=>.inr ⟨rfl,⟨_,lU rfl (tE _ _)⟩,bj _ rfl⟩,C8 (.inr ⟨rfl,⟨_,o_load rfl (by first|exact I.ld (k:=0) rfl ah rfl|exact I.ld (k:=1) rfl ah rfl|exact I.ld (k:=2) rfl ah rfl|exact I.ld (k:=3) rfl ah rfl|exact I.ld (k:=4) rfl ah rfl|exact I.ld (k:=5) rfl ah rfl|exact I.ld (k:=6) rfl ah rfl|exact I.ld (k:=7) rfl ah rfl|exact I.bW (k:=0) rfl ah rfl|exact I.bW (k:=1) rfl ah rfl|exact I.bW (k:=2) rfl ah rfl|exact I.bW (k:=3) rfl ah rfl)⟩,xS⟩) (.inr ⟨rfl,⟨_,o_load rfl (by first|exact s1.ld (k:=0) rfl ah rfl|exact s1.ld (k:=1) rfl ah rfl|exact s1.ld (k:=2) rfl ah rfl|exact s1.ld (k:=3) rfl ah rfl|exact s1.ld (k:=4) rfl ah rfl|exact s1.ld (k:=5) rfl ah rfl|exact s1.ld (k:=6) rfl ah rfl|exact s1.ld (k:=7) rfl ah rfl|exact s1.bW (k:=0) rfl ah rfl|exact s1.bW (k:=1) rfl ah rfl|exact s1.bW (k:=2) rfl ah rfl|exact s1.bW (k:=3) rfl ah rfl)⟩,xS⟩) (.inr ⟨rfl,⟨_,o_load rfl (by first|exact s2.ld (k:=0) rfl ah rfl|exact s2.ld (k:=1) rfl ah rfl|exact s2.ld (k:=2) rfl ah rfl|exact s2.ld (k:=3) rfl ah rfl|exact s2.ld (k:=4) rfl ah rfl|exact s2.ld (k:=5) rfl ah rfl|exact s2.ld (k:=6) rfl ah rfl|exact s2.ld (k:=7) rfl ah rfl|exact s2.bW (k:=0) rfl ah rfl|exact s2.bW (k:=1) rfl ah rfl|exact s2.bW (k:=2) rfl ah rfl|exact s2.bW (k:=3) rfl ah rfl)⟩,xS⟩) (.inr ⟨rfl,⟨_,o_load rfl (by first|exact s3.ld (k:=0) rfl ah rfl|exact s3.ld (k:=1) rfl ah rfl|exact s3.ld (k:=2) rfl ah rfl|exact s3.ld (k:=3) rfl ah rfl|exact s3.ld (k:=4) rfl ah rfl|exact s3.ld (k:=5) rfl ah rfl|exact s3.ld (k:=6) rfl ah rfl|exact s3.ld (k:=7) rfl ah rfl|exact s3.bW (k:=0) rfl ah rfl|exact s3.bW (k:=1) rfl ah rfl|exact s3.bW (k:=2) rfl ah rfl|exact s3.bW (k:=3) rfl ah rfl)⟩,xS⟩) (.inr ⟨rfl,⟨_,o_load rfl (by first|exact s4.ld (k:=0) rfl ah rfl|exact s4.ld (k:=1) rfl ah rfl|exact s4.ld (k:=2) rfl ah rfl|exact s4.ld (k:=3) rfl ah rfl|exact s4.ld (k:=4) rfl ah rfl|exact s4.ld (k:=5) rfl ah rfl|exact s4.ld (k:=6) rfl ah rfl|exact s4.ld (k:=7) rfl ah rfl|exact s4.bW (k:=0) rfl ah rfl|exact s4.bW (k:=1) rfl ah rfl|exact s4.bW (k:=2) rfl ah rfl|exact s4.bW (k:=3) rfl ah rfl)⟩,xS⟩),C8 (.inr ⟨rfl,⟨_,aC rfl rfl rfl (xT _)⟩,bj _ rfl⟩) (.inr ⟨rfl,⟨_,aC rfl rfl rfl (xT _)⟩,bj _ rfl⟩) (.inr ⟨rfl,⟨_,aC rfl rfl rfl (xT _)⟩,bj _ rfl⟩) (.inr ⟨rfl,⟨_,aC rfl rfl rfl (xT _)⟩,bj _ rfl⟩) (.inr ⟨rfl,⟨_,aC rfl rfl rfl (xT _)⟩,bj _ rfl⟩),aa,aa,aa⟩,.inr rfl,.inl rfl,.inl rfl,.inl rfl,.inr rfl,.inl rfl,.inl rfl,.inl rfl,.inl rfl,.inl rfl,.inl rfl,aa⟩,?_⟩
  refine zK 3 rfl ?_
  have s:=s.ae [6,2,2,0,1,0,0]
  dsimp only[bringA,getA,aT] at s
  refine zc rfl (Ai hW s) ?_
  rintro v h ⟨g,rfl,s⟩
  have hkn:(D.k++[201]).length=D.k.length+1:=by rw[aX];rfl
  have hvn:(D.v++[202]).length=D.v.length+1:=by rw[aX];rfl
  have J:=Uz (aK kb (D.k++[201])) (b:=D.k.length) (by omega)
  rw[gj rfl] at J
  have hY:=Uz (aK vb (D.v++[202])) (b:=D.v.length) (by omega)
  rw[gj rfl] at hY
  have s:=s.ae [0,1,1]
  dsimp only[bringA,getA,aT] at s
  obtain⟨id,off,e1,e2⟩:=jg (P:=Tryz.prog) s (k:=7) (i:=0) rfl (jt (n:=root) rfl) cC jO
  refine zk 6 rfl (zC rfl (xk kU) (rfl) (zk 7 rfl (zo rfl (bx (r:=.ptr id off) rfl rfl e1) (zl rfl (e2 _ bZ) (zk 2 rfl (zc rfl (JG (now:=[]) hT.toWI (by omega) (by decide) dL (NW.nil 1024) ht (by omega) J hY ⟨by omega,by omega⟩ (by omega) s) ?_))))))
  rintro v h ⟨mw,vh,k1,k2,k3,(⟨_,ue,_⟩|⟨ov,rfl,s,Z1⟩)⟩
  ·simp only[bI] at ue;omega
  have Vh:=Z1.o
  have acO:(ke es D.k D.v).length≤i+1:=by have:=TL (es:=es) (k:=D.k) (val:=D.v);omega
  have hgk:(D.k++[201])[D.k.length]?=some 201:=by rw[g8 (aM _),gG];rfl
  have hgv:(D.v++[202])[D.v.length]?=some 202:=by rw[g8 (aM _),gG];rfl
  have bk:=wD (s.buf (k:=2) rfl) hkn
  have bv:=wD (s.buf (k:=3) rfl) hvn
  obtain⟨idk,acP,ek1,ek2⟩:=c7 (s.buf (k:=2) rfl).view hgk
  obtain⟨idv,acQ,ev1,ev2⟩:=c7 (s.buf (k:=3) rfl).view hgv
  have acR:(D.k.length:Int)+1=((D.k.length+1:Nat):Int):=by omega
  have acS:(D.v.length:Int)+1=((D.v.length+1:Nat):Int):=by omega
  refine zk 12 rfl (zC rfl aN (rfl) (zk 2 rfl (zo rfl (b8 rfl (uE (s.aq (k:=2) rfl J))) (zf rfl (ob _ _) (zl rfl (by first|exact s.ld (k:=0) rfl ah rfl|exact s.ld (k:=1) rfl ah rfl|exact s.ld (k:=2) rfl ah rfl|exact s.ld (k:=3) rfl ah rfl|exact s.ld (k:=4) rfl ah rfl|exact s.ld (k:=5) rfl ah rfl|exact s.ld (k:=6) rfl ah rfl|exact s.ld (k:=7) rfl ah rfl|exact s.bW (k:=0) rfl ah rfl|exact s.bW (k:=1) rfl ah rfl|exact s.bW (k:=2) rfl ah rfl|exact s.bW (k:=3) rfl ah rfl) ?_)))))
  refine zo rfl (b8 rfl (uE (s.aq (k:=5) rfl (aY _ _)))) (zC rfl Ur (by simp) ?_)
  refine zk 3 rfl (zo rfl (b8 rfl (uE (s.aq (k:=3) rfl hY))) (zf rfl (tE _ _) (zl rfl (by first|exact s.ld (k:=0) rfl ah rfl|exact s.ld (k:=1) rfl ah rfl|exact s.ld (k:=2) rfl ah rfl|exact s.ld (k:=3) rfl ah rfl|exact s.ld (k:=4) rfl ah rfl|exact s.ld (k:=5) rfl ah rfl|exact s.ld (k:=6) rfl ah rfl|exact s.ld (k:=7) rfl ah rfl|exact s.bW (k:=0) rfl ah rfl|exact s.bW (k:=1) rfl ah rfl|exact s.bW (k:=2) rfl ah rfl|exact s.bW (k:=3) rfl ah rfl) ?_)))
  refine zo rfl (b8 rfl (uE (s.aq (k:=6) rfl (aY _ _)))) (zC rfl Ur (by simp) ?_)
  refine zk 4 rfl (zo rfl (aC rfl rfl rfl bk.2.2.1) (zo rfl (az (r:=.int .i64 ((D.k.length+1:Nat):Int)) rfl rfl ((aO (ay (by omega) (by omega))).trans (by rw[acR]))) ?_))
  refine zo rfl (bS (p:=none) (q:=some (.int .i64 ((D.k.length+1:Nat):Int))) (m:=none) (p':=none) (q':=some (D.k.length+1)) (m':=none) rfl rfl rfl rfl rfl (by rw[b9 (by omega),dm]) rfl bk.1) ?_
  refine zm rfl (zo rfl (aC rfl rfl rfl bk.2.2.1) (zo rfl (bx (r:=.ptr idk acP) rfl rfl ek1) (zl rfl ek2 (zC rfl aN (by simp) ?_))))
  refine zk 4 rfl (zo rfl (aC rfl rfl rfl bv.2.2.1) (zo rfl (az (r:=.int .i64 ((D.v.length+1:Nat):Int)) rfl rfl ((aO (ay (by omega) (by omega))).trans (by rw[acS]))) ?_))
  refine zo rfl (bS (p:=none) (q:=some (.int .i64 ((D.v.length+1:Nat):Int))) (m:=none) (p':=none) (q':=some (D.v.length+1)) (m':=none) rfl rfl rfl rfl rfl (by rw[b9 (by omega),dm]) rfl bv.1) ?_
  refine zm rfl (zo rfl (aC rfl rfl rfl bv.2.2.1) (zo rfl (bx (r:=.ptr idv acQ) rfl rfl ev1) (zl rfl ev2 (zC rfl aN (by simp) ?_))))
  refine zk 7 rfl (zf rfl (ob _ _) (zl rfl (by first|exact s.ld (k:=0) rfl ah rfl|exact s.ld (k:=1) rfl ah rfl|exact s.ld (k:=2) rfl ah rfl|exact s.ld (k:=3) rfl ah rfl|exact s.ld (k:=4) rfl ah rfl|exact s.ld (k:=5) rfl ah rfl|exact s.ld (k:=6) rfl ah rfl|exact s.ld (k:=7) rfl ah rfl|exact s.bW (k:=0) rfl ah rfl|exact s.bW (k:=1) rfl ah rfl|exact s.bW (k:=2) rfl ah rfl|exact s.bW (k:=3) rfl ah rfl) ?_))
  refine zo rfl (b8 rfl (uE (s.aq (k:=5) rfl (aY _ _)))) (zf rfl (tE _ _) (zl rfl (by first|exact s.ld (k:=0) rfl ah rfl|exact s.ld (k:=1) rfl ah rfl|exact s.ld (k:=2) rfl ah rfl|exact s.ld (k:=3) rfl ah rfl|exact s.ld (k:=4) rfl ah rfl|exact s.ld (k:=5) rfl ah rfl|exact s.ld (k:=6) rfl ah rfl|exact s.ld (k:=7) rfl ah rfl|exact s.bW (k:=0) rfl ah rfl|exact s.bW (k:=1) rfl ah rfl|exact s.bW (k:=2) rfl ah rfl|exact s.bW (k:=3) rfl ah rfl) ?_))
  refine zo rfl (b8 rfl (uE (s.aq (k:=6) rfl (aY _ _)))) ?_
  have s:=s.ae [7]
  dsimp only[bringA,getA,aT] at s
  refine zc rfl (WO hW ht.ok.jX (by omega) s) ?_
  rintro v h ⟨Z3,rfl,s⟩
  have s:=s.ae [3]
  dsimp only[bringA,getA,aT] at s
  refine zk 11 rfl (WP.block ?_)
  refine acH (n:=D.k.length) rfl (by omega) D.k.length 0 _ _ _ _ (by omega) hkn s ⟨rfl,rfl,rfl,rfl,rfl,rfl,rfl,rfl,rfl,rfl,rfl,aa⟩ (fun l1 E' h' hE s' => ?_)
  have s:=s'.ae [4]
  dsimp only[bringA,getA,aT] at s
  refine WP.has hE (zK 5 rfl (WP.block ?_))
  refine acI (n:=D.v.length) rfl (by omega) D.v.length 0 _ _ _ _ (by omega) hvn s ⟨rfl,rfl,rfl,rfl,rfl,rfl,rfl,rfl,rfl,rfl,rfl,aa⟩ (fun l2 E' h' hE s' => ?_)
  have s:=s'
  refine WP.has hE (zK 5 rfl (WP.block ?_))
  obtain⟨lo,jC,s⟩:∃lo,lo.length≤8192∧Sat h' (aQ ov lo::GA g a p q r [] 0 vh mw::pt p8 (.cells 4 [.int .i64 D.act,.int .i64 D.tree,kv,vv] false)::.bK kv D.k::.bK vv D.v::.arr 2 Z3 (cD (ke es D.k D.v))::.arr 1 lw (cf [root])::nm 4 dv cs::ny cs L::S):=by
   have s:=s.ae [4,3,3,3,3,2]
   dsimp only[bringA,getA,aT] at s
   exact TZ (fun l hl=>by have:=L9 ht.ok hl;omega) ((((s.del 7).del 6)))
  refine acJ lo.length 0 lo _ _ _ (by omega) jC s ⟨rfl,rfl,rfl,rfl,rfl,rfl,rfl,rfl,rfl,rfl,rfl,aa⟩ (fun l3 E' h' hE s' => ?_)
  have s:=s'.drop.ae [2]
  have s:=(s.dup (aJ.bK _ _)).ae [2,0]
  dsimp only[aT,bringA,getA] at s
  refine WP.has hE ?_
  obtain⟨id,off,e1,e2⟩:=jg (P:=Tryz.prog) s (k:=6) (i:=0) rfl (jt (n:=root) rfl) cC jO
  refine zw (WP.drawn [af,af,af,af,af,af,af,af,af,af,af,af,af,af,af,af,af] rfl (by kernel_rfl) (by kernel_rfl) ?_)
  refine zM rfl (zO rfl (qR rfl (mki_of kU rfl)) (zM rfl (zO rfl (bx (r:=.ptr id off) rfl rfl e1) (zL rfl (e2 _ bZ) (zF rfl (ob _ _) (zL rfl (by first|exact s.ld (k:=0) rfl ah rfl|exact s.ld (k:=1) rfl ah rfl|exact s.ld (k:=2) rfl ah rfl|exact s.ld (k:=3) rfl ah rfl|exact s.ld (k:=4) rfl ah rfl|exact s.ld (k:=5) rfl ah rfl|exact s.ld (k:=6) rfl ah rfl|exact s.ld (k:=7) rfl ah rfl|exact s.bW (k:=0) rfl ah rfl|exact s.bW (k:=1) rfl ah rfl|exact s.bW (k:=2) rfl ah rfl|exact s.bW (k:=3) rfl ah rfl) ?_))))))
  refine aE.any rfl rfl rfl rfl (OpR.call rfl rfl rfl rfl (Rl hT.toWB (Jg hW (by omega) k3) (by decide) k1 Vh (by omega) (aY _ _) (by omega) s)) ?_
  rintro v h ⟨lZ,q1,q2,q3⟩
  obtain⟨xv,yv,xb,l1,l2,yX,iq,rfl,s⟩:∃xv yv xb l1 l2,l1.length≤8192∧l2.length≤8192∧v=.aW [xv,yv,.bool xb,.int .i64 0]∧Sat h (aQ xv l1::aQ yv l2::GA g a p q r [] 0 vh lZ::.bK kv D.k::pt p8 (.cells 4 [.int .i64 D.act,.int .i64 D.tree,kv,vv] false)::.bK vv D.v::.arr 2 Z3 (cD (ke es D.k D.v))::.arr 1 lw (cf [root])::nm 4 dv cs::ny cs L::S):=by
   cases zZ:kj (ke es D.k D.v) D.k with
   |none =>
    rw[zZ] at q3
    exact⟨_,_,_,[],[],by simp,by simp,q3.1,q3.2.rA.rA⟩
   |some e =>
    rw[zZ] at q3
    obtain⟨x1,y1,e1,e2⟩:=q3
    have Gk:e∈ke es D.k D.v:=KE zZ
    have:=Vh.ok.sz e Gk
    exact⟨_,_,_,_,_,by omega,by omega,e1,e2⟩
  have hT2:oz 1024 root R [] (pgG vh lZ) (ke es D.k D.v):=by rw[nu q2];exact Vh
  refine zM rfl (zO rfl (gB rfl rfl) (zO rfl (gB rfl rfl) (zO rfl (gB rfl rfl) (zO rfl (gB rfl rfl) (zA rfl (zA rfl (zA rfl (zA rfl ?_))))))))
  refine aE.nil ⟨⟨aa,aa,aa,aa,aa,aa,aa,aa,aa,aa,aa,aa,aa,aa,aa,aa,aa,aa⟩,?_⟩
  have s:=s.ae [2,2]
  dsimp only[bringA,getA,aT] at s
  obtain⟨id,off,e1,e2⟩:=jg (P:=Tryz.prog) s (k:=7) (i:=0) rfl (jt (n:=root) rfl) cC jO
  refine zw (WP.drawn [af,af,af,af,af,af,af,af,af,af,af,af,af,af,af] rfl (by kernel_rfl) (by kernel_rfl) ?_)
  refine zM rfl (zO rfl (qR rfl (mki_of kU rfl)) (zM rfl (zO rfl (bx (r:=.ptr id off) rfl rfl e1) (zL rfl (e2 _ bZ) (zF rfl (ob _ _) (zL rfl (by first|exact s.ld (k:=0) rfl ah rfl|exact s.ld (k:=1) rfl ah rfl|exact s.ld (k:=2) rfl ah rfl|exact s.ld (k:=3) rfl ah rfl|exact s.ld (k:=4) rfl ah rfl|exact s.ld (k:=5) rfl ah rfl|exact s.ld (k:=6) rfl ah rfl|exact s.ld (k:=7) rfl ah rfl|exact s.bW (k:=0) rfl ah rfl|exact s.bW (k:=1) rfl ah rfl|exact s.bW (k:=2) rfl ah rfl|exact s.bW (k:=3) rfl ah rfl) ?_))))))
  refine aE.any rfl rfl rfl rfl (OpR.call rfl rfl rfl rfl (JH hT.toWB (Jg hW (by omega) k3) (by decide) q1 hT2 (by omega) (aY _ _) ⟨by omega,by omega⟩ s)) ?_
  rintro v h ⟨rU,q4,q5,q6⟩
  obtain⟨vz,bz,l3,hl3,rfl,s⟩:∃vz bz l3,l3.length≤8192∧v=.aW [vz,.bool bz,.int .i64 0]∧Sat h (aQ vz l3::GA g a p q r [] 0 vh rU::.bK kv D.k::aQ xv l1::aQ yv l2::pt p8 (.cells 4 [.int .i64 D.act,.int .i64 D.tree,kv,vv] false)::.bK vv D.v::.arr 2 Z3 (cD (ke es D.k D.v))::.arr 1 lw (cf [root])::nm 4 dv cs::ny cs L::S):=by
   cases CQ:fb (ke es D.k D.v) D.k with
   |none =>
    rw[CQ] at q6
    exact⟨_,_,[],by simp,q6.1,q6.2.rA⟩
   |some l =>
    rw[CQ] at q6
    obtain⟨x1,e1,e2⟩:=q6
    have:=L9 Vh.ok CQ
    exact⟨_,_,_,by omega,e1,e2⟩
  have hT3:oz 1024 root R [] (pgG vh rU) (ke es D.k D.v):=by rw[nu q5];exact hT2
  refine zM rfl (zO rfl (gB rfl rfl) (zO rfl (gB rfl rfl) (zO rfl (gB rfl rfl) (zA rfl (zA rfl (zA rfl ?_))))))
  refine aE.nil ⟨⟨aa,aa,aa,aa,aa,aa,aa,aa,aa,aa,aa,aa,aa,aa,aa,aa⟩,?_⟩
  refine zK 5 rfl (WP.block ?_)
  have s:=s.ae [3]
  dsimp only[bringA,getA,aT] at s
  refine acK l1.length 0 l1 _ _ _ (by omega) yX s ⟨rfl,rfl,rfl,rfl,rfl,rfl,rfl,rfl,rfl,rfl,aa⟩ (fun m1 E' h' hE s' => ?_)
  have s:=s'.drop.ae [3]
  dsimp only[bringA,getA,aT] at s
  refine WP.has hE (zK 5 rfl (WP.block ?_))
  refine acL l2.length 0 l2 _ _ _ (by omega) iq s ⟨rfl,rfl,rfl,rfl,rfl,rfl,rfl,rfl,rfl,rfl,aa⟩ (fun m1 E' h' hE s' => ?_)
  have s:=s'.drop
  refine WP.has hE (zK 5 rfl (WP.block ?_))
  refine acM l3.length 0 l3 _ _ _ (by omega) hl3 s ⟨rfl,rfl,rfl,rfl,rfl,rfl,rfl,rfl,rfl,rfl,aa⟩ (fun m1 E' h' hE s' => ?_)
  have s:=s'.drop
  refine WP.has hE (zK 3 rfl (zo rfl (cP rfl (xA (kd:=1))) ?_))
  have ZZ:=k3.len
  refine zc rfl (Rk (kd:=1) hW (by omega) q4 k3 (by decide) (by omega) (by decide) (by decide) s) ?_
  rintro v h ⟨bf,(rfl|⟨t_,rfl,r1,r2,s⟩)⟩
  ·skip
   refine zk 10 rfl (zB rfl ej (by decide) ?_)
   exact zk 6 rfl (WP.ret (FD _ _ rfl))
  refine zk 10 rfl (zC rfl ej (by decide) ?_)
  refine zk 6 rfl (zC rfl aN (by decide) ?_)
  refine zv (zj rfl (WP.skip (zr rfl (zm rfl (zb rfl (by first|exact aO (ay (by omega) (by omega))|rfl) ?_)))))
  refine za rfl (zv ?_)
  refine ih (i+1) _ _ t_ _ _ Q (by omega) (by rw[show 5+2*(i+1)=5+2*i+2 by omega];exact r1) (hT3.done k3 r2) (fun d hd x hx => ?_) acO ((((s.ae [4,0]).del 4).del 3).del 2) ⟨rfl,rfl,rfl,rfl,rfl,aa⟩ FD hq
  rcases TY hd with hd|rfl
  ·exact hb d hd x hx
  ·exact hKb x hx
theorem T0 (I:WT told)(hLn:L.length≤1048576)(s:Sat h (nm 4 dv cs::ny cs L::S)): Call ⟨Tryz.prog,told⟩ 3 [dv] h fun v h'=>v=.bool true:=by
 have hW:=I.w
 have ff:cs.length=L.length*4:=by
  obtain⟨m,r,_,_,h3⟩:=s.at (k:=1) rfl
  exact FC h3
 refine Call.of_wp (hW.free _ rfl) Tryz.func3 rfl rfl (zK 7 rfl (zc rfl (N6 I s) ?_))
 rintro v h ⟨rfl,s⟩
 refine zo rfl (eG rfl rfl) (zk 7 rfl (zo rfl (aC rfl rfl rfl (s.IP (n:=L.length) (j:=0) rfl ff (by decide) Af)) ?_))
 by_cases adS:L.length>200
 ·skip
  refine zB rfl cL (decide_eq_true (by omega)) ?_
  refine zk 6 rfl (WP.ret ⟨aa,_,rfl,?_⟩)
  rfl
 refine zC rfl cL (decide_eq_false (by omega)) ?_
 refine zk 5 rfl (zc rfl (GG (N:=1024) (nt:=1) I (by decide) (by decide) (by decide) s) ?_)
 rintro v h ⟨p,a,q,r,lw,rs,M,ε,rfl,Ln,dL,J,GF,dW,s⟩
 obtain⟨root,rfl⟩:∃z,rs=[z]:=List.length_eq_one_iff.1 Ln
 generalize List.replicate 64 0=R at J
 have ht:oz 1024 root R [] (pgA ε) []:=oz.fresh J GF (dW root bO)
 have s:=(s.ae [1]).kS (k:=2)
 refine zk 12 rfl (zo rfl (eG rfl rfl) (zk 12 rfl (WP.block ?_)))
 refine acN I (by omega) L.length 0 .aV [] ε _ _ _ (by omega) dL ht (by simp) (by simp) s ⟨rfl,rfl,rfl,rfl,rfl,aa⟩ (fun E' h' hE=>⟨aa,_,EP hE,rfl⟩) (fun lv es ε E' h' k1 k2 k3 k4 s' hE => ?_)
 have s:=s'.ae [1,0]
 obtain⟨id,off,e1,e2⟩:=jg (P:=Tryz.prog) s (k:=2) (i:=0) rfl (jt (n:=root) rfl) cC jO
 refine WP.has hE (zK 3 rfl (zo rfl (qR rfl (mki_of zI rfl)) (zm rfl (zo rfl (bx (r:=.ptr id off) rfl rfl e1) (zl rfl (e2 _ bZ) (zm rfl (zc rfl (TX I.toWB (Zl hW (by omega)) (by decide) k2 k3 (by omega) k1 rfl s) ?_)))))))
 rintro v h ⟨aj,rfl,_⟩
 refine zk 2 rfl (WP.ret ⟨aa,_,rfl,?_⟩)
 rfl
end
def JI (c:Ctx): Prop:=∀id,id<c.N→c.X id=true
noncomputable def Ctx.fix (c:Ctx)(w:World)(b off:Nat): Ctx:=⟨fun i=>if i=c.N then(b,off) else c.ρ i,fun x=>if x=b then rowSize w b else c.Z x,c.N+1,fun i=>if i=c.N then true else c.X i⟩
theorem Rel.fix {w:World}(h:Rel c σ w)(hX:JI c){b:Nat}{cs:List V}{e:TypeId}(hb:w.heap[b]?=some (.cells C e fz))(hl:off+cs.length≤C.size)
 (hc:∀j v,cs[j]?=some v→C[off+j]?=some (conc c v))(mV:∀v∈cs,wf c v∧storable v=true):
  Rel (c.fix w b off) (σ.new (.cells cs.length cs true)) w∧JI (c.fix w b off)∧Ext c (c.fix w b off)∧(c.fix w b off).ρ σ.next=(b,off)∧σ.next<(c.fix w b off).N:=by
 have hold:∀i,i<c.N→(c.fix w b off).ρ i=c.ρ i:=fun i hi=>by grind[Ctx.fix]
 have CG:∀i,i<c.N→(c.fix w b off).X i=c.X i:=fun i hi=>by grind[Ctx.fix]
 have J:(c.fix w b off).ρ c.N=(b,off):=by simp[Ctx.fix]
 have hnX:(c.fix w b off).X c.N=true:=by simp[Ctx.fix]
 have hN:(c.fix w b off).N=c.N+1:=rfl
 have cV:b<w.heap.size:=(Array.getElem?_eq_some_iff.1 hb).1
 have I:JI (c.fix w b off):=fun i hi=>by
  by_cases h1:i=c.N
  ·grind
  ·rw[CG i (by omega)];exact hX i (by omega)
 have ex:Ext c (c.fix w b off):=⟨by omega,hold,fun i hi=>by
  show(if (c.ρ i).1=b then rowSize w b else c.Z (c.ρ i).1)=_
  split
  ·rename_i he;rw[h.zz i hi,he]
  ·rfl,CG⟩
 have key:∀i o,(σ.new (.cells cs.length cs true)).tr.get i=some o→(i=c.N∧o=.cells cs.length cs true)∨(i<c.N∧σ.tr.get i=some o):=by
  intro i o hi
  rw[hO,h.next] at hi
  by_cases h1:i=c.N
  ·grind
  ·simp[h1] at hi;exact .inr ⟨h.live i o hi,hi⟩
 refine⟨⟨by simp[H.new,h.next,hN],fun i o hi => ?_,fun i hi => ?_,fun i hi => ?_,fun i j o o' hi hj he => ?_,fun i o hi => ?_,fun i xG oW hi hx => ?_,fun i o hi hx => ?_⟩,I,ex,by rw[h.next];exact J,by rw[h.next,hN];omega⟩
 ·grind
 ·by_cases h1:i=c.N
  ·grind
  ·rw[hold i (by omega)];exact h.mU i (by omega)
 ·by_cases h1:i=c.N
  ·rw[h1,J];show(if b=b then rowSize w b else c.Z b)=_;rw[aH rfl]
  ·rw[hold i (by omega)]
   show(if (c.ρ i).1=b then rowSize w b else c.Z (c.ρ i).1)=_
   split
   ·grind
   ·exact h.zz i (by omega)
 ·have li:i<c.N+1:=by grind
  have lj:j<c.N+1:=by grind
  exact .inr ⟨I i (by omega),I j (by omega)⟩
 ·rcases key i o hi with⟨rfl,rfl⟩|⟨a1,a2⟩
  ·refine⟨rfl,fun v hv=>⟨(cA ex v (mV v hv).1).2,(mV v hv).2⟩,C,e,fz,by grind,by grind,fun j v hj => ?_,aa⟩<;>grind[cA]
  ·exact(h.obj i o a2).later ex a1 rfl
 ·have li:i<c.N+1:=by grind
  rw[I i (by omega)] at hx;cases hx
 ·rcases key i o hi with⟨_,rfl⟩|⟨a1,a2⟩
  ·simp
  ·rw[CG i a1] at hx;exact h.fx i o a2 hx
theorem Kz {c':Ctx}{w w':World}(hX:JI c)(h:cI c w c' w'): w.keptBut w' (fun _=>False)∧w.heap.size≤w'.heap.size∧∀b,b<w.heap.size→w'.heap[b]?=w.heap[b]?:=by
 have J:∀b,b<w.heap.size→w'.heap[b]?=w.heap[b]?:=fun b hb=>h.nO b hb fun id I _=>hX id I
 refine⟨⟨h.sys.1,h.sys.2,fun i hi => ?_⟩,h.size,J⟩
 rw[J i hi]
 split<;>simp_all
end Go.Proofs.YtdonpgpfplgigaaGreat.Am
namespace Go.Proofs.YtdonpgpfplgigaaGreat.Am
open Go Go.ChangeShapes
variable {fs:Array Field} {C:Array Value} {X Y:aI} {cap:Cap} {c:Ctx} {e d:En} {ε:bw} {A:bw→aI} {pg:bw→Int→List Nat} {Q:Ex→List (Nat×V)→H→Prop} {h σ:H} {P:Int→List Nat} {k lo:Ky} {now:List (Int×List Nat)} {cs:List (List Nat)} {E:List (Nat×V)} {S:List aI} {es eL eR:List En} {ks:List gR} {b ps R ot M data:List Nat} {i B id off N x n l L r kb j a g q bA K kd nt fuel:Nat} {fz:Nat×Nat} {F:Nat→List (List Nat)→Prop} {y:Operand} {hi:Option Ky} {α H':Type} {t te:TypeId} {lv wv rv vv w z kv mv ov fv hv uv dv lw:V}
def Ak (W:World)(S:List aI)(c:Ctx)(σ:H): Prop:=Rel c σ W∧JI c∧Sat σ S
theorem Ak.zero (W:World): ∃c σ,Ak W [] c σ:=by
 refine⟨_,_,Rel.empty W,fun id h=>absurd h (vB _),⟨fun id o h=>by simp[T.tc] at h,fun _=>none,fun _=>none,fun _ _ h=>(by cases h),fun _ _ h=>(by cases h),fun _=>.inl rfl,aa⟩⟩
theorem Ak.sat {W:World}{S':List aI}(h:Ak W S c σ)(hs:∀h,Sat h S→Sat h S'): Ak W S' c σ:=⟨h.1,h.2.1,hs σ h.2.2⟩
def oA {α:Type}(W:World)(cs:List Value)(E:List V→α→aI)(φ:α→Prop): Prop :=
 ∀(c:Ctx) (σ:H) (S:List aI),Ak W S c σ→∃(c':Ctx) (dM:H) (vs:List V) (x:α),Ak W (E vs x::S) c' dM∧Ext c c'∧vs.map (conc c')=cs∧(∀v∈vs,wf c' v∧storable v=true)∧φ x
theorem oA.rows {W:World}{E:List V→α→aI}{A:List V→List α→aI}{φ:α→Prop}(hE:∀vs x,aJ (E vs x))(hA:∀l m,aJ (A l m))(yt:∀m r,(A [] []).p m r)(J:∀vs x l m a b,(E vs x).p a b→(A l m).p a b→(A (vs++l) (x::m)).p a b):
  ∀(I:List (List Value)),(∀cs∈I,oA W cs E φ)→oA W I.flatten A (fun xs=>xs.length=I.length∧∀x∈xs,φ x):=by
 intro I
 induction I with
 |nil =>
  intro _ c σ S h
  exact⟨c,σ,[],[],h.sat fun h s=>(s.fq (φ:=True) aa).dG fun m r _=>yt m r,Ext.refl c,rfl,fun v hv=>(by cases hv),rfl,fun x hx=>(by cases hx)⟩
 |cons cs I ih =>
  intro hc c σ S h
  obtain⟨c1,Z4,l,m,h1,e1,m1,w1,n1,p1⟩:=ih (fun x hx=>hc x (bR _ hx)) c σ S h
  obtain⟨c2,σ2,vs,x,h2,e2,m2,w2,p2⟩:=hc cs bO c1 Z4 _ h1
  obtain⟨q1,q2⟩:=mZ e2 fun v hv=>(w1 v hv).1
  refine⟨c2,σ2,vs++l,x::m,h2.sat fun h s=>s.two (hE _ _) (hA _ _) fun a b k1 k2=>J _ _ _ _ _ _ k1 k2,e1.trans e2,?_,fun v hv => ?_,by grind,fun y hy => ?_⟩<;>grind
def Ro {α:Type}(k:Nat)(A:List V→List α→aI)(vs:List V)(x:List α): aI:=.xs fun v:V=>.xs fun cs:List V=>.an (.pu (vs=[v])) (.an (nm k v cs) (A cs x))
theorem oA.acT {W:World}{k:Nat}{A:List V→List α→aI}{φ:List α→Prop}(I:∀m r,(A [] []).p m r)(J:φ []): oA W [.slice none 0 0] (Ro k A) φ:=fun c σ S h =>
 ⟨c,σ,[.aV],[],h.sat fun h s=>(s.fq (φ:=True) aa).dG fun m r _=>⟨.aV,[],rfl,⟨none,.inl rfl,rfl⟩,I m r⟩,Ext.refl c,by rfl,fun v hv=>by rw[List.mem_singleton.1 hv];exact⟨aa,rfl⟩,J⟩
theorem oA.Z5 {W:World}{k:Nat}{A:List V→List α→aI}{φ:List α→Prop}{a:Addr}(I:∀m r,(A [] []).p m r)(J:φ []): oA W [.slice (some a) 0 0] (Ro k A) φ:=fun c σ S h =>
 ⟨c,σ,[.sle a],[],h.sat fun h s=>(s.fq (φ:=True) aa).dG fun m r _=>⟨.sle a,[],rfl,⟨none,.inr ⟨a,rfl⟩,rfl⟩,I m r⟩,Ext.refl c,by rfl,fun v hv=>by rw[List.mem_singleton.1 hv];exact⟨aa,rfl⟩,J⟩
theorem oA.acU {W:World}{k b len cap:Nat}{A:List V→List α→aI}{φ:List α→Prop}{cs:List Value}{e:TypeId}(hb:W.heap[b]?=some (.cells C e fz))(hl:off+cs.length≤C.size)(hn:cs.length=len*k)(J:len≤cap)
 (hc:∀j v,cs[j]?=some v→C[off+j]?=some v)(hA:∀l m,aJ (A l m))(ho:oA W cs A φ): oA W [.slice (some ⟨b,off,none⟩) len cap] (Ro k A) φ:=by
 intro c σ S h
 obtain⟨c1,I,vs,x,h1,e1,m1,w1,p1⟩:=ho c σ S h
 have hlen:vs.length=cs.length:=by grind
 obtain⟨g1,g2,g3,g4,g5⟩:=h1.1.fix h1.2.1 hb (cs:=vs) (off:=off) (by omega) (fun j v hv=>hc j _ (by grind)) w1
 refine⟨_,_,[.sl I.next 0 len (.exact cap)],x,⟨g1,g2,?_⟩,e1.trans g3,?_,fun v hv => ?_,p1⟩
 ·have s1:Sat (I.new (.cells vs.length vs true)) (.ro I.next (.cells vs.length vs true)::A vs x::S):=(h1.2.2.new _).freeze
  refine s1.two (aJ.ro _ _) (hA _ _) fun m r k1 k2=>⟨_,vs,rfl,⟨some (I.next,len,cap),k1,rfl,by omega⟩,k2⟩
 ·simp[conc,g4]
 ·rw[List.mem_singleton.1 hv]
  exact⟨⟨g5,J⟩,rfl⟩
def Rp (vs:List V)(l:List Nat): aI:=.xs fun v:V=>.an (.pu (vs=[v])) (.bK v l)
theorem aJ.Rp (vs:List V)(l:List Nat): aJ (Am.Rp vs l):=aJ.xs fun _=>aJ.an (aJ.pu _) (aJ.bK _ _)
theorem JJ {W:World}{a:Addr}{v:Value}(h:W.cell? a=some v): ∃b off,a=⟨b,off,none⟩∧∃C e fz,W.heap[b]?=some (.cells C e fz)∧C[off]?=some v:=by
 obtain⟨b,off,spot⟩:=a
 have hs:spot=none:=World.cell?_spot h
 grind[World.cell?]
theorem FE {β:Type}{f:α→β}{l:List α}{b:β}(h:l.map f=[b]): ∃a,l=[a]∧f a=b:=by
 simp_all
end Go.Proofs.YtdonpgpfplgigaaGreat.Am
namespace Go.Proofs.YtdonpgpfplgigaaGreat.Am
open Go Go.ChangeShapes Go.WideShapes Go.ChangeAt Go.RowKit
variable {fs:Array Field} {C:Array Value} {X Y:aI} {cap:Cap} {c:Ctx} {e d:En} {ε:bw} {A:bw→aI} {pg:bw→Int→List Nat} {Q:Ex→List (Nat×V)→H→Prop} {h σ:H} {P:Int→List Nat} {k lo:Ky} {now:List (Int×List Nat)} {cs:List (List Nat)} {E:List (Nat×V)} {S:List aI} {es eL eR:List En} {ks:List gR} {b ps R ot M data:List Nat} {i B id off N x n l L r kb j a g q bA K kd nt fuel:Nat} {fz:Nat×Nat} {F:Nat→List (List Nat)→Prop} {y:Operand} {hi:Option Ky} {α H':Type} {t te:TypeId} {lv wv rv vv w z kv mv ov fv hv uv dv lw:V}
theorem T1 {H:Type}(d:DataW H): 1≤Rows.uptoBulk d:=by
 cases d with
 |lit l=>cases l<;>simp[Rows.uptoBulk]
 |nil=>simp[Rows.uptoBulk]
 |ptr d=>simp[Rows.uptoBulk]
 |slice elems spare=>simp[Rows.uptoBulk]
 |agg parts=>simp[Rows.uptoBulk]
 |iface t d=>simp[Rows.uptoBulk]
 |map entries=>simp[Rows.uptoBulk]
 |held h=>simp[Rows.uptoBulk]
theorem uQ {H:Type}{d:DataW H}: ∀ {l:List (DataW H)},d∈l→Rows.uptoBulk d≤Rows.uptoBulkAll l:=by
 intro l
 induction l<;>grind[Rows.uptoBulkAll]
theorem JK {H:Type}: ∀(l:List (DataW H)),l.length≤Rows.uptoBulkAll l:=by
 intro l
 induction l<;>grind[T1,Rows.uptoBulkAll]
theorem D7 {H:Type}(a b:List (DataW H)): Rows.uptoBulk (.slice a b)=Rows.uptoBulkAll a+Rows.uptoBulkAll b+1:=by rfl
theorem T2 {H:Type}(a:List (DataW H)): Rows.uptoBulk (.agg a)=Rows.uptoBulkAll a+1:=by rfl
theorem Ma {W:World}{b o:Nat}{e:TypeId}(I:W.heap[b]?=some (.cells C e fz)): W.cell? ⟨b,o,none⟩=C[o]?:=by
 grind[World.cell?]
section
variable {enc:TypeId×Value→H'} {W:World} {cs:List Value} {x:DataW H'×List MemPlace}
theorem Mb (h:DataW.trod enc Tryz.prog W 0 (fun _=>true) true fuel 29 cs=some x)(hB:Rows.uptoBulk x.1≤B): oA W cs Rp (fun l=>l.length≤B):=by
 rcases open_ints ak Tryz.underlying5 (by kernel_rfl) h with⟨rfl,rfl⟩|⟨a,len,cap,zs,rfl,_,LI,_,hz,rfl,I,mV⟩
 ·exact fun c σ S h=>⟨c,σ,[.aV],[],h.sat fun h s=>s.qT.dG fun m r k=>⟨.aV,rfl,k⟩,Ext.refl c,by rfl,fun v hv=>by rw[List.mem_singleton.1 hv];exact⟨aa,rfl⟩,eN _⟩
 ·rw[aH rfl] at hz
  by_cases h0:cap=0
  ·have:len=0:=by omega
   subst this
   subst h0
   exact fun c σ S h=>⟨c,σ,[.sle a],[],h.sat fun h s=>(s.fq (φ:=True) aa).dG fun m r k=>⟨.sle a,rfl,by simp,.inl ⟨.inr ⟨a,rfl⟩,rfl⟩⟩,Ext.refl c,by rfl,fun v hv=>by rw[List.mem_singleton.1 hv];exact⟨aa,rfl⟩,eN _⟩
  ·have g0:=I 0 (by omega)
   obtain⟨b,off,spot⟩:=a
   have hs:spot=none:=by simpa[Addr.add] using World.cell?_spot g0
   subst hs
   have I:∀i,i<zs.length→W.cell? ⟨b,off+i,none⟩=some (.int .u8 (zs.getD i 0)):=fun i hi=>by grind[add_plain]
   obtain⟨b',off',he,C,e,fz,hb,hc0⟩:=JJ (I 0 (by omega))
   simp only[Addr.mk.injEq,and_true] at he
   obtain⟨rfl,rfl⟩:=he
   have hC:∀i,i<zs.length→C[off+i]?=some (.int .u8 (zs.getD i 0)):=fun i hi=>by grind[Ma]
   have acV:off<C.size:=by
    grind
   have hu8:∀z∈zs,0≤z∧z<256:=fun z hz=>by
    have:=mV z hz
    simp only[Lit.wf,bF,i_] at this
    have e1:IntKind.min .u8=0:=rfl
    have e2:IntKind.max .u8=255:=rfl
    omega
   have J:((zs.take len).map Int.toNat).length=len:=by grind
   have hob:(ofBytes ((zs.take len).map Int.toNat)).length=len:=by rw[cQ,J]
   have acW:∀y∈(zs.take len).map Int.toNat,y<256:=fun y hy=>by
    grind
   intro c σ S h
   have dN:off+(ofBytes ((zs.take len).map Int.toNat)).length≤C.size:=by
    by_cases FK:len=0
    ·omega
    ·have:=(Array.getElem?_eq_some_iff.1 (hC (len-1) (by omega))).1
     omega
   have acX:∀j v,(ofBytes ((zs.take len).map Int.toNat))[j]?=some v→C[off+j]?=some (conc c v):=fun j v hv=>by
    grind[ofBytes,List.getElem_mem,conc]
   obtain⟨g1,g2,g3,g4,g5⟩:=h.1.fix h.2.1 hb (off:=off) dN acX (fun v hv=>by obtain⟨n,_,rfl⟩:=List.mem_map.1 hv;exact⟨aa,rfl⟩)
   refine⟨_,_,[.sl σ.next 0 len (.exact cap)],(zs.take len).map Int.toNat,⟨g1,g2,?_⟩,g3,?_,fun v hv => ?_,?_⟩
   ·have s1:=(h.2.2.new (.cells (ofBytes ((zs.take len).map Int.toNat)).length (ofBytes ((zs.take len).map Int.toNat)) true)).freeze
    refine s1.dG fun m r k=>⟨_,rfl,acW,.inr ⟨σ.next,0,.exact cap,_,_,true,by rw[J],k,rfl,by omega,?_,?_⟩⟩<;>grind
   ·simp[conc,g4]
   ·rw[List.mem_singleton.1 hv]
    exact⟨⟨g5,LI⟩,rfl⟩
   ·rw[D7] at hB
    have h1:=JK (lits (H:=H') .u8 (zs.take len))
    grind[lits]
theorem Rq {e:TypeId}{k:Nat}{E:List V→α→aI}{A:List V→List α→aI}{φ:α→Prop}(ht:Tryz.prog.underlying t=some (.slice e))(hk:Tryz.prog.cellsOf e=k)(h1:1≤k)
 (hE:∀vs x,aJ (E vs x))(hA:∀l m,aJ (A l m))(yt:∀m r,(A [] []).p m r)(Ms:∀vs x l m a b,(E vs x).p a b→(A l m).p a b→(A (vs++l) (x::m)).p a b)
 (Bz:∀n cs (y:DataW H'×List MemPlace),DataW.trod enc Tryz.prog W 0 (fun _=>true) true n e cs=some y→Rows.uptoBulk y.1≤B→oA W cs E φ)
 (h:DataW.trod enc Tryz.prog W 0 (fun _=>true) true fuel t cs=some x)(hB:Rows.uptoBulk x.1≤B): oA W cs (Ro k A) (fun xs=>xs.length≤B∧∀x∈xs,φ x):=by
 rcases DataW.trod_slice ht h with⟨rfl,rfl⟩|⟨a,len,cap,elems,rest,n,_,rfl,rfl,_,LI,_,hlen,J,jW,_⟩
 ·grind[oA.acT]
 ·obtain⟨Ln,Vi⟩:=jW rfl
  rw[hk] at J Vi
  rw[D7] at hB
  by_cases h0:cap=0
  ·simp_all[oA.Z5]
  ·-- each element's cells
   have each:∀i,i<cap→∃cs,W.cells? 0 (a.add (i*k)) k=some cs:=fun i hi=>by
    by_cases yD:i<len
    ·have h2:=J i yD
     rw[aG (by omega)] at h2
     obtain⟨cs,h3,_⟩:=Option.bind_eq_some_iff.1 h2
     exact⟨cs,h3⟩
    ·have h2:=Vi (i-len) (by omega)
     rw[aG (by omega),show len+(i-len)=i by omega] at h2
     obtain⟨cs,h3,_⟩:=Option.bind_eq_some_iff.1 h2
     exact⟨cs,h3⟩
   obtain⟨DY,acY⟩:=each 0 (by omega)
   obtain⟨_,FK,hc0⟩:=World.cells?_some acY
   have g0:=hc0 0 (by omega)
   obtain⟨v0,hv0⟩:∃v,DY[0]?=some v:=⟨_,aG (by omega)⟩
   rw[hv0] at g0
   obtain⟨b,off,spot⟩:=a
   have hs:spot=none:=by simpa[Addr.add] using World.cell?_spot g0
   subst hs
   simp only[add_plain,jY,dA] at g0
   obtain⟨b',off',he,C,ty,fz,hb,Hv⟩:=JJ g0
   simp only[Addr.mk.injEq,and_true] at he
   obtain⟨rfl,rfl⟩:=he
   have acV:off<C.size:=(Array.getElem?_eq_some_iff.1 Hv).1
   -- the rows
   have rows:∀i,i<len→∃cs,cs.length=k∧oA W cs E φ∧∀q v,cs[q]?=some v→C[off+i*k+q]?=some v:=fun i hi=>by
    have h2:=J i hi
    rw[aG (by omega)] at h2
    obtain⟨cs,h3,h4⟩:=Option.bind_eq_some_iff.1 h2
    obtain⟨_,hl,hc⟩:=World.cells?_some h3
    refine⟨cs,hl,Bz n cs _ h4 ?_,fun q v hq => ?_⟩
    ·have:=uQ (l:=elems.map (·.1)) (vr (Aw (l:=elems) (n:=i) (by omega)))
     omega
    ·have hqk:q<k:=by grind
     have:=hc q hqk
     rw[add_plain,add_plain,Ma hb,hq] at this
     exact this
   have build:∀m,m≤len→∃I:List (List Value),I.length=m∧(∀cs∈I,oA W cs E φ)∧I.flatten.length=m*k∧∀j v,I.flatten[j]?=some v→C[off+j]?=some v:=by
    intro m
    induction m with
    |zero=>simp
    |succ m ih =>
     intro hm
     obtain⟨I,i1,i2,i3,i4⟩:=ih (by omega)
     obtain⟨cs,r1,r2,r3⟩:=rows m (by omega)
     refine⟨I++[cs],by simp[i1],fun y hy => ?_,by simp[i3,r1,oT],fun j v hj => ?_⟩
     ·rcases List.mem_append.1 hy with hy|hy<;>grind[List.mem_singleton]
     ·rw[List.flatten_append,List.flatten_singleton] at hj
      by_cases cV:j<m*k
      ·grind
      ·rw[g8 (by omega),i3] at hj
       have:=r3 _ v hj
       rwa [show off+m*k+(j-m*k)=off+j by omega] at this
   obtain⟨I,b1,b2,b3,b4⟩:=build len (aM _)
   have dN:off+I.flatten.length≤C.size:=by
    by_cases FK:len*k=0
    ·omega
    ·obtain⟨v,hv⟩:∃v,I.flatten[len*k-1]?=some v:=⟨_,aG (by omega)⟩
     have:=(Array.getElem?_eq_some_iff.1 (b4 _ v hv)).1
     omega
   have main:=oA.acU (k:=k) (len:=len) (cap:=cap) hb dN b3 LI b4 hA (oA.rows hE hA yt Ms I b2)
   intro c σ S h
   obtain⟨c1,Z4,vs,x,q1,q2,q3,q4,q5,q6⟩:=main c σ S h
   refine⟨c1,Z4,vs,x,q1,q2,q3,q4,?_,q6⟩
   have:=JK (elems.map (·.1))
   rw[cq] at this
   omega
end
end Go.Proofs.YtdonpgpfplgigaaGreat.Am
namespace Go.Proofs.YtdonpgpfplgigaaGreat.Am
open Go Go.ChangeShapes Go.WideShapes Go.ChangeAt Go.RowKit
variable {fs:Array Field} {C:Array Value} {X Y:aI} {cap:Cap} {c:Ctx} {e d:En} {ε:bw} {A:bw→aI} {pg:bw→Int→List Nat} {Q:Ex→List (Nat×V)→H→Prop} {h σ:H} {P:Int→List Nat} {k lo:Ky} {now:List (Int×List Nat)} {cs:List (List Nat)} {E:List (Nat×V)} {S:List aI} {es eL eR:List En} {ks:List gR} {b ps R ot M data:List Nat} {i B id off N x n l L r kb j a g q bA K kd nt fuel:Nat} {fz:Nat×Nat} {F:Nat→List (List Nat)→Prop} {y:Operand} {hi:Option Ky} {α H':Type} {t te:TypeId} {lv wv rv vv w z kv mv ov fv hv uv dv lw:V}
noncomputable def Mc (P:Program)(t:TypeId): Array Field:=match P.underlying t with
 |some (.struct fs)=>fs
 |_ => #[]
def FF (fs:Array Field)(i:Nat): Option (TypeId×Nat):=(fs[i]?).map fun f=>(f.type,f.offset)
theorem aa9 : Tryz.prog.underlying 31=some (.struct (Mc Tryz.prog 31)):=by kernel_rfl
theorem Vj : Tryz.prog.cellsOf 31=4:=by kernel_rfl
theorem Vk : Tryz.prog.cellsOf 3=1:=by kernel_rfl
theorem Vl : Tryz.prog.cellsOf 29=1:=by kernel_rfl
theorem aa_ : (Mc Tryz.prog 31).size=4:=by kernel_rfl
theorem aba : FF (Mc Tryz.prog 31) 0=some (3,0):=by kernel_rfl
theorem abb : FF (Mc Tryz.prog 31) 1=some (3,1):=by kernel_rfl
theorem abc : FF (Mc Tryz.prog 31) 2=some (29,2):=by kernel_rfl
theorem abd : FF (Mc Tryz.prog 31) 3=some (29,3):=by kernel_rfl
theorem Bk {o:Nat}(h:FF fs i=some (t,o)): ∃f,fs[i]?=some f∧f.type=t∧f.offset=o:=by
 grind[FF]
theorem Rr {l:List α}(h:l.length=4): ∃a b c d,l=[a,b,c,d]:=by
 rcases l with _|⟨a,_|⟨b,_|⟨c,_|⟨d,_|⟨e,l⟩⟩⟩⟩⟩<;>simp at h
 exact⟨a,b,c,d,rfl⟩
def Rs (vs:List V)(D:Aj): aI:=.xs fun k:V=>.xs fun v:V=>.an (.pu (vs=[.int .i64 D.act,.int .i64 D.tree,k,v])) (.an (.bK k D.k) (.bK v D.v))
theorem aJ.Rs (vs:List V)(D:Aj): aJ (Am.Rs vs D):=aJ.xs fun _=>aJ.xs fun _=>aJ.an (aJ.pu _) (aJ.an (aJ.bK _ _) (aJ.bK _ _))
section
variable {enc:TypeId×Value→H'} {W:World} {cs:List Value} {x:DataW H'×List MemPlace}
theorem WY (h:DataW.trod enc Tryz.prog W 0 (fun _=>true) true fuel 31 cs=some x)(hB:Rows.uptoBulk x.1≤B): oA W cs Rs (fun _=>True):=by
 obtain⟨xs,n,rfl,rfl,hl,hx,hf⟩:=DataW.trod_struct aa9 h
 rw[Vj] at hl
 rw[aa_] at hx
 obtain⟨f0,a0,b0,c0⟩:=Bk aba
 obtain⟨f1,a1,b1,c1⟩:=Bk abb
 obtain⟨f2,a2,b2,c2⟩:=Bk abc
 obtain⟨f3,a3,b3,c3⟩:=Bk abd
 have h0:=hf 0 f0 a0
 have h1:=hf 1 f1 a1
 have h2:=hf 2 f2 a2
 have h3:=hf 3 f3 a3
 rw[b0,c0,Vk] at h0
 rw[b1,c1,Vk] at h1
 rw[b2,c2,Vl] at h2
 rw[b3,c3,Vl] at h3
 obtain⟨v0,v1,v2,v3,rfl⟩:=Rr hl
 obtain⟨y0,y1,I,J,rfl⟩:=Rr hx
 have h0:DataW.trod enc Tryz.prog W 0 (fun _=>true) true n 3 [v0]=some y0:=h0
 have h1:DataW.trod enc Tryz.prog W 0 (fun _=>true) true n 3 [v1]=some y1:=h1
 have h2:DataW.trod enc Tryz.prog W 0 (fun _=>true) true n 29 [v2]=some I:=h2
 have h3:DataW.trod enc Tryz.prog W 0 (fun _=>true) true n 29 [v3]=some J:=h3
 obtain⟨m0,th,_,_⟩:=DataW.trod_int bP h0
 injection th with th _
 subst th
 obtain⟨m1,kR,_,_⟩:=DataW.trod_int bP h1
 injection kR with kR _
 subst kR
 rw[T2] at hB
 have e:([y0,y1,I,J].map (·.1))=[y0.1,y1.1,I.1,J.1]:=rfl
 rw[e] at hB
 have hB2:Rows.uptoBulk I.1≤B:=by
  have:=uQ (l:=[y0.1,y1.1,I.1,J.1]) (d:=I.1) (by simp)
  omega
 have hB3:Rows.uptoBulk J.1≤B:=by
  have:=uQ (l:=[y0.1,y1.1,I.1,J.1]) (d:=J.1) (by simp)
  omega
 intro c σ S hr
 obtain⟨c1,Z4,vs1,lv,r1,r2,r3,r4,r5⟩:=Mb h3 hB3 c σ S hr
 obtain⟨v,rfl,hv⟩:=FE r3
 obtain⟨c2,σ2,vs2,lk,t1,t2,t3,t4,t5⟩:=Mb h2 hB2 c1 Z4 _ r1
 obtain⟨k,rfl,hk⟩:=FE t3
 obtain⟨q1,q2⟩:=cA t2 v (r4 v (by simp)).1
 refine⟨c2,σ2,[.int .i64 m0,.int .i64 m1,k,v],⟨m0,m1,lk,lv⟩,t1.sat fun h s=>s.two (aJ.Rp _ _) (aJ.Rp _ _) fun a b k1 k2 => ?_,r2.trans t2,by simp[conc,hk,q1,hv],fun u hu => ?_,aa⟩
 ·obtain⟨k',e1,k1⟩:=k1
  obtain⟨v',e2,k2⟩:=k2
  have e1:[k]=[k']:=e1
  have e2:[v]=[v']:=e2
  injection e1 with e1 _
  injection e2 with e2 _
  subst e1
  subst e2
  exact⟨k,v,rfl,k1,k2⟩
 ·simp only[gm,jw,mL] at hu
  rcases hu with rfl|rfl|rfl|rfl
  ·exact⟨aa,rfl⟩
  ·exact⟨aa,rfl⟩
  ·exact t4 _ (by simp)
  ·exact⟨q2,(r4 _ (by simp)).2⟩
theorem T3 (h:DataW.trod enc Tryz.prog W 0 (fun _=>true) true fuel 22 cs=some x)(I:Rows.uptoBulk x.1≤B): oA W cs (Ro 4 ny) (fun xs=>xs.length≤B∧∀y∈xs,True) :=
 Rq (E:=Rs) Af Vj (by decide) aJ.Rs (fun l m=>aJ.ny m l) (fun _ _=>trivial) (fun vs x l m a b J h2=>by
  obtain⟨k,v,e,k1,k2⟩:=J
  have e:vs=[.int .i64 x.act,.int .i64 x.tree,k,v]:=e
  subst e
  exact⟨⟨⟨rfl,rfl⟩,k1,k2⟩,h2⟩) (fun n cs y hy hb=>WY hy hb) h I
end
noncomputable def N7 : List (Nat×LV):=[(116,Jj),(52,DR),(32,Ji 32)]
noncomputable def N8 : Nat→Option (List V→H→Option (V×H)):=toldP N7 qW
noncomputable abbrev CW : fB:=⟨Tryz.prog,N8⟩
theorem WZ : W N8:=WA fun x I=>by
 simp only[N7,gm,jw,mL] at I
 rcases I with rfl|rfl|rfl<;>exact⟨by decide,by decide,by decide⟩
theorem JL : gP CW:=To fun x I=>by
 simp only[N7,gm,jw,mL] at I
 rcases I with rfl|rfl|rfl
 ·exact⟨_,I8,rfl,by decide⟩
 ·exact⟨_,wm,rfl,by decide⟩
 ·exact⟨_,I9,rfl,by decide⟩
theorem T4 : WT N8:=⟨⟨⟨WZ,rfl⟩,rfl⟩,rfl⟩
theorem gQ.okW {f:FuncId}{args:List V}{h':H}{v:V}(J:gQ CW f args h v h'){w:World}(I:Rel c h w)(hw:∀x∈args,wf c x): jm Tryz.prog f args c w v h':=by
 obtain⟨N,hN⟩:=J
 exact(callF_ok (C:=CW) (AS zG JL N).1 JL hN I hw).1
theorem N9 {enc:TypeId×Value→H'}{W:World}{x:DataW H'×List MemPlace}{v0:Value}{f:FuncId}(hct:∀ {L:List Aj} {cs:List V} {dv:V} {h:H} {S:List aI},L.length≤1048576→Sat h (nm 4 dv cs::ny cs L::S)→Call CW f [dv] h fun v h'=>v=.bool true)
 (h1:DataW.trod enc Tryz.prog W 0 (fun _=>true) true fuel 22 [v0]=some x)(ZM:Rows.uptoBulk x.1≤1048576):
  Calls Tryz.prog f #[v0] W fun e w'=>e=.returned (.bool true)∧W.keptBut w' (fun _=>False)∧W.heap.size≤w'.heap.size∧∀b,b<W.heap.size→w'.heap[b]?=W.heap[b]?:=by
 obtain⟨c0,σ0,h0⟩:=Ak.zero W
 obtain⟨c,σ,vs1,da,hr,_,kR,J,hL1⟩:=T3 h1 ZM c0 σ0 [] h0
 obtain⟨av,rfl,Lv⟩:=FE kR
 obtain⟨uB,s⟩:=iC.1 hr.2.2
 obtain⟨cs,s⟩:=iC.1 s
 have s0:=s
 obtain⟨_,_,_,_,hk⟩:=s0.at (k:=0) rfl
 have e:[av]=[uB]:=hk.1
 injection e with e _
 subst e
 have s1:=s.dup (aJ.an (aJ.pu _) (aJ.an (aJ.nm _ _ _) (aJ.ny _ _)))
 have s2:=(s1.dG (B:=ny cs da) fun _ _ k=>k.2.2).ae [1]
 have s3:Sat σ (nm 4 av cs::ny cs da::[]):=s2.dG (B:=nm 4 av cs) fun _ _ k=>k.2.1
 obtain⟨v',h',OR,rfl⟩:=hct hL1.1 s3
 have I:=OR.okW hr.1 (fun x hx=>by
  rw[List.mem_singleton.1 hx]
  exact(J av (by simp)).1)
 unfold jm at I
 have ea:(([av].map (conc c)).toArray) = #[v0]:=by simp[Lv]
 rw[ea] at I
 refine Calls.mono I ?_
 rintro e w' ⟨c',rfl,_,_,hs⟩
 obtain⟨k1,k2,k3⟩:=Kz hr.2.1 hs
 exact⟨by simp[conc],k1,k2,k3⟩
end Go.Proofs.YtdonpgpfplgigaaGreat.Am
namespace Go.Proofs.YtdonpgpfplgigaaGreat.TreeKept
open Go.ChangeShapes Go.WideShapes Go.ChangeAt Go.RowKit
theorem own : ownKnob Tryz.prog.godebug=none:=by kernel_rfl
theorem laid : laidOutB Tryz.prog=true:=by kernel_rfl
theorem Z6 : Tryz.prog.readableRec 22=true:=by kernel_rfl
theorem row : (22:TypeId)<Tryz.prog.types.size:=of_decide_eq_true (by kernel_rfl)
set_option maxRecDepth 100000 in
theorem T6 (H:Type)(enc:TypeId×Value→H)(W:World)(base:Nat)(args:Array Value)(ds gs:List (DataW H))(before:List MemPlace)
 (J:∀(j:Nat) t v,Tryz.f3.params[j]?=some t→args[j]?=some v→Value.okWide Tryz.prog W .any base t v)
 (hW:DataW.Whole enc Tryz.prog Tryz.f3.params.toList Rows.treeKeptSpec.vars false W args.toList ds gs before)(hk:Rows.uptoBulkAll (ds++gs)≤1048576):
  Calls Tryz.prog 3 args W fun e W'=>∃v,e=.returned v∧Rows.treeKeptSpec.post enc Tryz.prog Tryz.f3 false true false false W args v W':=by
 have hW':=hW
 obtain⟨p,q,hA0,hV,rfl,tf,gW⟩:=hW
 have hA:DataW.TrodAll enc Tryz.prog W 0 (fun _=>true) true Tryz.f3.params.toList args.toList ds p:=hA0
 rw[Tryz.params3] at hA J
 obtain⟨v0,vs0,d0,ds0,p0,q0,GZ,rfl,rfl,h0,r0⟩:=trodAll_cons hA
 obtain⟨rfl,rfl,rfl⟩:=trodAll_nil r0
 obtain rfl:args = #[v0]:=by cases args;simp_all
 obtain⟨rfl,rfl⟩:=trodVars_none hV
 obtain⟨fuel,h0⟩:=h0
 have pI:v0.cells.toList=[v0]:=by
  have:=J 0 22 v0 rfl rfl
  simp only[Value.okWide,Tryz.underlying22,Cell.okWide,Cell.ok] at this
  split at this<;>first|rfl|exact this.elim
 have h0':=h0
 rw[pI] at h0
 have hb:Rows.uptoBulk d0≤1048576:=by
  have:=Am.uQ (l:=([d0]++([]:List (DataW H)))) (d:=d0) (by simp)
  exact Nat.le_trans this hk
 refine(Am.N9 (fun hl s=>Am.T0 Am.T4 hl s) h0 hb).mono fun e W' ⟨he,hg,hs,I⟩ => ?_
 subst he
 have cV:∀x∈p0,x.block<W.heap.size:=fun x hx=>hW'.lt x (by simp[hx])
 have abe:DataW.trod enc Tryz.prog W' 0 (fun b=>decide (b<W.heap.size)) true fuel 22 v0.cells.toList=some (d0,p0) :=
  DataW.trod_stays (kids_book laid Z6) (book_sized Z6) (fun h=>by cases h) ⟨row,book_self _⟩ h0' (fun x hx=>by
   have hl:=cV x hx
   cases x with
   |cell b off =>
    show W'.cell? ⟨b,off,none⟩=W.cell? ⟨b,off,none⟩
    unfold World.cell?
    rw[I b hl]
   |map b=>exact I b hl) (fun x hx=>by simpa using cV x hx)
 exact⟨_,rfl,⟨_,[],_,[],_,[],hW',trodAll_cons_mk (shut_bool Tryz.underlying4 _) trodAll_mk0,trodAll_cons_mk ⟨fuel,abe⟩ trodAll_mk0,rfl,World.keptBut_mono (fun _ f=>f.elim) hg,fun h=>by cases h⟩⟩
set_option maxRecDepth 100000 in
theorem lifted (os:Os)(started:os.Started)(H:Type)(enc:TypeId×Value→H)(F:Stop.Interp):
  ReturnsInHanded {} Tryz.checked os 3 .any ((Rows.OpenSpec.upto Rows.treeKeptSpec).pre6 enc Tryz.prog Tryz.f3 Rows.treeKeptUptoRow.domain false) (((Rows.OpenSpec.upto Rows.treeKeptSpec).at F).post enc Tryz.prog Tryz.f3 false true false false):=by
 refine returnsInHanded_of_cond (C:=Tryz.checked) (s:=Rows.OpenSpec.upto Rows.treeKeptSpec) (k:=Rows.uptoSmall) rfl own started (by kernel_rfl) Tryz.func3
  (OpenSpec.witness (enc:=enc) (C:=Tryz.checked) (s:=Rows.OpenSpec.upto Rows.treeKeptSpec) (k:=Rows.uptoSmall) rfl false ⟨#[], #[.slice none 0 0],[]⟩ 8 (by kernel_rfl) (by kernel_rfl) (by kernel_rfl)
   (x:=([.nil],[],[])) (by kernel_rfl) rfl (by kernel_rfl)) ?_
 intro W base args ds gs before I J _ hk _
 exact T6 H enc W base args ds gs before I J (of_decide_eq_true hk)
theorem b_ : Rows.treeKeptUptoRow.holds Tryz.pinned (Rows.OpenSpec.upto Rows.treeKeptSpec) :=
 OpenClaim.holds_of_cond 3 Tryz.f3 rfl rfl rfl rfl rfl rfl rfl ⟨rfl,rfl,rfl,rfl,rfl⟩ rfl rfl rfl rfl rfl (by kernel_rfl) Tryz.func3 (by kernel_rfl)
  (of_decide_eq_true (by kernel_rfl)) (by unfold Func.isWrapper;first|(rw[if_pos (by decide +kernel)];kernel_rfl)|(rw[if_neg (by decide +kernel)];exact⟨rfl,rfl⟩))
  (fun os started H enc _ F=>lifted os started H enc F)
theorem proved : Rows.TreeKeptUptoSaid :=
 b_
#print axioms proved
end Go.Proofs.YtdonpgpfplgigaaGreat.TreeKept
