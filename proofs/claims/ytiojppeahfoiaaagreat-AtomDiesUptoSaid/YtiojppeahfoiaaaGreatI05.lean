/- AtomDies: a part of its proof; conditions: its statement's. -/
import Derived.Test.YtiojppeahfoiaaaGreatI04
set_option linter.defProp false
namespace Go.Proofs.YtiojppeahfoiaaaGreat.Am
open Go
def tT:=@Tryz.underlying78
def yB:=@Tryz.func117
def yC:=@Tryz.underlying26
def Hl:=@Tryz.func118
def Ho:=@Tryz.func66
def Hp:=@Tryz.underlying345
variable {X Y:aS} {C:gy} {δ:Dk} {ε ε':bA} {es:cx} {Q:Ex→List (Nat×V)→H→Prop} {f:Fm} {h h₁ h' h₀:H} {e n:Int} {μ:Lg} {now fB:List (Int×List Nat)} {E:List (Nat×V)} {S:List aS} {m:List Fm} {ks:List Int} {seen b l data eO dh:List Nat} {args cs:List V} {c r mid clock k id i a q cR it im N j d g aM z tx pv nx lo acc:Nat} {o:Oper} {y:Operand} {π bC:Pl} {P:Program} {α:Type} {t kt et:TypeId} {x wh di u w kv dt t1:V}
theorem mc (l:List Nat)(b x:Nat): inL (l++[b]) x=(inL l x||Nat.beq b x):=by
 induction l with
 |nil=>simp only[eE,inL,zI];cases Nat.beq b x<;>rfl
 |cons y l I=>simp only[iU,inL,I];cases Nat.beq y x<;>simp
theorem Og : ∀ {l:List (V×V×Nat)} {e:V×V×Nat},e∈leftV seen l→e∈l∧inL seen e.2.2=false:=by
 intro l
 induction l with
 |nil=>intro e h;cases h
 |cons y l I =>
  intro e h
  simp only[leftV] at h
  cases J:inL seen y.2.2 with
  |true=>rw[J,ak] at h;exact⟨b9 _ (I h).1,(I h).2⟩
  |false =>
   rw[J,bf] at h
   rcases List.mem_cons.1 h with rfl|h
   ·exact⟨cn,J⟩
   ·exact⟨b9 _ (I h).1,(I h).2⟩
theorem Oh : ∀ {l:List (V×V×Nat)},leftV seen l=[]→∀e∈l,inL seen e.2.2=true:=by
 intro l
 induction l with
 |nil=>intro _ e he;cases he
 |cons y l J =>
  intro h e he
  simp only[leftV] at h
  cases I:inL seen y.2.2 with
  |false=>rw[I,bf] at h;cases h
  |true =>
   rw[I,ak] at h
   rcases List.mem_cons.1 he with rfl|he
   ·exact I
   ·exact J h e he
theorem Hq {b:Nat}: ∀ {l:List (V×V×Nat)},(leftV (seen++[b]) l).length≤(leftV seen l).length:=by
 intro l
 induction l with
 |nil=>exact aP _
 |cons y l I =>
  simp only[leftV,mc]
  cases inL seen y.2.2<;>cases Nat.beq b y.2.2<;>simp<;>omega
theorem QI : ∀ {l:List (V×V×Nat)} {e:V×V×Nat},e∈leftV seen l→(leftV (seen++[e.2.2]) l).length<(leftV seen l).length:=by
 intro l
 induction l with
 |nil=>intro e h;cases h
 |cons y l J =>
  intro e h
  simp only[leftV] at h
  cases I:inL seen y.2.2 with
  |true =>
   rw[I,ak] at h
   simp only[leftV,mc,I,Bool.true_or,ak]
   exact J h
  |false =>
   rw[I,bf] at h
   simp only[leftV,mc,I,zI,bf]
   rcases List.mem_cons.1 h with rfl|h
   ·rw[gx,ak]
    have:=Hq (seen:=seen) (b:=e.2.2) (l:=l)
    simp;omega
   ·cases Nat.beq e.2.2 y.2.2
    ·simp only[bf,bI];have:=J h;omega
    ·simp only[ak,bI];have:=Hq (seen:=seen) (b:=e.2.2) (l:=l);omega
theorem Oi : ∀ {l:cx} {b:Nat},fg c b l→tq c (l.map eN)=true:=by
 intro l
 induction l with
 |nil=>intro b _;rfl
 |cons e l I =>
  intro b h
  simp only[gO,eN,tq]
  rw[jD.2 h.2.1,ak]
  exact I h.2.2
theorem Jc : ∀ {l:cx} {b:Nat},fg c b l→bornRise b (l.map eN)=true:=by
 intro l
 induction l with
 |nil=>intro b _;rfl
 |cons e l I =>
  intro b h
  simp only[gO,eN,bornRise]
  rw[aZ.2 h.1,ak]
  exact I h.2.2
theorem oT : ∀ {l:cx} {b:Nat},fg c b l→∀e∈l,b≤e.2.2:=by
 intro l
 induction l with
 |nil=>intro b _ e he;cases he
 |cons y l I =>
  intro b h e he
  rcases List.mem_cons.1 he with rfl|he
  ·exact h.1
  ·have:=I h.2.2 e he;have:=h.1;omega
theorem qp : ∀ {l:cx} {b:Nat} {e:Int×V×Nat},fg c b l→e∈l→sX e.2.2 (l.map eN)=some (eN e):=by
 intro l
 induction l with
 |nil=>intro b e _ he;cases he
 |cons y l I =>
  intro b e h he
  simp only[gO,sX]
  rcases List.mem_cons.1 he with rfl|he
  ·show cond (Nat.beq e.2.2 e.2.2) _ _=_
   rw[gx,ak]
  ·have:=oT h.2.2 e he
   show cond (Nat.beq y.2.2 e.2.2) _ _=_
   rw[eF (by omega),bf]
   exact I h.2.2 he
theorem Oj : ∀(l:List Nat) (b:Nat),lastN (l++[b])=some b:=by
 intro l b
 induction l with
 |nil=>rfl
 |cons x l I =>
  cases l with
  |nil=>rfl
  |cons y l=>simpa[lastN] using I
section
variable {since b:Nat}
theorem Hr {e:Int×V×Nat}(J:T.get h.tr r=some (.iter mid since clock (seen++[e.2.2])))(hm:T.get h.tr mid=some (.map (es.map eN) clock))(I:fg clock 0 es)(he:e∈es):
  vq h (.ptr r 0)=some (.bD [.int .i64 e.1,e.2.1]):=by
 simp only[vq,gx,ak,J,hm,Jc I,jA,Oj,qp I he]
 rfl
theorem next_at (I:T.get h.tr r=some (.iter mid since clock seen))(hs:since≤clock)(hm:T.get h.tr mid=some (.map (es.map eN) clock))(J:fg since 0 es):
  nextAll h r=some (match leftV seen (es.map eN) with
   |[]=>[(.bD [.bool false],h)]
   |l=>l.map fun e=>(.bD [.bool true,e.1,e.2.1],h.put r (some (.iter mid since clock (seen++[e.2.2]))))):=by
 simp only[nextAll,I,hm,Oi J,aZ.2 hs,jA,ak]
 cases leftV seen (es.map eN)<;>rfl
theorem Ht {L:List (V×H)}(hg:T.get h.tr r=some (.iter mid since clock seen))(hs:since≤clock)(hm:T.get h.tr mid=some (.map (es.map eN) clock))(hb:fg since 0 es)(hL:nextAll h r=some L):
  ∀q∈L,(q=(.bD [.bool false],h)∧∀e∈es,inL seen e.2.2=true) ∨
   ∃e∈es,inL seen e.2.2=false∧(leftV (seen++[e.2.2]) (es.map eN)).length<(leftV seen (es.map eN)).length∧q=(.bD [.bool true,.int .i64 e.1,e.2.1],h.put r (some (.iter mid since clock (seen++[e.2.2])))):=by
 rw[next_at hg hs hm hb] at hL
 simp only[aG] at hL
 subst hL
 intro q U
 cases J:leftV seen (es.map eN) with
 |nil =>
  rw[J] at U
  refine .inl ⟨List.mem_singleton.1 U,fun e he => ?_⟩
  exact Oh J (eN e) (lP he)
 |cons y l =>
  rw[J] at U
  obtain⟨e',I,rfl⟩:=List.mem_map.1 U
  rw[←J] at I
  obtain⟨h1,h2⟩:=Og I
  obtain⟨e,he,rfl⟩:=List.mem_map.1 h1
  have h3:=QI I
  rw[J] at h3
  exact .inr ⟨e,he,h2,h3,rfl⟩
end
open Classical in
noncomputable def mP (P:Program)(f:FuncId)(ja:List V→H→V×H→Prop)(args:List V)(h:H): Option (V×H) :=
 if I:∃r,ja args h r∧∀(c:Ctx) (w:World),Rel c h w→(∀x∈args,wf c x)→fT P f args c w r.1 r.2 then some I.choose else none
theorem yD {f : FuncId} {ja : List V → H → V × H → Prop} (J : ∃ fn, P.funcs[f]? = some fn ∧ fn.body.isSome = true ∧ (fn.name == "runtime.NumGoroutine") = false) : DI P f (mP P f ja) := by
 refine .inl ⟨J, fun args σ v ee I c w h hw => ?_⟩
 unfold mP at I
 split at I
 ·rename_i U
  have := U.choose_spec.2 c w h hw
  injection I with I
  rw [I] at this
  exact this
 ·cases I
theorem yE {f:FuncId}{ja:List V→H→V×H→Prop}{r:V×H}(J:ja args h r)(U:∀(c:Ctx) (w:World),Rel c h w→(∀x∈args,wf c x)→fT P f args c w r.1 r.2):
  ∃r,mP P f ja args h=some r∧ja args h r:=by
 have I:∃r,ja args h r∧∀(c:Ctx) (w:World),Rel c h w→(∀x∈args,wf c x)→fT P f args c w r.1 r.2:=⟨r,J,U⟩
 refine⟨I.choose,?_,I.choose_spec.1⟩
 unfold mP
 rw[dif_pos I]
noncomputable def CN (f:Nat): Option (List V→H→Option (V×H)) :=
 cond (Nat.beq f 106) (some (toldSorted Aj)) (cond (Nat.beq f 217) (some toldMore) none)
noncomputable abbrev CB : gy:=⟨Tryz.prog,CN⟩
theorem ir : Tryz.prog.follows .mixedOrders=true:=by kernel_rfl
theorem fI : ig CB:=by
 intro f g I
 simp only[CB,CN] at I ⊢
 by_cases U:f=106
 ·subst U
  rw[qO rfl,ak] at I
  simp only[aG] at I
  subst I
  exact .inl ⟨⟨_,Tryz.func106,rfl,by decide⟩,fun args σ v ee J c w h _=>FB bK NI J h⟩
 ·rw[eF U,bf] at I
  by_cases h2:f=217
  ·subst h2
   rw[qO rfl,ak] at I
   simp only[aG] at I
   subst I
   exact .inl ⟨⟨_,BY,rfl,by decide⟩,fun args σ v ee J c w h hw=>I1 (C:=CB) rfl ir J h hw⟩
  ·rw[eF h2,bf] at I
   cases I
theorem W.base : W CN:=by
 refine⟨fun f I => ?_,rfl,rfl⟩
 have J:f≠106:=fun e=>by subst e;revert I;decide
 have U:f≠217:=fun e=>by subst e;revert I;decide
 simp only[CN,eF J,eF U,bf]
theorem ij.det {f:FuncId}{v v':V}{I:H}(a:ij C f args h v h₁)(b:ij C f args h v' I): v=v'∧h₁=I:=by
 obtain⟨N,U⟩:=a
 obtain⟨M,hM⟩:=b
 have e1:=sJ (gz (o9 N M)) U
 have J:=sJ (gz (o8 N M)) hM
 rw[e1] at J
 simp only[aG,bE] at J
 exact J
section
variable {off n:Nat} {st:Bool} {v:V}
theorem Sat.Wv (s:Sat h S)(U:getA S k=some (pt id (.cells n cs false)))(hs:bB P t=some 1)(hl:cs.length=n)(ho:off<n)(hv:v.cells=[v])(I:storable v=true):
  ic P h t (.ptr id off) v=some (h.put id (some (.cells n (cs.set off v) false))):=by
 simp only[ic,hs,hv,bI,dz,jB,jC,I,Bool.and_true]
 rw[show Nat.beq (0+1) 1=true from rfl,ak]
 simp only[wrN,s.row U,bI,dz]
 rw[aZ.2 (show off+(0+1)≤n by omega),ak]
 congr 3
 rw[JM,aE (by omega)]
 cases J:(Nat.beq off 0&&Nat.beq (0+1) n) with
 |true =>
  simp only[bS,beq_iff] at J
  obtain⟨rfl,hn⟩:=J
  rw[ak]
  have:cs.drop (0+1)=[]:=kL (by omega)
  simp[this]
 |false=>rw[bf];rfl
end
theorem OpR.entry {x:Operand}{v r:V}(I:o.op=.entry x)(J:bl E x=some v)(U:vq h v=some r): OpR C E h o fun w h'=>w=r∧h'=h :=
 ⟨r,h,⟨rfl,rfl⟩,fun env hE=>⟨0,by simp only[evOp,I,bU hE J,U,bz]⟩⟩
theorem OpR.range {x:Operand}{v r:V}(I:o.op=.range t x)(J:bl E x=some v)(U:rangeV C.P h t v=some (r,h₁)): OpR C E h o fun w h'=>w=r∧h'=h₁ :=
 ⟨r,h₁,⟨rfl,rfl⟩,fun env hE=>⟨0,by simp only[evOp,I,bU hE J,U]⟩⟩
def doneRow (seen:List Nat): cx→List V→List V
 |[],row=>row
 |e::l,row=>doneRow seen l (cond (inL seen e.2.2) (row.set e.1.toNat e.2.1) row)
def nC : cx→List V→List V
 |[],row=>row
 |e::l,row=>nC l (row.set e.1.toNat e.2.1)
theorem Jd : ∀ {l:cx} {row:List V},(∀e∈l,inL seen e.2.2=true)→doneRow seen l row=nC l row:=by
 intro l
 induction l with
 |nil=>intro row _;rfl
 |cons e l J =>
  intro row h
  simp only[doneRow,nC,h e cn,ak]
  exact J fun U I=>h U (b9 _ I)
theorem Je : ∀ {l:cx} {row:List V},doneRow [] l row=row:=by
 intro l
 induction l with
 |nil=>intro row;rfl
 |cons e l I=>intro row;simp only[doneRow,inL,bf];exact I
theorem Jf : ∀ {l:cx} {row:List V},(doneRow seen l row).length=row.length:=by
 intro l
 induction l with
 |nil=>intro row;rfl
 |cons e l I=>intro row;simp only[doneRow];rw[I];cases inL seen e.2.2<;>simp
theorem Jg {v:V}: ∀ {l:cx} {row:List V},(∀e∈l,e.1.toNat≠i)→doneRow seen l (row.set i v)=(doneRow seen l row).set i v:=by
 intro l
 induction l with
 |nil=>intro row _;rfl
 |cons e l U =>
  intro row h
  simp only[doneRow]
  have h1:=h e cn
  cases inL seen e.2.2 with
  |true=>rw[ak,ak,List.set_comm _ _ (qN h1)];exact U fun J I=>h J (b9 _ I)
  |false=>exact U fun J I=>h J (b9 _ I)
theorem FE {b:Nat}: ∀ {l:cx} {row:List V},(∀e∈l,e.2.2≠b)→doneRow (seen++[b]) l row=doneRow seen l row:=by
 intro l
 induction l with
 |nil=>intro row _;rfl
 |cons e l J =>
  intro row h
  simp only[doneRow,mc,eF (qN (h e cn)),Bool.or_false]
  exact J fun U I=>h U (b9 _ I)
theorem Hu : ∀ {l:cx} {b:Nat} {row:List V} {e:Int×V×Nat},fg c b l→(l.map fun e=>e.1.toNat).Nodup→e∈l→inL seen e.2.2=false →
  doneRow (seen++[e.2.2]) l row=(doneRow seen l row).set e.1.toNat e.2.1:=by
 intro l
 induction l with
 |nil=>intro b row e _ _ he;cases he
 |cons y l ih =>
  intro b row e J U he hs
  simp only[gO,Dx] at U
  rcases List.mem_cons.1 he with rfl|he
  ·simp only[doneRow,mc,hs,gx,Bool.or_true,ak,bf]
   rw[FE fun e' I=>by have:=oT J.2.2 e' I;omega]
   exact Jg fun e' I hq=>U.1 (hq ▸ lP (f:=fun e:Int×V×Nat=>e.1.toNat) I)
  ·have:=oT J.2.2 e he
   simp only[doneRow,mc,eF (show e.2.2≠y.2.2 by omega),Bool.or_false]
   exact ih J.2.2 U.2 he hs
def laidP : List (Int×List Nat)→List (Option (List Nat))→List (Option (List Nat))
 |[],m=>m
 |e::l,m=>laidP l (m.set e.1.toNat (some e.2))
theorem mB : ∀ {l:List (Int×List Nat)} {m:List (Option (List Nat))},(laidP l m).length=m.length:=by
 intro l
 induction l with
 |nil=>intro row;rfl
 |cons e l I=>intro row;simp only[laidP];rw[I];simp
theorem Jh {a b:PM}: ∀ {es:cx} {m:List (Int×List Nat)} {row:List V} {pg:List (Option (List Nat))},(eT (fun v x=>.cm v x) es m).p a b→(∀e∈m,e.2≠[])→(each k_ row pg).p a b→(each k_ (nC es row) (laidP m pg)).p a b:=by
 intro es
 induction es with
 |nil=>intro m row pg h _ hr;cases m with
  |nil=>exact hr
  |cons x m=>exact h.elim
 |cons e es ih=>intro m row pg h I hr;cases m with
  |nil=>exact h.elim
  |cons x m =>
   obtain⟨⟨h1,h2⟩,h3⟩:=h
   simp only[nC,laidP]
   have hk:e.1=x.1:=h1
   refine ih h3 (fun e he=>I e (b9 _ he)) ?_
   rw[hk]
   refine Be hr ⟨?_,h2⟩
   rintro hv
   have J:ViewM b e.2.1 x.2:=h2
   rw[hv] at J
   rcases J.2 with⟨_,U⟩|U
   ·exact I x cn U
   ·obtain⟨_,_,_,_,_,_,U,_⟩:=U
    cases U
def Dk.sync (δ:Dk): Dk:={ δ with ai:=laidP δ.now δ.ai,waiting:=[],now:=[] }
section
variable {told:dI} {p:Nat} {v:V}
noncomputable def CO (h:H)(p:Nat)(cs:List V)(im N:Nat)(row:List V)(mid:Nat)(es:cx)(clock:Nat): H :=
 ((((h.new (.iter mid clock clock [])).put im (some (.cells N (nC es row) false))).put p (some (.cells 12 (cs.set 2 .bw) false))).put mid (some (.map [] clock))).put h.next none
def Eb (args:List V)(h:H)(r:V×H): Prop:=∃p cs,args=[.ptr p 0]∧T.get h.tr p=some (.cells 12 cs false) ∧
 ((nth cs 9=some (.bool true)∧r=(.int .i64 9,h))∨(nth cs 9=some (.bool false)∧∃v1 I,ij CB 188 [.ptr p 0] h v1 I ∧
  ((v1=.bool false∧r=(.int .i64 9,I))∨(v1=.bool true∧∃cs im N row mid es clock,T.get I.tr p=some (.cells 12 cs false)∧nth cs 1=some (.sl im 0 N (.exact N))∧nth cs 3=some (.map mid) ∧
   T.get I.tr im=some (.cells N row false)∧T.get I.tr mid=some (.map (es.map eN) clock)∧r=(.int .i64 0,CO I p cs im N row mid es clock)))))
structure Ec (h h':H)(X:List Nat): Prop where
 next:h'.next=h.next
 get:∀i,i∉X→T.get h'.tr i=T.get h.tr i
theorem Ec.put {X:List Nat}(s:Ec h h' X){o:Option Obj}(hi:i∈X): Ec h (h'.put i o) X :=
 ⟨s.next,fun j I=>by rw[dO,ah (fun(e:j=i)=>I (e ▸ hi))];exact s.get j I⟩
theorem yF {f:V→α→aS}{a b:PM}: ∀ {l:cx} {m:List (Int×α)},(eT f l m).p a b→∀e∈l,∃x,(e.1,x)∈m∧(f e.2.1 x).p a b:=by
 intro l
 induction l with
 |nil=>intro m _ e he;cases he
 |cons y l I=>intro m h e he;cases m with
  |nil=>exact h.elim
  |cons x m =>
   obtain⟨⟨J,U⟩,h3⟩:=h
   rcases List.mem_cons.1 he with rfl|he
   ·exact⟨x.2,by rw[show e.1=x.1 from J];exact cn,U⟩
   ·obtain⟨z,k1,k2⟩:=I h3 e he
    exact⟨z,b9 _ k1,k2⟩
noncomputable def syA : Code:=cC [0] ((Tryz.f117.body).getD .skip)
noncomputable def syB : Code:=cC [1,0] ((Tryz.f117.body).getD .skip)
noncomputable def syC : Code:=cC [1,1,0,0] ((Tryz.f117.body).getD .skip)
noncomputable def Ww : Code:=cC [1,1,0,1,0,0,0] ((Tryz.f117.body).getD .skip)
noncomputable def ZK : Code:=cC [1,1,0,1,0,0,1,1,0] ((Tryz.f117.body).getD .skip)
noncomputable def syE : Code:=cC [1,1,1] ((Tryz.f117.body).getD .skip)
theorem Bl : Tryz.f117.body=some (.seq syA (.seq syB (.seq (.seq syC (.block 0 (.loop (.seq Ww (.seq (.cond (.tmp 20) .skip (.exit 0)) (.block 1 ZK)))))) syE))):=rfl
theorem Ua : ∃id I J,Ww=.region id #[I,J] false∧I.guard=none∧J.guard=none∧I.op=.next (.tmp 18) false∧I.dst=some 19∧J.op=.extract (.tmp 19) 0∧J.dst=some 20:=⟨_,_,_,rfl,rfl,rfl,rfl,rfl,rfl,rfl⟩
def ZL (h₀:H)(p it im N mid clock:Nat)(cs row:List V)(es:cx)(S:List aS)(j:Nat)(E:List (Nat×V))(h:H): Prop :=
 ∃seen,Has E [(0,.ptr p 0),(18,.ptr it 0)]∧j=(leftV seen (es.map eN)).length∧Ec h₀ h [it,im] ∧
  Sat h (pt it (.iter mid clock clock seen)::pt p (.cells 12 cs false)::pt im (.cells N (doneRow seen es row) false)::fV mid es clock::S)
theorem Ol {row:List V}(xp:nth cs 1=some (.sl im 0 N (.exact N)))(hl:row.length=N)(J:fg clock 0 es)(hn:(es.map fun e=>e.1.toNat).Nodup)
 (hk:∀e∈es,0≤e.1∧e.1<N)(hv:∀e∈es,e.2.1.cells=[e.2.1]∧storable e.2.1=true)(h0:ZL h₀ p it im N mid clock cs row es S j E h):
  WPO CB 38 (.loop (.seq Ww (.seq (.cond (.tmp 20) .skip (.exit 0)) (.block 1 ZK)))) E h fun ex E' h'=>ex=.exit 0∧Has E' [(0,.ptr p 0)]∧Ec h₀ h' [it,im] ∧
   ∃seen,Sat h' (pt it (.iter mid clock clock seen)::pt p (.cells 12 cs false)::pt im (.cells N (nC es row) false)::fV mid es clock::S):=by
 refine WPO.loop (ZL h₀ p it im N mid clock cs row es S) ?_ h0
 rintro j E h ⟨seen,U,rfl,hs,s⟩
 have g1:=s.row (k:=0) rfl
 have g2:=s.row (k:=3) rfl
 obtain⟨id,To,Tp,q0,q1,q2,q3,q4,q5,q6⟩:=Ua
 refine WPO.seq ?_
 rw[q0]
 have hL:=next_at g1 (aP _) g2 J
 refine WPO.next ir fI q1 q2 q3 q4 q5 rfl q6 rfl rfl (r:=it) ?_ hL fun q hq => ?_
 ·exact U.2.1
 ·rcases Ht g1 (aP _) g2 J hL q hq with⟨rfl,I⟩|⟨e,he,SL,b8,rfl⟩
  ·refine⟨.bool false,[],rfl,?_⟩
   refine WPO.seq (WPO.cond (t:=false) rfl ?_)
   refine WPO.of ir fI (WP.exit ?_)
   refine⟨rfl,⟨U.1,aa⟩,hs,seen,?_⟩
   rw[←Jd I]
   exact s
  ·refine⟨.bool true,_,rfl,?_⟩
   refine WPO.seq (WPO.cond (t:=true) rfl ?_)
   refine WPO.of ir fI (WP.skip ?_)
   refine WPO.block (WPO.of ir fI ?_)
   have s:=s.put (o':=.iter mid clock clock (seen++[e.2.2])) (k:=0) rfl
   have hs:=hs.put (i:=it) (o:=some (.iter mid clock clock (seen++[e.2.2]))) cn
   generalize h.put it (some (.iter mid clock clock (seen++[e.2.2])))=h' at s hs
   have g1:=s.row (k:=0) rfl
   have g2:=s.row (k:=3) rfl
   refine WP.has (F:=[(0,.ptr p 0),(18,.ptr it 0),(20,.bool true)]) ⟨U.1,U.2.1,rfl,aa⟩ (zg rfl (ay.any rfl rfl rfl (OpR.entry rfl rfl (Hr g1 g2 J he)) ?_))
   rintro v h ⟨rfl,rfl⟩
   refine zk 8 rfl (zf rfl (mV _ _) (zl rfl (s.ld (k:=1) rfl rD xp) (zk 2 rfl ?_)))
   obtain⟨k1,k2⟩:=hk e he
   refine zo rfl (dD (r:=.ptr im e.1.toNat) rfl rfl (by rw[Sn,show(decide (0≤e.1)&&decide (e.1<(N:Int)))=true by simp;omega,ak];simp)) ?_
   have e1:=s.Wv (P:=Tryz.prog) (k:=2) (t:=23) (off:=e.1.toNat) rfl ju (by rw[Jf];exact hl) (by omega) (hv e he).1 (hv e he).2
   have s1:=s.put (o':=.cells N ((doneRow seen es row).set e.1.toNat e.2.1) false) (k:=2) rfl
   refine ay.R8 rfl rfl (vF rfl rfl e1) (zv ?_)
   refine⟨_,b8,seen++[e.2.2],⟨rfl,rfl,aa⟩,rfl,hs.put (by simp),?_⟩
   rw[Hu J hn he SL]
   exact s1
theorem QJ {row:List V}(hs:Ec (h₁.new (.iter mid clock clock [])) h' [h₁.next,im])(hi:T.get h'.tr im=some (.cells N (nC es row) false))(hp:p≠im)(hm:mid≠im):
  (CO h₁ p cs im N row mid es clock).next=((h'.put p (some (.cells 12 (cs.set 2 .bw) false))).put mid (some (.map [] clock))).next ∧
  ∀id o,T.get (CO h₁ p cs im N row mid es clock).tr id=some o→T.get ((h'.put p (some (.cells 12 (cs.set 2 .bw) false))).put mid (some (.map [] clock))).tr id=some o:=by
 refine⟨hs.next.symm,fun id o ho => ?_⟩
 unfold CO at ho
 rw[dO] at ho
 by_cases J:id=h₁.next
 ·rw[aE J] at ho;cases ho
 ·rw[ah J,dO] at ho
  rw[dO]
  by_cases U:id=mid
  ·rw[aE U] at ho ⊢;exact ho
  ·rw[ah U,dO] at ho
   rw[ah U,dO]
   by_cases h3:id=p
   ·rw[aE h3] at ho ⊢;exact ho
   ·rw[ah h3,dO] at ho
    rw[ah h3]
    by_cases I:id=im
    ·rw[aE I] at ho;rw[I,hi];exact ho
    ·rw[ah I] at ho
     rw[hs.get id (by simp[J,I])]
     exact ho
theorem QK {es:List (V×V×Nat)}(I:T.get h.tr mid=some (.map es c))(hu:P.underlying t=some (.map kt et)):
  ∃v h₁,builtinV P h .clear #[t] [.map mid]=some (v,h₁)∧(fun(_:V) (h₁:H)=>h₁=h.put mid (some (.map [] c))) v h₁ :=
 ⟨cF,_,by simp only[builtinV,clearV,hu,I];rfl,rfl⟩
theorem Om (s:Sat h (aD p δ::S))(Bj:δ.Ok)(hk:∀e∈δ.now,0≤e.1∧e.1<δ.ai.length):
  ∃r,Eb [.ptr p 0] h r∧∀(c:Ctx) (w:World),Rel c h w→(∀x∈[V.ptr p 0],wf c x)→fT Tryz.prog 117 [.ptr p 0] c w r.1 r.2:=by
 obtain⟨pg,wt,nw,lg,mk,tn,tl,ops,s1⟩:=bp.1 s
 have gp:=s1.row (k:=0) rfl
 cases hd:δ.dead with
 |true =>
  refine⟨(.int .i64 9,h),⟨p,_,rfl,gp,.inl ⟨by rw[hd];rfl,rfl⟩⟩,fun c w hr ha => ?_⟩
  refine fT.CM (C:=CB) (args:=[.ptr p 0]) yB Bl (show 1≤Tryz.f117.ntmps by decide) ?_ hr ha
  refine WPO.seq (WPO.of ir fI ?_)
  have s:=s1
  refine zr rfl (za rfl (zv ?_))
  refine WPO.seq (WPO.of ir fI ?_)
  exact zK 4 rfl (zf rfl (ji _ _) (zt rfl (aT rfl (s.ld (k:=0) rfl jQ rfl)) (hd) (zk 11 rfl (WP.ret ⟨aa,ny rfl,rfl,fun _ _ h=>h⟩))))
 |false =>
  obtain⟨v1,J,B5,hR⟩:=mz W.base s Bj.aA
  have I:Call CB 188 [.ptr p 0] h (fun v' h'=>v'=v1∧h'=J):=⟨v1,J,B5,rfl,rfl⟩
  rcases hR with⟨h0,rfl,s2⟩|⟨h0,rfl,s2⟩
  ·refine⟨(.int .i64 9,J),⟨p,_,rfl,gp,.inr ⟨by rw[hd];rfl,_,J,B5,.inl ⟨rfl,rfl⟩⟩⟩,fun c w hr ha => ?_⟩
   refine fT.CM (C:=CB) (args:=[.ptr p 0]) yB Bl (show 1≤Tryz.f117.ntmps by decide) ?_ hr ha
   refine WPO.seq (WPO.of ir fI ?_)
   have s:=s1
   refine zr rfl (za rfl (zv ?_))
   refine WPO.seq (WPO.of ir fI ?_)
   refine zK 4 rfl (zf rfl (ji _ _) (zh rfl (aT rfl (s.ld (k:=0) rfl jQ rfl)) (hd) (zk 2 rfl (zc rfl (I) ?_))))
   rintro v h ⟨rfl,rfl⟩
   exact zo rfl (dQ rfl rfl) (zk 7 rfl (WP.ret ⟨aa,ny rfl,rfl,fun _ _ h=>h⟩))
  ·obtain⟨pg,wt,nw,lg,mk,tn,tl,ops,s3⟩:=bp.1 s2
   obtain⟨im,row,rfl,s4⟩:=gq.1 (s3.ae [1])
   obtain⟨mid,es,clock,rfl,hb,hn,s5⟩:=eB.1 (s4.ae [4])
   dsimp only[bringA,getA,aQ] at s5
   have s6:=s5.ae [4,2,0,0,0,0]
   dsimp only[bringA,getA,aQ] at s6
   have gp1:=s6.row (k:=0) rfl
   have gi:=s6.row (k:=1) rfl
   have gm:=s6.row (k:=2) rfl
   obtain⟨a,b,_,_,q3⟩:=s6.at (k:=3) rfl
   obtain⟨a',b',_,_,q4⟩:=s6.at (k:=4) rfl
   have tI:row.length=δ.cQ.ai.length:=oR q4
   have Pv:=sM q3
   have Hv:∀e∈es,0≤e.1∧e.1<(δ.cQ.ai.length:Int):=fun e he=>by
    obtain⟨x,k1,_⟩:=yF q3 e he
    exact hk _ k1
   have fM:∀e∈es,e.2.1.cells=[e.2.1]∧storable e.2.1=true:=fun e he=>by
    obtain⟨x,_,k2⟩:=yF q3 e he
    have k3:ViewM b e.2.1 x:=k2
    rcases k3.2 with⟨k4|⟨_,k4⟩,_⟩|⟨_,_,_,_,_,_,k4,_⟩
    ·rw[k4];exact⟨rfl,rfl⟩
    ·rw[k4];exact⟨rfl,rfl⟩
    ·rw[k4];exact⟨rfl,rfl⟩
   have mL:(es.map fun e=>e.1.toNat).Nodup:=by
    have J:(es.map (·.1)).Nodup:=by rw[Pv];exact hn
    rw[List.nodup_iff_pairwise_ne,List.pairwise_map] at J ⊢
    refine(List.pairwise_iff_forall_sublist.2 fun {x y} Wx => ?_)
    have h2:=(List.pairwise_iff_forall_sublist.1 J) Wx
    have hx:=(Hv x (Wx.subset cn)).1
    have hy:=(Hv y (Wx.subset (b9 _ cn))).1
    omega
   refine⟨(.int .i64 0,CO J p _ im δ.cQ.ai.length row mid es clock),⟨p,_,rfl,gp,.inr ⟨by rw[hd];rfl,_,J,B5,.inr ⟨rfl,_,im,_,row,mid,es,clock,gp1,rfl,rfl,gi,gm,rfl⟩⟩⟩,fun c w hr ha => ?_⟩
   refine fT.CM (C:=CB) (args:=[.ptr p 0]) yB Bl (show 1≤Tryz.f117.ntmps by decide) ?_ hr ha
   refine WPO.seq (WPO.of ir fI ?_)
   have s:=s1
   refine zr rfl (za rfl (zv ?_))
   refine WPO.seq (WPO.of ir fI ?_)
   refine zK 4 rfl (zf rfl (ji _ _) (zh rfl (aT rfl (s.ld (k:=0) rfl jQ rfl)) (hd) (zk 2 rfl (zc rfl (I) ?_))))
   rintro v h ⟨rfl,rfl⟩
   refine zo rfl (dQ rfl rfl) (zp rfl (zv (zj rfl (WP.skip ?_))))
   refine WPO.seq (WPO.seq (WPO.of ir fI ?_))
   have s:=s6
   refine zK 3 rfl (zY s 0 Ae jF rfl (ay.any rfl rfl rfl (OpR.range rfl rfl (show rangeV Tryz.prog h 108 (.map mid)=some (.ptr h.next 0,h.new (.iter mid clock clock [])) by simp only[rangeV,kZ,gm])) ?_))
   rintro v h' ⟨rfl,rfl⟩
   refine zv ?_
   have s7:=s.new (.iter mid clock clock [])
   refine WPO.block ((Ol (row:=row) (es:=es) (S:=_) rfl tI hb mL Hv fM ⟨[],⟨rfl,rfl,aa⟩,rfl,⟨rfl,fun _ _=>rfl⟩,by rw[Je];exact s7⟩).mono ?_)
   rintro ex E' h' ⟨rfl,fW,hs,seen,s⟩
   refine WPO.of ir fI (WP.has fW ?_)
   have e1:=s.Wv (P:=Tryz.prog) (k:=1) (t:=107) (off:=2) (v:=.bw) rfl Sq rfl (by decide) rfl rfl
   have s8:=s.put (o':=.cells 12 (List.set (uu δ.cQ.room (.sl im 0 δ.cQ.ai.length (.exact δ.cQ.ai.length)) wt (.map mid) lg δ.cQ.aH mk δ.cQ.aA ops δ.cQ.dead tn tl) 2 .bw) false) (k:=1) rfl
   have p_:p≠im:=(s.ae [1,1]).ne
   have hnm:mid≠im:=(s.ae [3,2]).ne
   have gi:=s.row (k:=2) rfl
   have U:=QJ (p:=p) (cs:=(uu δ.cQ.room (.sl im 0 δ.cQ.ai.length (.exact δ.cQ.ai.length)) wt (.map mid) lg δ.cQ.aH mk δ.cQ.aA ops δ.cQ.dead tn tl)) hs gi p_ hnm
   refine zK 4 rfl (zf rfl (tg _ _) (ay.R8 rfl rfl (vF rfl rfl e1) ?_))
   have s:=s8
   have gm8:=s.row (k:=3) rfl
   refine zk 5 rfl (zY s 1 Ae jF rfl (ay.ik rfl rfl (OpR.builtin rfl rfl rfl (QK gm8 kZ)) ?_))
   rintro v h'' rfl
   exact zk 5 rfl (WP.ret ⟨aa,ny rfl,U.1,U.2⟩)
end
def n_ : V→Bool
 |.agg [_,.bool b]=>b
 |_=>true
def nj (seen:List Nat)(e:Int×V×Nat): Bool := !inL seen e.2.2||n_ e.2.1
theorem L4 : ∀ {l:cx},leftV seen ((l.filter (nj seen)).map eN)=leftV seen (l.map eN):=by
 intro l
 induction l<;>grind[eN,nj,leftV]
theorem L5 {b:Nat}: ∀ {l:cx},(∀e∈l,e.2.2≠b)→leftV (seen++[b]) (l.map eN)=leftV seen (l.map eN):=by
 intro l
 induction l<;>grind[eN,leftV,mc,eF]
theorem L6 : ∀ {l:cx} {b:Nat} {e:Int×V×Nat},fg c b l→e∈l→inL seen e.2.2=false→(leftV (seen++[e.2.2]) (l.map eN)).length+1=(leftV seen (l.map eN)).length:=by
 intro l
 induction l with
 |nil=>simp
 |cons y l U =>
  intro b e I he hs
  have hm:(eN y).2.2=y.2.2:=rfl
  rcases List.mem_cons.1 he with rfl|he
  ·simp only[gO,leftV,hm,mc,hs,gx,Bool.or_true,ak,bf,bI]
   rw[L5 fun e' J=>by have:=oT I.2.2 e' J;omega]
  ·have:=oT I.2.2 e he
   have:=U I.2.2 he hs
   grind[leftV,mc,eF]
theorem QL : ∀ {l:cx},(∀e∈l,inL seen e.2.2=true)→l.filter (nj seen)=l.filter (fun e=>n_ e.2.1):=by
 grind[List.filter_congr,nj]
theorem QM {l:cx}: l.filter (nj [])=l:=List.filter_eq_self.2 fun e _=>rfl
theorem QN {l:cx}{e:Int×V×Nat}{b:Nat}(U:fg c b l)(he:e∈l)(hf:n_ e.2.1=true): l.filter (nj (seen++[e.2.2]))=l.filter (nj seen):=by
 refine List.filter_congr fun e' J => ?_
 simp only[nj,mc]
 by_cases h:e.2.2=e'.2.2
 ·have I:=qp U he
  have h2:=qp U J
  rw[h,h2] at I
  have h3:e'.2.1=e.2.1:=by injection I with I;injection I with _ I;rw[I]
  rw[h3,hf];simp
 ·rw[eF h,Bool.or_false]
theorem Ub : ∀ {l:cx},(l.map (·.1)).Nodup→m8 n l=l.filter (fun e=>decide (e.1≠n)):=by
 intro l
 induction l<;>grind[m8,List.filter_eq_self]
theorem Uc {l:cx}{e:Int×V×Nat}{b:Nat}(U:fg c b l)(hn:(l.map (·.1)).Nodup)(he:e∈l)(hf:n_ e.2.1=false)(hs:inL seen e.2.2=false):
  l.filter (nj (seen++[e.2.2]))=m8 e.1 (l.filter (nj seen)):=by
 rw[Ub (hn.sublist ((List.filter_sublist).map _)),List.filter_filter]
 refine List.filter_congr fun I BW => ?_
 simp only[nj,mc]
 have abO:e.1=I.1↔e.2.2=I.2.2:=by
  have key:∀ {l:cx} {b:Nat},fg c b l→(l.map (·.1)).Nodup→e∈l→I∈l→(e.1=I.1↔e.2.2=I.2.2):=by
   intro l
   induction l with
   |nil=>simp
   |cons y l ih =>
    intro b U hn J h2
    simp only[gO,Dx] at hn
    rcases List.mem_cons.1 J with q1|h3<;>rcases List.mem_cons.1 h2 with q2|h4
    ·grind
    ·have:=oT U.2.2 I h4
     grind
    ·have:=oT U.2.2 e h3
     grind
    ·exact ih U.2.2 hn.2 h3 h4
  exact key U hn he BW
 by_cases h:e.2.2=I.2.2
 ·have J:=qp U he
  have h2:=qp U BW
  rw[h,h2] at J
  have h3:I.2.1=e.2.1:=by injection J with J;injection J with _ J;rw[J]
  grind[Nat.beq_refl]
 ·grind[eF]
theorem yG {f:Int×V×Nat→Bool}: ∀ {l:cx} {b:Nat},fg c b l→fg c b (l.filter f):=by
 intro l
 induction l with
 |nil=>simp
 |cons e l I =>
  intro b h
  simp only[Du]
  split
  ·exact⟨h.1,h.2.1,I h.2.2⟩
  ·exact Ct (by have:=h.1;omega) (I h.2.2)
section
variable {told:dI} {p:Nat} {v:V}
theorem Ys {n:Nat}{l:List V}(J:T.get h.tr id=some (.cells n cs false))(hs:bB P t=some l.length)(U:cs.length=n)(hn:l.length=n)(I:l.all storable=true):
  ic P h t (.ptr id 0) (.agg l)=some (h.put id (some (.cells n l false))):=by
 grind[ic,V.cells,Nat.beq_refl,wrN,aZ]
theorem Ud {k:IntKind}{l:cx}{u:TypeId}(s:Sat h S)(U:getA S j=some (fV id l c))(hu:P.underlying t=some (.map kt et))(hk:P.underlying kt=some (.int k)):
  ∃v h',builtinV P h .delete #[t,u] [.map id,.int .i64 n]=some (v,h')∧(fun(_:V) (h':H)=>h'.next=h.next∧(∀i,i≠id→T.get h'.tr i=T.get h.tr i)∧Sat h' (setA S j (fV id (m8 n l) c))) v h':=by
 have hg:=s.row U
 have key:∃h',mU P h t (.map id) (.int .i64 n)=some h'∧h'.next=h.next∧(∀i,i≠id→T.get h'.tr i=T.get h.tr i)∧Sat h' (setA S j (fV id (m8 n l) c)):=by
  obtain⟨h',I,J⟩:=s.delete (n:=n) U hu hk
  refine⟨h',I,?_⟩
  simp only[mU,hu,hk,hg,keyBeq,dL,ak,qX] at I
  cases hq:idxE n l 0 with
  |none =>
   grind
  |some q =>
   rw[hq] at I
   simp only[aG] at I
   subst I
   exact⟨rfl,fun i hi=>by rw[dO,ah hi],J⟩
 obtain⟨h',I,J⟩:=key
 refine⟨.bD [],h',?_,J⟩<;>grind[builtinV]
theorem QO (I:W told){a:Int}{b:Bool}: Call ⟨Tryz.prog,told⟩ 119 [.int .i64 n,.agg [.int .u64 a,.bool b]] h fun v h'=>v=.bool (!b)∧h'=newRow h [.int .u64 a,.bool b]:=by
 refine Call.of_wp (I.free _ rfl) Tryz.func119 rfl rfl (zg rfl (zo rfl (gP rfl rfl) (zk 4 rfl (zf rfl (DY _ _) (zl rfl (GG (off:=1) (n:=2) (cs:=[.int .u64 a,.bool b]) (st:=false) jQ (by grind[newRow,V.cells,ga]) rfl) ?_)))))
 exact zo rfl (dQ rfl rfl) (zk 2 rfl (WP.ret ⟨aa,_,rfl,rfl,rfl⟩))
noncomputable def dfA : Code:=cC [0] ((Tryz.f118.body).getD .skip)
noncomputable def Wy : Code:=cC [1,0,0,0] ((Tryz.f118.body).getD .skip)
noncomputable def ZM : Code:=cC [1,0,0,1,1,0] ((Tryz.f118.body).getD .skip)
theorem QS : Tryz.f118.body=some (.seq dfA (.block 0 (.loop (.seq Wy (.seq (.cond (.tmp 9) .skip (.exit 0)) (.block 1 ZM)))))):=rfl
theorem Ue : ∃id I J,Wy=.region id #[I,J] false∧I.guard=none∧J.guard=none∧I.op=.next (.tmp 7) false∧I.dst=some 8∧J.op=.extract (.tmp 8) 0∧J.dst=some 9:=⟨_,_,_,rfl,rfl,rfl,rfl,rfl,rfl,rfl⟩
abbrev rT : V:=.fn (.func 119) [] []
def ZN (h₀:H)(it mid clock:Nat)(es:cx)(S:List aS)(j:Nat)(E:List (Nat×V))(h:H): Prop :=
 ∃seen,Has E [(0,.map mid),(1,rT),(7,.ptr it 0)]∧j=(leftV seen (es.map eN)).length∧h.next+2*j=h₀.next+1+2*es.length∧(∀i,i<h₀.next→i≠mid→i≠it→T.get h.tr i=T.get h₀.tr i) ∧
  Sat h (pt it (.iter mid clock clock seen)::fV mid (es.filter (nj seen)) clock::S)
theorem QT (xB:it<h₀.next+1)(hb:fg clock 0 es)(hn:(es.map (·.1)).Nodup)(hv:∀e∈es,∃a b,e.2.1=.agg [.int .u64 a,.bool b])(h0:ZN h₀ it mid clock es S j E h):
  WPO CB 19 (.loop (.seq Wy (.seq (.cond (.tmp 9) .skip (.exit 0)) (.block 1 ZM)))) E h fun ex E' h'=>ex=.exit 0∧h'.next=h₀.next+1+2*es.length∧(∀i,i<h₀.next→i≠mid→i≠it→T.get h'.tr i=T.get h₀.tr i) ∧
   ∃seen,Sat h' (pt it (.iter mid clock clock seen)::fV mid (es.filter (fun e=>n_ e.2.1)) clock::S):=by
 refine WPO.loop (ZN h₀ it mid clock es S) ?_ h0
 rintro j E h ⟨seen,hE,rfl,U,hs,s⟩
 have g1:=s.row (k:=0) rfl
 have g2:=s.row (k:=1) rfl
 have oA:=yG (f:=nj seen) hb
 obtain⟨id,To,Tp,q0,q1,q2,q3,q4,q5,q6⟩:=Ue
 refine WPO.seq ?_
 rw[q0]
 have hL:=next_at g1 (aP _) g2 oA
 refine WPO.next ir fI q1 q2 q3 q4 q5 rfl q6 rfl rfl (r:=it) ?_ hL fun q hq => ?_
 ·exact hE.2.2.1
 ·rcases Ht g1 (aP _) g2 oA hL q hq with⟨rfl,A7⟩|⟨e,he,SL,_,rfl⟩
  ·have abP:∀e∈es,inL seen e.2.2=true:=fun e he=>by
    grind[nj]
   have A5:leftV seen (es.map eN)=[]:=by
    grind[L4]
   refine⟨.bool false,[],rfl,?_⟩
   refine WPO.seq (WPO.cond (t:=false) rfl ?_)<;>grind[WPO.of,ir,fI,WP.exit,QL]
  ·refine⟨.bool true,_,rfl,?_⟩
   refine WPO.seq (WPO.cond (t:=true) rfl ?_)
   refine WPO.of ir fI (WP.skip ?_)
   refine WPO.block (WPO.of ir fI ?_)
   have I:=(List.mem_filter.1 he).1
   have sE:=L6 hb I SL
   have s:=s.put (o':=.iter mid clock clock (seen++[e.2.2])) (k:=0) rfl
   have hs:∀i,i<h₀.next→i≠mid→i≠it→T.get (h.put it (some (.iter mid clock clock (seen++[e.2.2])))).tr i=T.get h₀.tr i:=fun i h1 h2 h3=>by grind[dO]
   have U:(h.put it (some (.iter mid clock clock (seen++[e.2.2])))).next+2*(leftV seen (es.map eN)).length=h₀.next+1+2*es.length:=U
   have hle:h₀.next≤(h.put it (some (.iter mid clock clock (seen++[e.2.2])))).next:=by
    have:(leftV seen (es.map eN)).length≤(es.map eN).length:=by
     have:∀l:List (V×V×Nat),(leftV seen l).length≤l.length:=by
      intro l
      induction l<;>grind[leftV]
     exact this _
    grind
   generalize h.put it (some (.iter mid clock clock (seen++[e.2.2])))=h' at s hs U hle
   have g1:=s.row (k:=0) rfl
   have g2:=s.row (k:=1) rfl
   obtain⟨a,b,sx⟩:=hv e I
   have J:=Hr g1 g2 oA he
   rw[sx] at J
   refine WP.has (F:=[(0,.map mid),(1,rT),(7,.ptr it 0),(9,.bool true)]) ⟨hE.1,hE.2.1,hE.2.2.1,rfl,aa⟩ (zg rfl (ay.any rfl rfl rfl (OpR.entry rfl rfl J) ?_))
   rintro v h ⟨rfl,rfl⟩
   refine zk 2 rfl (zo rfl (cK wE) ?_)
   have s1:=s.new (.cells 2 [.int .u64 0,.bool false] false)
   have e1:=Ys (P:=Tryz.prog) (t:=220) (l:=[.int .u64 a,.bool b]) (s1.row (k:=0) rfl) uq rfl rfl rfl
   have s2:=s1.put (o':=.cells 2 [.int .u64 a,.bool b] false) (k:=0) rfl
   refine za rfl (ay.R8 rfl rfl (vF rfl rfl e1) (zk 5 rfl (zl rfl (s2.fN (k:=0) rfl LI uq) (zc rfl (QO W.base (n:=e.1) (a:=a) (b:=b)) ?_))))
   rintro v h'' ⟨rfl,rfl⟩
   have s3:=s2.new (.cells 2 [.int .u64 a,.bool b] false)
   have Wh:∀i,i<h₀.next→i≠mid→i≠it→T.get (newRow ((h.new (.cells 2 [.int .u64 0,.bool false] false)).put h.next (some (.cells 2 [.int .u64 a,.bool b] false))) [.int .u64 a,.bool b]).tr i=T.get h₀.tr i:=fun i h1 h2 h3=>by
    rw[newRow,ga,ah (by show i≠h.next+1;omega),dO,ah (by omega),ga,ah (by omega)]
    exact hs i h1 h2 h3
   refine zv ?_
   refine WP.split rfl ?_ ?_
   ·intro hq
    have Ge:b=false:=by grind
    subst Ge
    have s4:=(s3.ae [2,2])
    refine zK 3 rfl (ay.ik rfl rfl (OpR.builtin rfl rfl rfl (Ud (n:=e.1) s4 (j:=1) rfl rP bK)) ?_)
    rintro v h5 ⟨k1,k2,k3⟩
    refine zv ?_
    refine⟨_,?_,seen++[e.2.2],⟨rfl,rfl,rfl,aa⟩,rfl,?_,?_,?_⟩
    ·omega
    ·rw[k1]
     show h.next+1+1+_=_
     omega
    ·grind
    ·rw[Uc hb hn I (by rw[sx];rfl) SL]
     exact(k3.del 3).del 2
   ·intro hq
    have Ge:b=true:=by grind
    subst Ge
    refine WP.skip ?_
    refine⟨_,?_,seen++[e.2.2],⟨rfl,rfl,rfl,aa⟩,rfl,?_,Wh,?_⟩
    ·omega
    ·show h.next+1+1+_=_
     omega
    ·rw[QN hb I (by rw[sx];rfl)]
     exact(s3.del 1).del 0
end
def Hw (args:List V)(h:H)(r:V×H): Prop:=∃(mid:Nat) (es:cx) (clock:Nat),args=[.map mid,rT]∧T.get h.tr mid=some (.map (es.map eN) clock) ∧
 r=(.bD [],⟨h.next+1+2*es.length,(h.put mid (some (.map ((es.filter (fun e=>n_ e.2.1)).map eN) clock))).tr⟩)
structure W2 (told:dI): Prop where
 w:W told
 sync:told 117=some (mP Tryz.prog 117 Eb)
 del:told 118=some (mP Tryz.prog 118 Hw)
theorem Ku : ∀ {l m:cx},l.map eN=m.map eN→l=m:=by
 intro l
 induction l with
 |nil=>intro m h;cases m with
  |nil=>rfl
  |cons _ _=>cases h
 |cons e l J=>intro m h;cases m with
  |nil=>cases h
  |cons x m =>
   simp only[gO,List.cons.injEq] at h
   obtain⟨I,U⟩:=h
   rw[J U]
   obtain⟨e1,e2⟩:=e
   obtain⟨x1,x2⟩:=x
   simp only[eN,bE,V.int.injEq,true_and] at I
   rw[I.1,I.2]
theorem L7 {a b:PM}: ∀ {l:cx} {m:List (Int×(Nat×Bool))},(eT (fun v x=>.pu (v=.agg [.int .u64 (x.1:Int),.bool x.2])) l m).p a b →
  (eT (fun v x=>.pu (v=.agg [.int .u64 (x.1:Int),.bool x.2])) (l.filter fun e=>n_ e.2.1) (m.filter fun e=>e.2.2)).p a b:=by
 intro l
 induction l with
 |nil=>intro m h;cases m with
  |nil=>exact h
  |cons _ _=>exact h.elim
 |cons e l I=>intro m h;cases m with
  |nil=>exact h.elim
  |cons x m =>
   obtain⟨⟨h1,J⟩,U⟩:=h
   have h4:e.2.1=.agg [.int .u64 (x.2.1:Int),.bool x.2.2]:=J
   have hf:n_ e.2.1=x.2.2:=by rw[h4];rfl
   simp only[Du,hf]
   split
   ·exact⟨⟨h1,J⟩,I U⟩
   ·exact I U
def Dk.cM (δ:Dk): Int×Dk:=if δ.dead=true then(9,δ) else if δ.aA=0 then(9,δ.die) else(0,δ.cQ.sync)
section
variable {told:dI} {p:Nat} {v:V} {m:List (Int×(Nat×Bool))}
theorem tU {a b:Obj}(J:T.get h.tr id=some a)(I:T.get h.tr id=some b): a=b:=by rw[J] at I;exact cA I
theorem Kv (hT:W2 told)(s:Sat h (aD p δ::S))(U:δ.Ok)(hk:∀e∈δ.now,0≤e.1∧e.1<δ.ai.length): Call ⟨Tryz.prog,told⟩ 117 [.ptr p 0] h fun v h'=>v=.int .i64 δ.cM.1∧Sat h' (aD p δ.cM.2::S):=by
 obtain⟨r,h1,h2⟩:=Om s U hk
 obtain⟨r,h3,h4⟩:=yE h1 h2
 refine⟨r.1,r.2,ij.told hT.sync yB rfl h3,?_⟩
 clear h1 h2 h3
 obtain⟨p',cs,e1,gp',h4⟩:=h4
 injection e1 with e1 _
 injection e1 with e1 _
 subst e1
 obtain⟨pg,wt,nw,lg,mk,tn,tl,ops,s1⟩:=bp.1 s
 have gp:=s1.row (k:=0) rfl
 have e2:=tU gp gp'
 injection e2 with _ e2 _
 subst e2
 rcases h4 with⟨hd,rfl⟩|⟨hd,v1,h1,B5,h4⟩
 ·have hd:δ.dead=true:=by injection (cA hd)
  simp only[Dk.cM,aE hd]
  exact⟨aa,s⟩
 ·have hd:δ.dead=false:=by injection (cA hd)
  obtain⟨v2,h2,aaK,hR⟩:=mz W.base s U.aA
  obtain⟨rfl,rfl⟩:=ij.det B5 aaK
  simp only[Dk.cM,hd,kN,fH]
  rcases hR with⟨h0,rfl,s2⟩|⟨h0,rfl,s2⟩
  ·rcases h4 with⟨_,rfl⟩|⟨hv,_⟩
   ·rw[aE h0];exact⟨rfl,s2⟩
   ·cases hv
  ·rcases h4 with⟨hv,_⟩|⟨_,cs,im,N,row,mid,es,clock,g0,c1,c3,g1,g2,rfl⟩
   ·cases hv
   ·rw[ah h0]
    refine⟨rfl,?_⟩
    obtain⟨pg,wt,nw,lg,mk,tn,tl,ops,s3⟩:=bp.1 s2
    obtain⟨ZO,row',rfl,s4⟩:=gq.1 (s3.ae [1])
    obtain⟨J,es',I,rfl,hb,hn,s5⟩:=eB.1 (s4.ae [4])
    have s6:=s5.ae [4,2,0,0,0,0]
    have e3:=tU (s6.row (k:=0) rfl) g0
    injection e3 with _ e3 _
    subst e3
    have c1:=cA c1
    injection c1 with c1 _ c2 _
    subst c1;subst c2
    have c3:=cA c3
    injection c3 with c3
    subst c3
    have e4:=tU (s6.row (k:=1) rfl) g1
    injection e4 with _ e4 _
    subst e4
    have e5:=tU (s6.row (k:=2) rfl) g2
    injection e5 with e5 e6
    have e5:=Ku e5
    subst e5;subst e6
    have s7:=s6.new (.iter J I I [])
    have s8:=s7.put (o':=.cells δ.cQ.ai.length (nC es' row') false) (k:=2) rfl
    have s9:=s8.put (o':=.cells 12 (List.set (uu δ.cQ.room (.sl ZO 0 δ.cQ.ai.length (.exact δ.cQ.ai.length)) wt (.map J) lg δ.cQ.aH mk δ.cQ.aA ops δ.cQ.dead tn tl) 2 .bw) false) (k:=1) rfl
    have s10:=s9.put (o':=.map [] I) (k:=3) rfl
    have s11:=s10.kill
    have s12:Sat _ (each k_ row' δ.cQ.ai::eT (fun v b=>.cm v b) es' δ.cQ.now::_):=s11.ae [4,3]
    have s13:=s12.two (C:=each k_ (nC es' row') (laidP δ.cQ.now δ.cQ.ai)) (aF.each aF.k_ _ _) (aF.GY (fun _ _=>aF.cm _ _) _ _) fun a b q1 q2=>Jh q2 (fun e he=>by
     have:=U.now e he
     rintro hq;rw[hq] at this;simp at this) q1
    have s14:=(eB (f:=fun v b=>.cm v b) (v:=.map J) (m:=([]:List (Int×List Nat)))).2 ⟨J,[],I,rfl,aa,jz,((s13.ae [3]).gB aa).ae [1,0]⟩
    have hlen:(laidP δ.cQ.now δ.cQ.ai).length=δ.cQ.ai.length:=mB
    have ZP:=gq.2 ⟨ZO,nC es' row',rfl,by rw[hlen];exact s14.ae [3,1]⟩
    rw[hlen] at ZP
    have s16:=(my (v:=.bw) (m:=[])).2 ⟨[],((ZP.del 3).gB aa).qh⟩
    exact bp.2 ⟨_,_,_,_,_,_,_,ops,s16.ae [3,1,0,0]⟩
theorem QU (s:Sat h (CH di m::S)): ∃r,Hw [di,rT] h r∧∀(c:Ctx) (w:World),Rel c h w→(∀x∈[di,rT],wf c x)→fT Tryz.prog 118 [di,rT] c w r.1 r.2:=by
 obtain⟨mid,es,clock,rfl,hb,hn,s1⟩:=eB.1 s
 have gm:=s1.row (k:=0) rfl
 obtain⟨a,b,_,_,q3⟩:=s1.at (k:=1) rfl
 have I:=sM q3
 have hv:∀e∈es,∃a b,e.2.1=.agg [.int .u64 a,.bool b]:=fun e he=>by
  obtain⟨x,_,k2⟩:=yF q3 e he
  exact⟨_,_,k2⟩
 refine⟨_,⟨mid,es,clock,rfl,gm,rfl⟩,fun c w hr ha => ?_⟩
 refine fT.CM (C:=CB) (args:=[.map mid,rT]) Hl QS (show 2≤Tryz.f118.ntmps by decide) ?_ hr ha
 refine WPO.seq (WPO.of ir fI ?_)
 have s:=s1
 refine zK 2 rfl (ay.any rfl rfl rfl (OpR.range rfl rfl (show rangeV Tryz.prog h 215 (.map mid)=some (.ptr h.next 0,h.new (.iter mid clock clock [])) by simp only[rangeV,rP,gm])) ?_)
 rintro v h' ⟨rfl,rfl⟩
 refine zv ?_
 have s7:=s.new (.iter mid clock clock [])
 refine WPO.block ((QT (h₀:=h) (es:=es) (it:=h.next) (mid:=mid) (clock:=clock) (S:=eT (fun v (x:Nat×Bool)=>.pu (v=.agg [.int .u64 (x.1:Int),.bool x.2])) es m::S) (by omega) hb (by rw[I];exact hn) hv ⟨[],⟨rfl,rfl,rfl,aa⟩,rfl,?_,?_,?_⟩).mono ?_)
 ·have:(leftV [] (es.map eN)).length=es.length:=by
   have:∀l:List (V×V×Nat),leftV [] l=l:=by
    intro l
    induction l with
    |nil=>rfl
    |cons y l ih=>simp only[leftV,inL,bf,ih]
   rw[this,iE]
  rw[this]
  rfl
 ·intro i J h2 h3
  rw[ga,ah h3]
 ·rw[QM];exact s7
 ·rintro ex E' h' ⟨rfl,U,hs,seen,s'⟩
  refine⟨aa,rfl,U.symm,fun id o ho => ?_⟩
  rw[dO] at ho
  by_cases J:id=mid
  ·rw[aE J] at ho;rw[J,s'.row (k:=1) rfl];exact ho
  ·rw[ah J] at ho
   have:=s.wf id o ho
   rw[hs id this J (by omega)]
   exact ho
theorem Wz (hT:W2 told)(s:Sat h (CH di m::S)): Call ⟨Tryz.prog,told⟩ 118 [di,rT] h fun v h'=>v=.bD []∧Sat h' (CH di (m.filter fun e=>e.2.2)::S):=by
 obtain⟨r,U,h2⟩:=QU s
 obtain⟨r,h3,h4⟩:=yE U h2
 refine⟨r.1,r.2,ij.told hT.del Hl rfl h3,?_⟩
 clear U h2 h3
 obtain⟨mid,es,clock,e1,g1,rfl⟩:=h4
 injection e1 with e1 _
 subst e1
 refine⟨rfl,?_⟩
 obtain⟨ab6,es',I,e2,hb,hn,s1⟩:=eB.1 s
 injection e2 with e2
 subst e2
 have J:=tU (s1.row (k:=0) rfl) g1
 injection J with J e4
 have J:=Ku J
 subst J;subst e4
 have s2:Sat h (eT _ es' m::fV mid es' I::S):=s1.ae [1]
 have s3:=s2.fR (B:=eT (fun v x=>.pu (v=.agg [.int .u64 (x.1:Int),.bool x.2])) (es'.filter fun e=>n_ e.2.1) (m.filter fun e=>e.2.2)) fun a b q=>L7 q
 have s4:=s3.put (o':=.map ((es'.filter fun e=>n_ e.2.1).map eN) I) (k:=1) rfl
 have s5:=s4.cO (k:=1+2*es'.length) (h':=⟨h.next+1+2*es'.length,(h.put mid (some (.map ((es'.filter fun e=>n_ e.2.1).map eN) I))).tr⟩)
  ⟨fun id o ho=>by have U:=s4.wf id o ho;have h2:(h.put mid (some (.map ((es'.filter fun e=>n_ e.2.1).map eN) I))).next=h.next:=rfl;show id<h.next+1+2*es'.length;omega,
   by show h.next≤h.next+1+2*es'.length;omega,by show h.next+1+2*es'.length≤h.next+(1+2*es'.length);omega,fun _ _ _=>rfl⟩
 exact eB.2 ⟨mid,es'.filter (fun e=>n_ e.2.1),I,rfl,yG hb,hn.sublist ((List.filter_sublist).map _),s5.ae [1,0]⟩
def bx (π:Pl)(δ:Dk): Int×Pl×Dk:=if δ.cM.1≠0 then(δ.cM.1,π,δ.cM.2) else(0,{ π with aN:=π.aN.filter fun e=>e.2.2 },δ.cM.2)
theorem Hx (I:W2 told)(s:Sat h (cq r p q π::aD p δ::S))(J:δ.Ok)(U:∀e∈δ.now,0≤e.1∧e.1<δ.ai.length):
  Call ⟨Tryz.prog,told⟩ 57 [.ptr r 0] h fun v h'=>v=.int .i64 (bx π δ).1∧Sat h' (cq r p q (bx π δ).2.1::aD p (bx π δ).2.2::S):=by
 obtain⟨cR,wh,di,s⟩:=dx.1 s
 refine Call.of_wp (I.w.free _ rfl) Tryz.func57 rfl rfl (zK 9 rfl (zY s 0 vJ jK rfl (zc rfl (Kv I (s.ae [4]) J U) ?_)))
 rintro v h ⟨rfl,s⟩
 refine zk 5 rfl ?_
 by_cases he:δ.cM.1=0
 ·skip
  refine zC rfl aX (by simp;exact he) ?_
  refine zk 7 rfl (zY s 1 mX rF rfl (zc rfl (Wz I (s.ae [4])) ?_))
  rintro v h ⟨rfl,s⟩
  refine zk 5 rfl (WP.ret ⟨aa,_,rfl,?_⟩)
  rw[bx,ah (by simpa using he)]
  exact⟨rfl,(dx.2 ⟨cR,wh,di,s.ae [2,2,2,0,0]⟩)⟩
 ·skip
  refine zB rfl aX (by simp;exact he) ?_
  refine zk 7 rfl (WP.ret ⟨aa,_,rfl,?_⟩)
  rw[bx,aE he]
  exact⟨rfl,(dx.2 ⟨cR,wh,di,s.ae [1,1,1,1,0]⟩)⟩
end
theorem fK.aj (I:fK π bC): ∀g∈bC.aj,∃f∈π.aj,∃t,g={ f with fQ:=t }:=by
 intro g U
 obtain⟨i,hi,rfl⟩:=List.mem_iff_getElem.1 U
 have hf:π.aj[i]?=some (π.aj[i]'(by rw[←I.len];exact hi)):=bn _
 obtain⟨t,J⟩:=I.get i _ hf
 rw[bn hi] at J
 exact⟨_,vg _,t,cA J⟩
theorem fK.ok (I:fK π bC)(h:π.Ok)(hh:bC.hand<bC.aj.length): bC.Ok:=by
 refine⟨hh,by rw[I.len];exact h.many,by rw[I.aC,I.len];exact h.aC,fun g J => ?_,fun g J => ?_⟩
 ·obtain⟨f,U,t,rfl⟩:=I.aj g J
  exact h.len f U
 ·obtain⟨f,U,t,rfl⟩:=I.aj g J
  exact h.pins f U
theorem Pl.Ok.set {w:List (Int×Int)}{d:List (Int×(Nat×Bool))}(h:π.Ok)(hw:∀e∈w,0≤e.2∧e.2<π.aj.length)(J:f.b.length≤512)(U:0≤f.pins∧f.pins≤4294967296): Pl.Ok { π with aj:=π.aj.set i f,aC:=w,aN:=d }:=by
 refine⟨by simp only[ep];exact h.hand,by simp only[ep];exact h.many,fun e he=>by simp only[ep];exact hw e he,fun g I => ?_,fun g I => ?_⟩
 ·rcases oX I with I|rfl
  ·exact h.len g I
  ·exact J
 ·rcases oX I with I|rfl
  ·exact h.pins g I
  ·exact U
theorem Uf : ∀ {l:List (Int×α)} {e:Int×α},e∈ou n l→e∈l:=by
 intro l
 induction l with
 |nil=>intro e h;exact h
 |cons x l I =>
  intro e h
  simp only[ou] at h
  split at h
  ·exact b9 _ h
  ·rcases List.mem_cons.1 h with rfl|h
   ·exact cn
   ·exact b9 _ (I h)
theorem Ug {x:α}: ∀ {l:List (Int×α)} {e:Int×α},e∈cY n x l→e=(n,x)∨e∈l:=by
 intro l
 induction l with
 |nil=>intro e h;simp only[cY,List.mem_singleton] at h;exact .inl h
 |cons y l I =>
  intro e h
  simp only[cY] at h
  split at h
  ·rcases List.mem_cons.1 h with rfl|h
   ·exact .inl rfl
   ·exact .inr (b9 _ h)
  ·rcases List.mem_cons.1 h with rfl|h
   ·exact .inr cn
   ·rcases I h with h|h
    ·exact .inl h
    ·exact .inr (b9 _ h)
theorem Bn (h:π.Ok): (dN π i f).Ok:=by
 unfold dN
 refine h.set (fun e he => ?_) (by simp[fq]) (by simp[fq])
 split at he
 ·exact h.aC e he
 ·exact h.aC e (Uf he)
theorem eY.ok (hr:eY ε n e b ε')(h:ow ε)(hp:∀f∈ε.1.aj,f.pins=0): ow ε':=by
 cases hr with
 |arg _=>exact h
 |xB i f h1 h2 hl U =>
  have hm:=bu U
  exact⟨h.pl.set h.pl.aC (h.pl.len f hm) (by have:=hp f hm;simp only;omega),h.lg,h.dk⟩
 |out bC i f h1 h2 hl I U J he=>exact q_ (ε:=(bC,ε.2)) ⟨I.ok h.pl J,h.lg,h.dk⟩
 |read bC i f h1 h2 hl I U J he hr =>
  have:=q_ (i:=i) (ε:=(bC,ε.2)) ⟨I.ok h.pl J,h.lg,h.dk⟩
  exact⟨Bn this.pl,this.lg,this.dk⟩
 |bad bC i f h1 h2 hl I U J he hr hc =>
  have:=q_ (i:=i) (ε:=(bC,ε.2)) ⟨I.ok h.pl J,h.lg,h.dk⟩
  exact⟨Bn this.pl,this.lg,this.dk⟩
 |load bC i f h1 h2 hl I U J he hr hc =>
  have:=q_ (i:=i) (ε:=(bC,ε.2)) ⟨I.ok h.pl J,h.lg,h.dk⟩
  have h3:=Bn (i:=i) (f:=f) this.pl
  have hlen:i<(dN (outF (bC,ε.2) i).2.1 i f).aj.length:=by
   obtain⟨c,hc⟩:=n4 (ε:=(bC,ε.2)) U
   have:=(List.getElem?_eq_some_iff.1 hc).1
   simpa[dN] using this
  refine⟨h3.set (fun e he => ?_) (by simp only;rw[this.dk.at];omega) (by simp),this.lg,this.dk⟩
  rcases Ug he with rfl|he
  ·simp only;omega
  ·exact h3.aC e he
theorem E6 (h:π.Ok): (unpinF π n).2.Ok:=by
 unfold unpinF
 split
 ·exact h
 ·rename_i i hi
  split
  ·exact h
  ·rename_i f I
   have hm:=bu I
   refine h.set h.aC (h.len f hm) ?_
   have:=h.pins f hm
   have J:f.pins≠0:=by
    unfold heldI at hi
    split at hi
    ·cases hi
    ·split at hi
     ·cases hi
     ·rename_i g U
      split at hi
      ·cases hi
      ·rename_i hp
       have:=cA hi
       subst this
       rw[U] at I
       have:=cA I
       subst this
       exact hp
   simp only;omega
theorem eY.wait (I:eY ε n e b ε'): ε'.2.2.waiting.length≤ε.2.2.waiting.length+1:=by
 cases I with
 |arg _=>exact hO _
 |xB i f J U hl hf=>exact hO _
 |out bC i f J U hl hn hf hh he=>exact rS (ε:=(bC,ε.2))
 |read bC i f J U hl hn hf hh he I=>exact rS (ε:=(bC,ε.2))
 |bad bC i f J U hl hn hf hh he I hc=>exact rS (ε:=(bC,ε.2))
 |load bC i f J U hl hn hf hh he I hc=>exact rS (ε:=(bC,ε.2))
inductive kD (ε:bA)(n:Int): Int→List Nat→bA→Prop where
 |dead (h:ε.2.2.dead=true):kD ε n 9 [] ε
 |ja (e:Int) (b:List Nat) (ε':bA) (h:ε.2.2.dead=false) (hr:eY ε n e b ε') (he:e≠0):kD ε n e [] ε'
 |rH (b:List Nat) (ε':bA) (h:ε.2.2.dead=false) (hr:eY ε n 0 b ε') (he:(unpinF ε'.1 n).1≠0):kD ε n (unpinF ε'.1 n).1 [] ((unpinF ε'.1 n).2,ε'.2)
 |read (b:List Nat) (ε':bA) (h:ε.2.2.dead=false) (hr:eY ε n 0 b ε') (he:(unpinF ε'.1 n).1=0):kD ε n 0 b ((unpinF ε'.1 n).2,ε'.2)
theorem kD.ok (I:kD ε n e b ε')(h:ow ε)(J:∀f∈ε.1.aj,f.pins=0): ow ε':=by
 cases I with
 |dead _=>exact h
 |ja e b ε' U I he=>exact I.ok h J
 |rH b ε' U I he=>have:=I.ok h J;exact⟨E6 this.pl,this.lg,this.dk⟩
 |read b ε' U I he=>have:=I.ok h J;exact⟨E6 this.pl,this.lg,this.dk⟩
theorem kD.wait (I:kD ε n e b ε'): ε'.2.2.waiting.length≤ε.2.2.waiting.length+1:=by
 cases I with
 |dead _=>exact hO _
 |ja e b ε' J I he=>exact I.wait
 |rH b ε' J I he=>exact I.wait
 |read b ε' J I he=>exact I.wait
def qq (a p q r:Nat)(op dv:V)(aq:Nat): List V:=[.ptr p 0,.ptr q 0,.ptr r 0,op,dv,.int .u64 (aq:Int)]
def cB (a p q r:Nat)(op:V)(data:List Nat)(aq:Nat): aS:=xs fun dv:V=>star [pt a (.cells 6 (qq a p q r op dv aq) false),.cm dv data]
def gZ (g a:Nat)(now:List (Int×List Nat))(bV:Bool): aS:=xs fun nv:V=>star [pt g (.cells 3 [.ptr a 0,nv,.bool bV] false),jc (fun v b=>.cm v b) nv now]
section
variable {told:dI} {p aq:Nat} {op v:V} {bV:Bool}
theorem bM : Sat h (cB a p q r op data aq::S)↔∃dv,Sat h (pt a (.cells 6 (qq a p q r op dv aq) false)::.cm dv data::S):=by
 simp only[cB,fU,ej,iU,eE]
theorem fJ : Sat h (gZ g a now bV::S)↔∃nv,Sat h (pt g (.cells 3 [.ptr a 0,nv,.bool bV] false)::jc (fun v b=>.cm v b) nv now::S):=by
 simp only[gZ,fU,ej,iU,eE]
theorem Bo (U:W told)(s:Sat h (cB a p q r op data aq::cq r p q π::bh q p μ::aD p δ::S))(I:ow (π,μ,δ))(J:∀f∈π.aj,f.pins=0)(hw:δ.waiting.length≤268435456):
  Call ⟨Tryz.prog,told⟩ 44 [.ptr a 0,.int .i64 n] h fun v h'=>∃(e:Int) (b:List Nat) (ε:bA),kD (π,μ,δ) n e b ε ∧
   ((e≠0∧v=.bD [.bw,.int .i64 e]∧Sat h' (cB a p q r op data aq::cq r p q ε.1::bh q p ε.2.1::aD p ε.2.2::S)) ∨
    (e=0∧∃u,v=.bD [u,.int .i64 0]∧Sat h' (bH u b::cB a p q r op data aq::cq r p q ε.1::bh q p ε.2.1::aD p ε.2.2::S))):=by
 have s0:=s
 obtain⟨dv,s⟩:=bM.1 s
 refine Call.of_wp (U.free _ rfl) Tryz.func44 rfl rfl (zK 10 rfl (zY s 0 pI jK rfl (zc rfl (tO U (s.ae [4])) ?_)))
 rintro v h ⟨rfl,rfl⟩
 refine zv ?_
 cases hd:δ.dead with
 |true =>
  exact zK 6 rfl (WP.ret ⟨aa,_,rfl,9,[],_,.dead hd,.inl ⟨by decide,rfl,s0⟩⟩)
 |false =>
  refine zK 6 rfl (zY s 0 mW rE rfl (zm rfl (zc rfl (Oa (n:=n) U (s.ae [2,2,2]) I.pl J I.lg I.dk hw) ?_)))
  rintro v h ⟨e,b,ε,hr,(⟨he,rfl,s⟩|⟨rfl,u,rfl,s⟩)⟩
  ·dsimp only[bringA,getA,aQ] at s
   refine zk 10 rfl (zB rfl aX (by simp;exact he) ?_)
   exact zk 8 rfl (WP.ret ⟨aa,_,rfl,e,[],ε,.ja e b ε hd hr he,.inl ⟨he,rfl,bM.2 ⟨dv,s.ae [3,3,0,0,0]⟩⟩⟩)
  ·dsimp only[bringA,getA,aQ] at s
   refine zk 10 rfl (zC rfl aX (rfl) ?_)
   have s:=s.ae [4,4,0,0,0,0]
   refine zk 8 rfl (zY s 0 mW rE rfl (zm rfl ?_))
   have ke:=hr.ok I J
   refine zc rfl (Hg (n:=n) U (s.ae [3]) ke.pl) ?_
   rintro v h ⟨rfl,s⟩
   refine zk 5 rfl ?_
   by_cases he:(unpinF ε.1 n).1=0
   ·skip
    refine zC rfl aX (by simp;exact he) ?_
    exact zk 9 rfl (WP.ret ⟨aa,_,rfl,0,b,_,.read b ε hd hr he,.inr ⟨rfl,u,rfl,(bM.2 ⟨dv,s.ae [1,1,0,1,1,0]⟩).ae [4,0,0,0,0]⟩⟩)
   ·skip
    refine zB rfl aX (by simp;exact he) ?_
    exact zk 8 rfl (WP.ret ⟨aa,_,rfl,_,[],_,.rH b ε hd hr he,.inl ⟨he,rfl,(bM.2 ⟨dv,(s.ae [1,1,0,1,1,0]).del 5⟩)⟩⟩)
end
structure Pl.Full (π:Pl): Prop where
 nodup:(π.aC.map (·.1)).Nodup
 jL:∀n i,lookL n π.aC=some i→0≤n∧∃f,π.aj[i.toNat]?=some f∧f.aO=n∧f.b.length=512
structure fL (ε:bA): Prop where
 ok:ow ε
 pins:∀f∈ε.1.aj,f.pins=0
 full:ε.1.Full
theorem Pl.Full.set {g:Fm}{d:List (Int×(Nat×Bool))}(h:π.Full)(U:π.aj[i]?=some f)(hp:g.aO=f.aO)(hl:f.b.length=512→g.b.length=512): Pl.Full { π with aj:=π.aj.set i g,aN:=d }:=by
 refine⟨h.nodup,fun n j hj => ?_⟩
 obtain⟨h1,f',J,h3,h4⟩:=h.jL n j hj
 refine⟨h1,?_⟩
 by_cases I:i=j.toNat
 ·subst I
  rw[U] at J
  have:=cA J
  subst this
  exact⟨g,kM (List.getElem?_eq_some_iff.1 U).1,hp.trans h3,hl h4⟩
 ·exact⟨f',by simp only[y5 I];exact J,h3,h4⟩
theorem fK.full (I:fK π bC)(h:π.Full): bC.Full:=by
 refine⟨by rw[I.aC];exact h.nodup,fun n j J => ?_⟩
 rw[I.aC] at J
 obtain⟨U,f',h2,h3,h4⟩:=h.jL n j J
 obtain⟨t,ht⟩:=I.get _ _ h2
 exact⟨U,_,ht,h3,h4⟩
theorem rU (h:ε.1.Full): (outF ε i).2.1.Full:=by
 unfold outF
 split
 ·exact h
 ·rename_i f I
  split
  ·exact h
  ·split
   ·exact h
   ·split
    ·exact h
    ·split
     ·exact h
     ·exact h.set I rfl fun J=>J
theorem wP {g:Fm}(h:π.Full)(hg:π.aj[i]?=some g)(hp:g.aO=f.aO): (dN π i f).Full∧∀n j,lookL n (dN π i f).aC=some j→j.toNat≠i:=by
 have key:∀n j,lookL n (dN π i f).aC=some j→lookL n π.aC=some j∧j.toNat≠i:=by
  intro n j I
  by_cases hf:f.aO<0
  ·have hw:(dN π i f).aC=π.aC:=by simp only[dN,aE hf]
   rw[hw] at I
   refine⟨I,fun hi => ?_⟩
   obtain⟨U,f',J,h3,_⟩:=h.jL n j I
   rw[hi,hg] at J
   have:=cA J
   subst this
   omega
  ·have hw:(dN π i f).aC=ou f.aO π.aC:=by simp only[dN,ah hf]
   rw[hw,ES h.nodup] at I
   by_cases hn:f.aO=n
   ·rw[aE hn] at I;cases I
   ·rw[ah hn] at I
    refine⟨I,fun hi => ?_⟩
    obtain⟨U,f',J,h3,_⟩:=h.jL n j I
    rw[hi,hg] at J
    have:=cA J
    subst this
    omega
 refine⟨⟨?_,fun n j I => ?_⟩,fun n j I=>(key n j I).2⟩
 ·unfold dN
  simp only
  split
  ·exact h.nodup
  ·exact wG h.nodup
 ·obtain⟨U,J⟩:=key n j I
  obtain⟨h3,f',h4,h5,h6⟩:=h.jL n j U
  exact⟨h3,f',by simp only[dN,y5 (qN J)];exact h4,h5,h6⟩
theorem Ji (h:π.Full)(hi:i<π.aj.length)(J:∀n j,lookL n π.aC=some j→j.toNat≠i)(U:0≤n)(hb:b.length=512): (jw π i n b).Full:=by
 refine⟨iO h.nodup,fun m j I => ?_⟩
 simp only[jw,gH] at I
 by_cases hm:n=m
 ·rw[aE hm] at I
  have:=cA I
  subst this;subst hm
  exact⟨U,⟨n,b,1,true,false⟩,kM hi,rfl,hb⟩
 ·rw[ah hm] at I
  obtain⟨h3,f',h4,h5,h6⟩:=h.jL m j I
  exact⟨h3,f',by simp only[jw,y5 (qN (J m j I))];exact h4,h5,h6⟩
theorem eY.full (hr:eY ε n e b ε')(hd:ε.2.2.Ok)(h:ε.1.Full): ε'.1.Full∧(e=0→b.length=512):=by
 cases hr with
 |arg _=>exact⟨h,fun h=>(by cases h)⟩
 |xB i f h1 h2 U J =>
  refine⟨h.set J rfl fun U=>U,fun _ => ?_⟩
  obtain⟨_,f',h4,_,h6⟩:=h.jL n i U
  rw[eD,J] at h4
  have:=cA h4
  subst this
  exact h6
 |out bC i f h1 h2 U hn J hh he=>exact⟨rU (ε:=(bC,ε.2)) (hn.full h),fun h=>absurd h he⟩
 |read bC i f h1 h2 U hn J hh he hr =>
  obtain⟨c,I⟩:=n4 (ε:=(bC,ε.2)) J
  exact⟨(wP (f:=f) (rU (ε:=(bC,ε.2)) (hn.full h)) I rfl).1,fun h=>absurd h hr⟩
 |bad bC i f h1 h2 U hn J hh he hr hc =>
  obtain⟨c,I⟩:=n4 (ε:=(bC,ε.2)) J
  exact⟨(wP (f:=f) (rU (ε:=(bC,ε.2)) (hn.full h)) I rfl).1,fun h=>absurd h hc⟩
 |load bC i f h1 h2 U hn J hh he hr hc =>
  obtain⟨c,I⟩:=n4 (ε:=(bC,ε.2)) J
  have hi:=(List.getElem?_eq_some_iff.1 I).1
  obtain⟨k1,k2⟩:=wP (f:=f) (rU (ε:=(bC,ε.2)) (hn.full h)) I rfl
  have Kw:=(Bk (ε:=(bC,ε.2)) (i:=i) hd).at n
  exact⟨Ji k1 (by simp only[dN,ep];exact hi) k2 h1 Kw,fun _=>Kw⟩
theorem AV (h:π.Full): (unpinF π n).2.Full:=by
 unfold unpinF
 split
 ·exact h
 ·split
  ·exact h
  ·rename_i f I
   exact h.set I rfl fun J=>J
theorem fK.pins (I:fK π bC)(h:∀f∈π.aj,f.pins=0): ∀f∈bC.aj,f.pins=0:=fun g J=>by
 obtain⟨f,U,t,rfl⟩:=I.aj g J
 exact h f U
theorem rV {ε:bA}{i:Nat}(h:∀f∈ε.1.aj,f.pins=0): ∀f∈(outF ε i).2.1.aj,f.pins=0:=by
 unfold outF
 split
 ·exact h
 ·rename_i f J
  have hm:=bu J
  split
  ·exact h
  ·split
   ·exact h
   ·split
    ·exact h
    ·split
     ·exact h
     ·intro g I
      rcases oX I with I|rfl
      ·exact h g I
      ·exact h f hm
theorem wQ {π:Pl}{i:Nat}{f:Fm}(h:∀f∈π.aj,f.pins=0): ∀f∈(dN π i f).aj,f.pins=0:=by
 intro g I
 rcases oX I with I|rfl
 ·exact h g I
 ·rfl
theorem eY.Kx {ε ε':bA}{n e:Int}{b:List Nat}(J:eY ε n e b ε')(he:e≠0)(U:∀f∈ε.1.aj,f.pins=0): ∀f∈ε'.1.aj,f.pins=0:=by
 cases J with
 |arg _=>exact U
 |xB i f h1 h2 hl hf=>exact absurd rfl he
 |out bC i f h1 h2 hl I hf hh he=>exact rV (ε:=(bC,ε.2)) (I.pins U)
 |read bC i f h1 h2 hl I hf hh he J=>exact wQ (f:=f) (rV (ε:=(bC,ε.2)) (I.pins U))
 |bad bC i f h1 h2 hl I hf hh he J hc=>exact wQ (f:=f) (rV (ε:=(bC,ε.2)) (I.pins U))
 |load bC i f h1 h2 hl I hf hh he J hc=>exact absurd rfl he
theorem Hy {m:List Fm}{i:Nat}{f g:Fm}(h:∀f∈m,f.pins=0)(J:g.pins=0): ∀x∈(m.set i f).set i g,x.pins=0:=by
 intro x I
 rw[List.set_set] at I
 rcases oX I with I|rfl
 ·exact h x I
 ·exact J
theorem tV (hl:lookL n π.aC=some (i:Int))(I:π.aj[i]?=some f)(J:f.pins=1): heldI π n=some i∧unpinF π n=(0,{ π with aj:=π.aj.set i { f with pins:=0 } }):=by
 have U:heldI π n=some i:=by
  simp only[heldI,hl,eD,I,J]
  rfl
 refine⟨U,?_⟩
 simp only[unpinF,U,I,J]
 rfl
theorem QV {α:Type}{n:Int}{x:α}{l:List (Int×α)}: lookL n (cY n x l)=some x:=by rw[gH,aE rfl]
theorem eY.at {ε ε':bA}{n:Int}{b:List Nat}(U:eY ε n 0 b ε')(hp:∀f∈ε.1.aj,f.pins=0):
  ∃(i:Nat) (f:Fm),lookL n ε'.1.aC=some (i:Int)∧ε'.1.aj[i]?=some f∧f.pins=1∧f.b=b∧∀g:Fm,g.pins=0→∀x∈ε'.1.aj.set i g,x.pins=0:=by
 generalize I:(0:Int)=e at U
 cases U with
 |arg _=>cases I
 |xB i f h1 h2 hl J =>
  have hi:=(List.getElem?_eq_some_iff.1 J).1
  refine⟨i,{ f with fQ:=true,pins:=f.pins+1 },hl,by simp[hi],by have:=hp f (bu J);show f.pins+1=1;omega,rfl,fun g hg=>Hy hp hg⟩
 |out bC i f h1 h2 hl hn J hh he=>exact absurd I.symm he
 |read bC i f h1 h2 hl hn J hh he U=>exact absurd I.symm U
 |bad bC i f h1 h2 hl hn J hh he U hc=>exact absurd I.symm hc
 |load bC i f h1 h2 hl hn J hh he U hc =>
  obtain⟨c,EP⟩:=n4 (ε:=(bC,ε.2)) J
  have hi:=(List.getElem?_eq_some_iff.1 EP).1
  refine⟨i,⟨n,_,1,true,false⟩,QV,kM (by show i<(List.set _ i _).length;rw[ep];exact hi),rfl,rfl,fun g hg=>Hy (wQ (f:=f) (rV (ε:=(bC,ε.2)) (hn.pins hp))) hg⟩
theorem eY.Bp (I:eY ε n 0 b ε')(J:∀f∈ε.1.aj,f.pins=0): (unpinF ε'.1 n).1=0∧∀f∈(unpinF ε'.1 n).2.aj,f.pins=0:=by
 obtain⟨i,f,U,h2,h3,h4,h5⟩:=I.at J
 rw[(tV U h2 h3).2]
 exact⟨rfl,h5 _ rfl⟩
theorem kD.iR (I:kD ε n e b ε')(h:fL ε): fL ε':=by
 refine⟨I.ok h.ok h.pins,?_,?_⟩
 ·cases I with
  |dead _=>exact h.pins
  |ja e b ε' J I he=>exact I.Kx he h.pins
  |rH b ε' J I he=>exact(I.Bp h.pins).2
  |read b ε' J I he=>exact(I.Bp h.pins).2
 ·cases I with
  |dead _=>exact h.full
  |ja e b ε' J I he=>exact(I.full h.ok.dk h.full).1
  |rH b ε' J I he=>exact AV (I.full h.ok.dk h.full).1
  |read b ε' J I he=>exact AV (I.full h.ok.dk h.full).1
theorem kD.len (J:kD ε n 0 b ε')(h:fL ε): b.length=512:=by
 generalize I:(0:Int)=e at J
 cases J with
 |dead _=>cases I
 |ja e b ε' U J he=>exact absurd I.symm he
 |rH b ε' U J he=>exact absurd I.symm he
 |read b ε' U J he=>exact(J.full h.ok.dk h.full).2 rfl
inductive GRd (ε:bA)(now:List (Int×List Nat))(bV:Bool)(n:Int): Int→List Nat→bA→Prop where
 |arg (h:¬(0≤n∧n<ε.2.2.ai.length)):GRd ε now bV n 1 [] ε
 |bV (h1:0≤n) (h2:n<ε.2.2.ai.length) (h:bV=true):GRd ε now bV n 18 [] ε
 |own (b:List Nat) (h1:0≤n) (h2:n<ε.2.2.ai.length) (h:bV=false) (hl:lookL n now=some b):GRd ε now bV n 0 b ε
 |read (e:Int) (b:List Nat) (ε':bA) (h1:0≤n) (h2:n<ε.2.2.ai.length) (h:bV=false) (hl:lookL n now=none) (hr:kD ε n e b ε'):GRd ε now bV n e b ε'
theorem GRd.iR {bV:Bool}(I:GRd ε now bV n e b ε')(h:fL ε): fL ε':=by
 cases I with
 |arg _=>exact h
 |bV _ _ _=>exact h
 |own _ _ _ _ _=>exact h
 |read e b ε' J U h3 hl I=>exact I.iR h
theorem GRd.wait {bV:Bool}(I:GRd ε now bV n e b ε'): ε'.2.2.waiting.length≤ε.2.2.waiting.length+1:=by
 cases I with
 |arg _=>exact hO _
 |bV _ _ _=>exact hO _
 |own _ _ _ _ _=>exact hO _
 |read e b ε' J U h3 hl I=>exact I.wait
theorem OpR.invoke {cl:Go.Call}{x:Operand}{m:String}{k:FuncId}{R:V→H→Prop}(J:o.op=.call cl)(hc:cl.callee=.invoke x m)
 (hx:bl E x=some (.iface t u))(hm:methV C.P t m=some k)(ha:lookArgs E cl.args.toList=some args)(I:Am.Call C k (u::args) h R): OpR C E h o R:=by
 obtain⟨v,h₁,⟨N,hN⟩,hr⟩:=I
 exact⟨v,h₁,hr,fun env U=>⟨N,by simp only[evOp,J,evCall,oC U ha,hc,bU U hx,hm];exact hN⟩⟩
theorem Ky : methV Tryz.prog 78 "Read" = some 207 := by kernel_rfl
theorem Uh : methV Tryz.prog 26 "Read" = some 44 := by kernel_rfl
theorem FY {e:TypeId}{x:Operand}(hu:Tryz.prog.underlying t=some (.pointer e)): binV Tryz.prog h .neq t x y .cH .cH=some (.bool false):=by simp only[binV,eqV,hu];rfl
theorem SM {e:TypeId}{x:Operand}{o:Nat}(hu:Tryz.prog.underlying t=some (.pointer e)): binV Tryz.prog h .neq t x y (.ptr i o) .cH=some (.bool true):=by simp only[binV,eqV,hu];rfl
theorem CP {e:TypeId}{x:Operand}{o:Nat}(hu:Tryz.prog.underlying t=some (.pointer e)): binV Tryz.prog h .eql t x y (.ptr i o) .cH=some (.bool false):=by simp only[binV,eqV,hu];rfl
theorem Yt {e k:TypeId}{x:Operand}{n m:Nat}{ds:List V}(hu:Tryz.prog.underlying t=some (.pointer e))(I:bB Tryz.prog e=some k)(J:1≤k)(hi:T.get h.tr i=some (.cells n cs false))(U:T.get h.tr j=some (.cells m ds false))(hn:1≤n)(hm:1≤m):
  binV Tryz.prog h .eql t x y (.ptr i 0) (.ptr j 0)=some (.bool (Nat.beq i j)):=by
 simp only[binV,eqV,hu,I,aZ.2 J,ak,hi,U,aZ.2 hn,aZ.2 hm,jA,gx,Bool.and_true,mR]
section
variable {told:dI} {p aq:Nat} {op v:V} {bV:Bool}
theorem On (I:W told)(s:Sat h (cB a p q r .cH data aq::S)): Call ⟨Tryz.prog,told⟩ 38 [.ptr a 0] h fun v h'=>∃g,v=.bD [.ptr g 0,.int .i64 0]∧Sat h' (gZ g a [] false::cB a p q r (.ptr g 0) data aq::S):=by
 obtain⟨dv,s⟩:=bM.1 s
 refine Call.of_wp (I.free _ rfl) Tryz.func38 rfl rfl (zK 10 rfl (zY s 0 qS GR rfl (zC rfl (FY tT) (rfl) (zk 7 rfl ?_))))
 refine ay.yb s rfl rfl rfl rfl (fun J h s => ?_)
 refine zo rfl (dn rfl (by rw[X5];rfl)) ?_
 refine ay.cV s rfl rfl rfl (gP rfl rfl) (fun U h s => ?_)
 refine zn rfl (zf rfl (qS _ _) ?_)
 refine zS rfl (by exact s.dV (k:=2) rfl V6 rfl (by decide) rfl rfl) (fun h s => ?_)
 refine zk 5 rfl (zY s 2 qS GR rfl (zk 3 rfl (WP.ret ⟨aa,_,rfl,?_⟩)))
 have s1:=tL (f:=fun v (b:List Nat)=>.cm v b) (s.ae [1])
 have s:=fJ.2 ⟨_,s1.ae [1]⟩
 exact⟨_,rfl,(bM.2 ⟨dv,s.ae [1,1,0]⟩).ae [1]⟩
theorem Hz (hT:W told)(s:Sat h (gZ g a now bV::cB a p q r op data aq::cq r p q π::bh q p μ::aD p δ::S))(U:fL (π,μ,δ))(hw:δ.waiting.length≤268435456)(nc:∀e∈now,e.2.length=512):
  Call ⟨Tryz.prog,told⟩ 207 [.ptr g 0,.int .i64 n] h fun v h'=>∃(e:Int) (b:List Nat) (ε:bA),GRd (π,μ,δ) now bV n e b ε ∧
   ((e≠0∧v=.bD [.bw,.int .i64 e]∧Sat h' (gZ g a now bV::cB a p q r op data aq::cq r p q ε.1::bh q p ε.2.1::aD p ε.2.2::S)) ∨
    (e=0∧∃u,v=.bD [u,.int .i64 0]∧Sat h' (bH u b::gZ g a now bV::cB a p q r op data aq::cq r p q ε.1::bh q p ε.2.1::aD p ε.2.2::S))):=by
 have s0:=s
 obtain⟨nv,s⟩:=fJ.1 s
 obtain⟨dv,s⟩:=bM.1 (s.ae [2])
 dsimp only[bringA,getA,aQ] at s
 refine Call.of_wp (hT.free _ rfl) Tryz.func207 rfl rfl (zK 6 rfl (WP.block (zK 3 rfl ?_)))
 refine zd rfl (aJ rfl rfl bq) ?_ ?_
 ·intro J
  have J:n<0:=by simpa using J
  exact zk 20 rfl (WP.ret ⟨aa,_,rfl,1,[],_,.arg (by simp only;omega),.inl ⟨by decide,rfl,s0⟩⟩)
 ·intro J
  have J:0≤n:=by simp at J;omega
  refine zk 4 rfl (zY s 2 qT A_ rfl (zn rfl (zY s 0 pI jK rfl (zc rfl (Bg hT (s.ae [6])) ?_))))
  rintro v h ⟨rfl,rfl⟩
  refine zd rfl (aJ rfl rfl kK) ?_ ?_
  ·intro I
   have I:(δ.ai.length:Int)≤n:=by simpa using I
   exact zk 9 rfl (WP.ret ⟨aa,_,rfl,1,[],_,.arg (by simp only;omega),.inl ⟨by decide,rfl,s0⟩⟩)
  ·intro I
   have I:n<(δ.ai.length:Int):=by simp at I;omega
   refine zk 8 rfl (zf rfl (DV _ _) ?_)
   cases bV with
   |true =>
    exact zt rfl (aT rfl (s.ld (k:=2) rfl jQ rfl)) (rfl) (zk 8 rfl (WP.ret ⟨aa,_,rfl,18,[],_,.bV J I rfl,.inl ⟨by decide,rfl,s0⟩⟩))
   |false =>
    refine zh rfl (aT rfl (by exact s.ld (k:=2) rfl jQ rfl)) (rfl) ?_
    refine za rfl (zv (zj rfl (WP.skip (zw (zg rfl (zk 2 rfl (zf rfl (qU _ _) (zl rfl (by exact s.ld (k:=2) rfl jF rfl) ?_))))))))
    refine zm rfl ?_
    rcases mw (n:=n) (fun _ _=>aF.cm _ _) (s.ae [3]) kZ bK yc with⟨g1,g2,_⟩|⟨u,b,g1,g2,_,s2⟩
    ·refine ay.op rfl rfl rfl (gX rfl rfl g2) ?_
     refine zk 5 rfl (zv (zg rfl (zm rfl (zv (zj rfl (WP.skip (zg rfl (zk 2 rfl (zf rfl (qT _ _) (zl rfl (by exact s.ld (k:=2) rfl A_ rfl) ?_))))))))))
     refine zm rfl (zc rfl (Bo (n:=n) hT (s0.ae [1,1,1,1]) U.ok U.pins hw) ?_)
     rintro v h ⟨e,b,ε,hr,(⟨he,rfl,s⟩|⟨rfl,u,rfl,s⟩)⟩
     ·dsimp only[bringA,getA,aQ] at s
      exact zk 5 rfl (WP.ret ⟨aa,_,rfl,e,b,ε,.read e b ε J I rfl g1 hr,.inl ⟨he,rfl,s.ae [4]⟩⟩)
     ·dsimp only[bringA,getA,aQ] at s
      exact zk 5 rfl (WP.ret ⟨aa,_,rfl,0,b,ε,.read 0 b ε J I rfl g1 hr,.inr ⟨rfl,u,rfl,s.ae [0,4]⟩⟩)
    ·dsimp only[bringA,getA,aQ] at s2
     refine zo rfl (gX rfl rfl g2) (zk 14 rfl ?_)
     have hb:=nc _ (fh g1)
     refine zc rfl (jY hT s2 (cI _ _) (by simp only at hb;omega)) ?_
     intro v h s
     refine zk 3 rfl (WP.ret ⟨aa,_,rfl,?_⟩)
     have s:=bM.2 ⟨dv,s.ae [3,3,0,0,0,0,0,0,0]⟩
     have s:=fJ.2 ⟨nv,s.ae [4,3]⟩
     exact⟨0,b,_,.own b J I rfl g1,.inr ⟨rfl,v,rfl,((s.ae [2,0,0,1,1,1]).del 6)⟩⟩
end
inductive mC (ε:bA)(now:List (Int×List Nat))(bV:Bool)(n:Int)(b:List Nat): Int→List (Int×List Nat)→bA→Prop where
 |may (e:Int) (c:List Nat) (ε':bA) (hr:GRd ε now bV n e c ε') (he:e≠0):mC ε now bV n b e now ε'
 |bad (c:List Nat) (ε':bA) (hr:GRd ε now bV n 0 c ε') (hg:bR b=false):mC ε now bV n b 4 now ε'
 |done (c:List Nat) (ε':bA) (hr:GRd ε now bV n 0 c ε') (hg:bR b=true):mC ε now bV n b 0 (cY n b now) ε'
theorem mC.iR {bV:Bool}(I:mC ε now bV n b e fB ε')(h:fL ε): fL ε':=by
 cases I with
 |may e c ε' I he=>exact I.iR h
 |bad c ε' I J=>exact I.iR h
 |done c ε' I J=>exact I.iR h
theorem mC.wait {bV:Bool}(I:mC ε now bV n b e fB ε'): ε'.2.2.waiting.length≤ε.2.2.waiting.length+1:=by
 cases I with
 |may e c ε' I he=>exact I.wait
 |bad c ε' I J=>exact I.wait
 |done c ε' I J=>exact I.wait
section
variable {told:dI} {p aq:Nat} {op v:V} {bV:Bool}
theorem WA (U:W told)(s:Sat h (gZ g a now bV::cB a p q r op data aq::cq r p q π::bh q p μ::aD p δ::S))(J:fL (π,μ,δ))(hw:δ.waiting.length≤268435456)(I:∀e∈now,e.2.length=512):
  Call ⟨Tryz.prog,told⟩ 89 [.iface 78 (.ptr g 0),.int .i64 n] h fun v h'=>∃(e:Int) (b:List Nat) (ε:bA),GRd (π,μ,δ) now bV n e b ε∧v=.int .i64 e ∧
   Sat h' (gZ g a now bV::cB a p q r op data aq::cq r p q ε.1::bh q p ε.2.1::aD p ε.2.2::S):=by
 refine Call.of_wp (U.free _ rfl) Tryz.func89 rfl rfl (zK 8 rfl (ay.any rfl rfl rfl (OpR.invoke rfl rfl rfl Ky rfl (Hz (n:=n) U s J hw I)) ?_))
 rintro v h ⟨e,b,ε,hr,(⟨he,rfl,s⟩|⟨rfl,u,rfl,s⟩)⟩
 ·refine ay.op rfl rfl rfl (bj rfl) ?_
  exact zk 10 rfl (WP.ret ⟨aa,_,rfl,e,b,ε,hr,rfl,s⟩)
 ·skip
  exact zk 11 rfl (WP.ret ⟨aa,_,rfl,0,b,ε,hr,rfl,s.drop⟩)
theorem Oo (U:W told)(s:Sat h (gZ g a now bV::cB a p q r op data aq::cq r p q π::bh q p μ::aD p δ::X::S))(hX:cX X (dc x b))(hb:b.length<9223372036854775808)(rf:fL (π,μ,δ))(hw:δ.waiting.length≤268435456)(J:∀e∈now,e.2.length=512):
  Call ⟨Tryz.prog,told⟩ 40 [.ptr g 0,.int .i64 n,x] h fun v h'=>∃(e:Int) (fB:List (Int×List Nat)) (ε:bA),mC (π,μ,δ) now bV n b e fB ε∧v=.int .i64 e ∧
   Sat h' (gZ g a fB bV::cB a p q r op data aq::cq r p q ε.1::bh q p ε.2.1::aD p ε.2.2::X::S):=by
 refine Call.of_wp (U.free _ rfl) Tryz.func40 rfl rfl (zK 8 rfl (zo rfl (Lu rfl (mki_of tT rfl)) (zm rfl (zc rfl (WA (n:=n) U s rf hw J) ?_))))
 rintro v h ⟨e,c,ε,hr,rfl,s⟩
 refine zk 5 rfl ?_
 by_cases he:e=0
 ·skip
  subst he
  refine zC rfl aX (rfl) (zk 7 rfl (zc rfl (Km U (s.ae [5]) hX hb) ?_))
  rintro v h ⟨rfl,s⟩
  refine zo rfl (dQ rfl rfl) (zv ?_)
  by_cases I:bR b=true
  ·skip
   refine WP.Si rfl (by rw[I];rfl) ?_
   have aaC:=fb I
   obtain⟨nv,s⟩:=fJ.1 (s.ae [1])
   have s:=s.ae [2,0,0]
   obtain⟨vP,rfl⟩:=yo s (j:=2) rfl
   refine zK 2 rfl ?_
   have s0:=s
   refine WP.drawn [some (0,2),some (0,2),some (0,2),some (0,2),some (0,2),af,af,af] rfl (by kernel_rfl) (by kernel_rfl) ?_
   refine zM rfl (zN rfl (zF rfl (qU _ _) (zL rfl (s.ld (k:=1) rfl jF rfl) (zM rfl (zM rfl (au.any rfl rfl rfl rfl (OpR.call rfl rfl rfl rfl (jY U s hX (by omega))) ?_))))))
   intro u h s
   obtain⟨xy,_,cap,_,rfl,_⟩:=s.kq (by omega)
   have s:=s.fO
   have s1:=s
   refine au.ik rfl rfl rfl (OpR.mapUpdate rfl rfl rfl rfl (oQ (f:=fun v b=>aS.cm v b) (x:=b) (fun _ _=>aF.cm _ _) (s.ae [0,2]) kZ bK)) ?_
   intro w h s
   refine au.nil ⟨⟨fun _ _=>.inr ⟨rfl,⟨_,bj rfl⟩,aU _ rfl⟩,fun _ _=>.inr ⟨rfl,⟨_,jU rfl⟩,aU _ rfl⟩,fun _ _=>.inr ⟨rfl,⟨_,jg rfl (qU _ _)⟩,aU _ rfl⟩,dR (.inr ⟨rfl,⟨_,aT rfl (s0.ld (k:=1) rfl jF rfl)⟩,aU _ rfl⟩) (.inr ⟨rfl,⟨_,aT rfl (s1.ld (k:=2) rfl jF rfl)⟩,aU _ rfl⟩),fun _ _=>.inr ⟨rfl,⟨_,bj rfl⟩,aU _ rfl⟩,aa,aa,aa,aa⟩,?_⟩
   exact zK 4 rfl (WP.ret ⟨aa,_,rfl,0,_,ε,.done c ε hr I,rfl,fJ.2 ⟨.map vP,s.ae [2,0,1,1,1,1,0]⟩⟩)
  ·have I:bR b=false:=by simpa using I
   refine WP.LB rfl (by rw[I];rfl) ?_
   exact zK 4 rfl (WP.ret ⟨aa,_,rfl,4,_,ε,.bad c ε hr I,rfl,s.ae [1,1,1,1,1,0]⟩)
 ·skip
  refine zB rfl aX (by simp;exact he) ?_
  exact zk 7 rfl (WP.ret ⟨aa,_,rfl,e,_,ε,.may e c ε hr he,rfl,s⟩)
theorem E7 (I:W told)(s:Sat h (gZ g a now bV::cB a p q r (.ptr g 0) data aq::S)): Call ⟨Tryz.prog,told⟩ 105 [.ptr g 0] h fun v h'=>v=.bD []∧Sat h' (gZ g a now true::cB a p q r .cH data aq::S):=by
 obtain⟨nv,s⟩:=fJ.1 s
 obtain⟨dv,s⟩:=bM.1 (s.ae [2])
 refine Call.of_wp (I.free _ rfl) Tryz.func105 rfl rfl (zK 4 rfl (zf rfl (DV _ _) ?_))
 refine zS rfl (by exact s.dV (k:=2) rfl xw rfl (by decide) rfl rfl) (fun h s => ?_)
 refine zk 5 rfl (zY s 2 qT A_ rfl (zn rfl (zY s 0 qS GR rfl (zm rfl (zB rfl (Yt tT X4 (by decide) (s.row (k:=2) rfl) (s.row (k:=2) rfl) (by decide) (by decide)) (gx g) ?_)))))
 refine zk 5 rfl (zY s 2 qT A_ rfl (zn rfl (zf rfl (qS _ _) ?_)))
 refine zS rfl (by exact s.dV (k:=0) rfl V6 rfl (by decide) rfl rfl) (fun h s => ?_)
 refine zv ?_
 have s:=fJ.2 ⟨nv,(bM.2 ⟨dv,s⟩).ae [1,1]⟩
 exact⟨aa,_,rfl,rfl,s⟩
theorem HA (I:W told)(s:Sat h (gZ g a now bV::cB a p q r (.ptr g 0) data aq::S)): Call ⟨Tryz.prog,told⟩ 59 [.ptr g 0] h fun v h'=>v=.bD []∧Sat h' (gZ g a now true::cB a p q r .cH data aq::S):=by
 refine Call.of_wp (I.free _ rfl) Tryz.func59 rfl rfl (zK 2 rfl (zc rfl (E7 I s) ?_))
 rintro v h ⟨rfl,s⟩
 exact zv ⟨aa,_,rfl,rfl,s⟩
end
inductive uz (aO:Int)(eO now:List Nat): Nat→List ct→Prop where
 |done (i:Nat) (h:now.length≤i):uz aO eO now i []
 |skip (i:Nat) (l:List ct) (h:i<now.length) (he:eO[i]?=now[i]?) (hr:uz aO eO now (i+1) l):uz aO eO now i l
 |take (i e:Nat) (l:List ct) (h1:i<e) (h2:e≤now.length) (h3:eO[i]?≠now[i]?) (h4:∀k,e≤k→k<e+8→eO[k]?=now[k]?) (hr:uz aO eO now e l):uz aO eO now i (⟨aO,i,false,(now.take e).drop i⟩::l)
def HB (aO:Int)(eO now:List Nat)(c:List ct): Prop:=∃l,uz aO eO now 12 l∧c=if l=[] then[⟨aO,0,false,[]⟩] else l
theorem tW : ∃i,Tryz.prog.info? 237=some i∧i.size=4∧i.bytes=48 :=
 ⟨_,(show Tryz.prog.info? 237=some ((Tryz.prog.info? 237).getD default) by kernel_rfl),by kernel_rfl,by kernel_rfl⟩
section
variable {told:dI} {p aq:Nat} {op v:V} {now:List Nat}
noncomputable def rgO : Code:=cC [1,1,0,1,0,0] ((Tryz.f173.body).getD .skip)
noncomputable def rgI : Code:=cC [1,1,0,1,0,0,1,0,1,1,0,1,0,0] ((Tryz.f173.body).getD .skip)
theorem QW {pg:Int}{I:Nat}{t7:V}{k1 k2:Nat}(s:Sat h S)(BJ:getA S k1=some X)(hX:cX X (dc u eO))(EU:getA S k2=some Y)(hY:cX Y (dc v now))(tQ:eO.length=512)(i_:now.length=512): ∀(j i e:Nat) (E:List (Nat×V)) (Q:Ex→List (Nat×V)→H→Prop),i+j=512→I<e→e≤i→(∀k,e≤k→k<i→eO[k]?=now[k]?) →
  Has E [(0,.int .i64 pg),(1,u),(2,v),(7,t7),(8,.int .i64 (I:Int)),(9,.int .i64 (e:Int)),(10,.int .i64 (i:Int))] →
  (∀J E',I<J→J≤512→(∀k,J≤k→k<J+8→eO[k]?=now[k]?)→Has E' [(0,.int .i64 pg),(1,u),(2,v),(7,t7),(8,.int .i64 (I:Int)),(9,.int .i64 (J:Int))]→Q (.exit 2) E' h) →
  WP ⟨Tryz.prog,told⟩ 71 (.loop rgI) E h Q:=by
 have hv:=s.aL EU hY
 have hu:=s.aL BJ hX
 have hlen:lenV Tryz.prog h 23 v=some (.int .i64 now.length):=bk aW hv
 intro j
 induction j with
 |zero =>
  intro i e E Q hi h1 h2 hg hE U
  refine WP.loop (WP.has hE (zK 5 rfl (zo rfl (aY rfl rfl rfl hlen) (zC rfl bq (by grind) ?_))))
  refine zk 8 rfl (WP.exit ?_)
  refine U e _ h1 (by omega) (fun k k1 _ => ?_) ⟨rfl,rfl,rfl,rfl,rfl,rfl,aa⟩
  by_cases hk:k<i
  ·grind
  ·grind
 |succ j ih =>
  intro i e E Q hi h1 h2 hg hE U
  have hb:now[i]?=some (now[i]'(by omega)):=bn _
  generalize (now[i]'(by omega))=b at hb
  have hc:eO[i]?=some (eO[i]'(by omega)):=bn _
  generalize (eO[i]'(by omega))=c at hc
  obtain⟨id,off,e1,e2⟩:=iz hv hb
  obtain⟨BP,off',e3,e4⟩:=iz hu hc
  refine WP.loop (WP.has hE (zK 5 rfl (zo rfl (aY rfl rfl rfl hlen) (zB rfl bq (by grind) ?_))))
  refine zk 3 rfl (zb rfl (by exact bP (aV (by omega) (by omega))) ?_)
  by_cases hd:i<e+8
  ·skip
   refine zB rfl bq (by grind) ?_
   refine zk 5 rfl (WP.block (zw ?_))
   have s0:=s
   refine WP.drawn [af,af,af,af,af,af,af,af,af] rfl (by kernel_rfl) (by kernel_rfl) ?_
   refine zM rfl (zM rfl (zO rfl (dD (r:=.ptr BP off') rfl rfl e3) (zL rfl e4 (zM rfl (zM rfl (zO rfl (dD (r:=.ptr id off) rfl rfl e1) (zL rfl e2 ?_)))))))
   by_cases hbc:c=b
   ·skip
    refine au.mN rfl rfl rfl rfl (aJ rfl rfl aX) (by grind) ?_
    refine au.nil ⟨⟨aa,aa,aa,aa,aa,aa,aa,aa,aa,aa⟩,?_⟩
    refine zj rfl (WP.skip (zr rfl (zm rfl (zb rfl (by exact bP (aV (by omega) (by omega))) ?_))))
    refine za rfl (zv ?_)
    exact ih (i+1) e _ Q (by omega) h1 (by omega) (fun k k1 k2=>(by
     grind)) ⟨rfl,rfl,rfl,rfl,rfl,rfl,rfl,aa⟩ U
   ·skip
    refine au.oc rfl rfl rfl rfl (aJ rfl rfl aX) (by grind) ?_
    refine au.nil ⟨⟨aa,aa,aa,aa,aa,aa,aa,aa,aa,aa⟩,?_⟩
    refine zK 3 rfl (zb rfl (by exact bP (aV (by omega) (by omega))) ?_)
    refine za rfl (zv (zr rfl (zm rfl (zb rfl (by exact bP (aV (by omega) (by omega))) ?_))))
    refine za rfl (zv ?_)
    exact ih (i+1) (i+1) _ Q (by omega) (by omega) (by omega) (fun k k1 k2=>absurd k2 (by omega)) ⟨rfl,rfl,rfl,rfl,rfl,rfl,rfl,aa⟩ U
  ·skip
   refine zC rfl bq (by grind) ?_
   exact zk 3 rfl (WP.exit (U e _ h1 (by omega) (fun k k1 k2=>hg k k1 (by omega)) ⟨rfl,rfl,rfl,rfl,rfl,rfl,aa⟩))
theorem QX (hT:W told){pg:Int}(hX:cX X (dc u eO))(hY:cX Y (dc v now))(tQ:eO.length=512)(i_:now.length=512): ∀(j i:Nat) (acc:List ct) (av:V) (cs:List V) (h:H) (E:List (Nat×V)) (Q:Ex→List (Nat×V)→H→Prop),512≤i+j→i≤512→acc.length≤i →
  Sat h (.arr 4 av cs::cZ cs acc::X::Y::S)→(∀l,uz pg eO now i l→uz pg eO now 12 (acc++l)) →
  Has E [(0,.int .i64 pg),(1,u),(2,v),(7,av),(8,.int .i64 (i:Int))] →
  (∀U cs' l E' h',uz pg eO now 12 l→l.length≤512→Sat h' (.arr 4 U cs'::cZ cs' l::X::Y::S)→Has E' [(0,.int .i64 pg),(7,U)]→Q (.exit 0) E' h') →
  WP ⟨Tryz.prog,told⟩ 71 (.loop rgO) E h Q:=by
 intro j
 induction j with
 |zero =>
  intro i acc av cs h E Q hj hi WB s I hE hq
  have hlen:lenV Tryz.prog h 23 v=some (.int .i64 now.length):=bk aW (s.aL (k:=3) rfl hY)
  refine WP.loop (WP.has hE (zK 5 rfl (zo rfl (aY rfl rfl rfl hlen) (zC rfl bq (by grind) ?_))))
  refine zk 2 rfl (WP.exit ?_)
  have:=I [] (.done _ (by omega))
  rw[cS] at this
  exact hq av cs acc _ _ this (by omega) s ⟨rfl,rfl,aa⟩
 |succ j ih =>
  intro i acc av cs h E Q hj hi WB s I hE hq
  have hv:=s.aL (k:=3) rfl hY
  have hu:=s.aL (k:=2) rfl hX
  have hlen:lenV Tryz.prog h 23 v=some (.int .i64 now.length):=bk aW hv
  by_cases b8:i<512
  ·have hb:now[i]?=some (now[i]'(by omega)):=bn _
   generalize (now[i]'(by omega))=b at hb
   have hc:eO[i]?=some (eO[i]'(by omega)):=bn _
   generalize (eO[i]'(by omega))=c at hc
   obtain⟨id,off,e1,e2⟩:=iz hv hb
   obtain⟨BP,off',e3,e4⟩:=iz hu hc
   refine WP.loop (WP.has hE (zK 5 rfl (zo rfl (aY rfl rfl rfl hlen) (zB rfl bq (by grind) ?_))))
   refine zk 3 rfl (WP.block (zK 2 rfl ?_))
   have s0:=s
   refine WP.drawn [af,af,af,af,af,af,af,af,af] rfl (by kernel_rfl) (by kernel_rfl) ?_
   refine zM rfl (zM rfl (zO rfl (dD (r:=.ptr BP off') rfl rfl e3) (zL rfl e4 (zM rfl (zM rfl (zO rfl (dD (r:=.ptr id off) rfl rfl e1) (zL rfl e2 ?_)))))))
   by_cases hbc:c=b
   ·skip
    refine au.oc rfl rfl rfl rfl (aJ rfl rfl bZ) (by grind) ?_
    refine au.nil ⟨⟨aa,aa,aa,aa,aa,aa,aa,aa,aa,aa⟩,?_⟩
    refine zK 4 rfl (zb rfl (by exact bP (aV (by omega) (by omega))) ?_)
    exact zk 2 rfl (WP.exit (ih (i+1) acc av cs h _ Q (by omega) (by omega) (by omega) s (fun l hl=>I l (.skip i l (by omega) (by grind) hl)) ⟨rfl,rfl,rfl,rfl,rfl,aa⟩ hq))
   ·skip
    refine au.mN rfl rfl rfl rfl (aJ rfl rfl bZ) (by grind) ?_
    refine au.nil ⟨⟨aa,aa,aa,aa,aa,aa,aa,aa,aa,aa⟩,?_⟩
    refine zK 5 rfl (zb rfl (by exact bP (aV (by omega) (by omega))) ?_)
    refine zk 8 rfl (WP.block ?_)
    refine QW s (k1:=2) (k2:=3) rfl hX rfl hY tQ i_ (512-(i+1)) (i+1) (i+1) _ _ (by omega) (Ds i) (aP _) (fun k k1 k2=>absurd k2 (by omega)) ⟨rfl,rfl,rfl,rfl,rfl,rfl,rfl,aa⟩ (fun e' E' ZQ he2 HC fW => ?_)
    refine WP.has fW ?_
    have hsv:=iM hv (a:=i) (b:=e') (by omega) (by omega)
    refine zK 8 rfl (zo rfl (cG (p:=some (.int .i64 (i:Int))) (q:=some (.int .i64 (e':Int))) (m:=none) (p':=some i) (q':=some e') (m':=none) rfl rfl rfl rfl (by rfl) (by rfl) rfl hsv.1) ?_)
    refine zc rfl (jY hT (s.ae [3]) (mF hY (a:=i) (b:=e') (by omega) (by omega)) (by grind)) ?_
    intro w h s
    dsimp only[bringA,getA,aQ] at s
    obtain⟨wid,_,J,_,rfl,_⟩:=s.kq (by grind)
    have s:=s.fO
    generalize EE:(now.take e').drop i=bs at s
    refine zo rfl (dn rfl (by rw[LJ];rfl)) ?_
    obtain⟨rv,h1,uy,s1⟩:=kr (P:=Tryz.prog) (k:=4) (x:=.agg [.int .i64 pg,.int .i64 (i:Int),.bool false,.sl wid 0 bs.length J]) s iQ nV oL rfl (by decide) (by decide) rfl rfl
    dsimp only[V.cells] at s1
    refine ay.any rfl rfl rfl (OpR.of (R:=fun v h'=>v=rv∧h'=h1) (mE rfl uy) ⟨rfl,rfl⟩) ?_
    rintro v' h' ⟨rfl,rfl⟩
    obtain⟨i1,kI,jd,qj⟩:=tW
    have ob:cs.length=acc.length*4:=by
     obtain⟨a,b,q1,q2,q3⟩:=s1.at (k:=4) rfl
     exact oS q3
    obtain⟨U,h2,tR,s2⟩:=iN (s1.ae [3,0]) iQ kI nV jd (by omega) rfl (by decide) (by grind)
    dsimp only[bringA,getA,aQ] at s2
    refine ay.any rfl rfl rfl (OpR.of (R:=fun v h'=>v=U∧h'=h2) (mD rfl rfl tR) ⟨rfl,rfl⟩) ?_
    rintro v' h' ⟨rfl,rfl⟩
    refine za rfl (zv (zr rfl (zk 2 rfl (zv ?_))))
    have s3:Sat _ (cZ cs acc::.cm (.sl wid 0 bs.length J) bs::_):=s2.ae [4,2]
    have s4:=s3.two (C:=cZ (cs++[.int .i64 pg,.int .i64 (i:Int),.bool false,.sl wid 0 bs.length J]) (acc++[⟨pg,i,false,bs⟩])) (aF.lD _ _) (aF.cm _ _) fun a b q1 q2=>wN q1 ⟨⟨⟨rfl,rfl,rfl⟩,q2⟩,aa⟩
    have s5:=(s4.ae [1,0,2,1]).del 4
    dsimp only[bringA,getA,aQ] at s5
    refine ih e' (acc++[⟨pg,(i:Int),false,bs⟩]) _ _ _ _ Q (by omega) he2 (by grind) s5 (fun l hl => ?_) ⟨rfl,rfl,rfl,rfl,rfl,aa⟩ hq
    have:=I _ (.take i e' l ZQ (by omega) (fun hx=>by grind) HC hl)
    rw[EE] at this
    rwa [cE]
  ·have hi5:i=512:=by omega
   refine WP.loop (WP.has hE (zK 5 rfl (zo rfl (aY rfl rfl rfl hlen) (zC rfl bq (by simp<;>omega) ?_))))
   refine zk 2 rfl (WP.exit ?_)
   have:=I [] (.done _ (by omega))
   rw[cS] at this
   exact hq av cs acc _ _ this (by omega) s ⟨rfl,rfl,aa⟩
theorem Oq (hT:W told){pg:Int}(s:Sat h (X::Y::S))(hX:cX X (dc u eO))(hY:cX Y (dc v now))(I:eO.length=512)(J:now.length=512):
  Call ⟨Tryz.prog,told⟩ 173 [.int .i64 pg,u,v] h fun w h'=>∃cs l,HB pg eO now l∧l.length≤512∧Sat h' (.arr 4 w cs::cZ cs l::X::Y::S):=by
 refine Call.of_wp (hT.free _ rfl) Tryz.func173 rfl rfl (zK 13 rfl (WP.block ?_))
 refine QX hT (pg:=pg) hX hY I J 500 12 [] .bw [] _ _ _ (by omega) (by omega) (by simp) ((s.gB aa).qh) (fun l hl=>hl) ⟨rfl,rfl,rfl,rfl,rfl,aa⟩ (fun CK cs' l E' h' hr U s' fW => ?_)
 have s:=s'
 have hlen:=s.vN (j1:=0) (j2:=1) rfl rfl iQ
 have CQ:=s.jW (j:=0) rfl
 refine WP.has fW (zK 4 rfl (zo rfl (aY rfl rfl rfl hlen) ?_))
 by_cases A5:l=[]
 ·skip
  refine zB rfl bZ (by grind) ?_
  refine zk 5 rfl (zo rfl (dn rfl (by rw[LJ];rfl)) ?_)
  obtain⟨rv,h1,uy,s1⟩:=kr (P:=Tryz.prog) (k:=4) (x:=.agg [.int .i64 pg,.int .i64 0,.bool false,.bw]) s iQ nV oL rfl (by decide) (by decide) rfl rfl
  dsimp only[V.cells] at s1
  refine ay.any rfl rfl rfl (OpR.of (R:=fun v h'=>v=rv∧h'=h1) (mE rfl uy) ⟨rfl,rfl⟩) ?_
  rintro v' h' ⟨rfl,rfl⟩
  refine zk 2 rfl (WP.ret ⟨aa,_,rfl,?_⟩)
  refine⟨[.int .i64 pg,.int .i64 0,.bool false,.bw],[⟨pg,0,false,[]⟩],⟨l,hr,by grind⟩,by simp,?_⟩
  have s2:=(s1.del 2).del 1
  have s3:Sat _ (.cm .bw []::.arr 4 v' _::X::Y::S):=s2.rG
  have s4:=s3.fR (B:=cZ [.int .i64 pg,.int .i64 0,.bool false,.bw] [⟨pg,0,false,[]⟩]) fun a b q=>⟨⟨⟨rfl,rfl,rfl⟩,q⟩,aa⟩
  exact s4.ae [1,0]
 ·skip
  refine zC rfl bZ (by simp_all) ?_
  exact zk 8 rfl (WP.ret ⟨aa,_,rfl,_,l,⟨l,hr,by grind⟩,U,s⟩)
end
def ia (m:List Fm): Nat:=(m.map (·.changed)).count true
theorem mZ {g:Fm}: ∀ {m:List Fm} {i:Nat},m[i]?=some f→ia (m.set i g)+f.changed.toNat=ia m+g.changed.toNat:=by
 intro m
 induction m with
 |nil=>simp
 |cons x m I =>
  intro i h
  cases i<;>grind[ia]
theorem CR {g:Fm}(I:g.changed=false): ∀ {m:List Fm} {i:Nat},ia (m.set i g)≤ia m:=by
 intro m i
 cases h:m[i]? with
 |none =>
  grind[List.set_eq_of_length_le]
 |some f =>
  have:=mZ (g:=g) h
  grind
def cg (ε:bA): Nat:=ε.2.2.waiting.length+ia ε.1.aj
theorem nD : ε.2.2.waiting.length≤cg ε:=vh _ _
theorem fK.count (I:fK π bC): ia bC.aj=ia π.aj:=by
 have:bC.aj.map (·.changed)=π.aj.map (·.changed):=by
  refine Dn fun i => ?_
  rw[Dm,Dm]
  cases h:π.aj[i]? with
  |none =>
   have J:π.aj.length≤i:=by grind
   have:bC.aj[i]?=none:=by simp[I.len,J]
   rw[this]
  |some f =>
   obtain⟨t,U⟩:=I.get i f h
   rw[U];rfl
 simp only[ia,this]
theorem HD (h:(δ.a_ n b).1≠0): (δ.a_ n b).2.waiting=δ.waiting:=by
 unfold Dk.a_ at h ⊢
 split
 ·rfl
 ·rename_i I
  split
  ·rfl
  ·rename_i J
   split
   ·rfl
   grind
theorem HE : cg (outF ε i).2≤cg ε:=by
 grind[outF,cg,nB,HD,AT,mZ]
theorem yH : ia (dN π i f).aj≤ia π.aj:=CR rfl
theorem eY.cg (J:eY ε n e b ε'): Am.cg ε'≤Am.cg ε:=by
 have rj:∀ {bC:Pl},fK ε.1 bC→∀i,Am.cg (outF (bC,ε.2) i).2≤Am.cg ε:=fun {bC} I i=>by
  have:=HE (ε:=(bC,ε.2)) (i:=i)
  refine b_ this ?_
  simp only[Am.cg,I.count]
  exact aP _
 cases J with
 |arg _=>simp
 |xB i f U h2 hl hf =>
  grind[mZ,Am.cg]
 |out bC i f U h2 hl I hf hh he=>grind
 |read bC i f U h2 hl I hf hh he J=>exact b_ (vb yH _) (rj I i)
 |bad bC i f U h2 hl I hf hh he J hc=>exact b_ (vb yH _) (rj I i)
 |load bC i f U h2 hl I hf hh he J hc=>exact b_ (vb (b_ (CR rfl) yH) _) (rj I i)
theorem CS : ia (unpinF π n).2.aj=ia π.aj:=by
 grind[unpinF,mZ]
theorem kD.cg (I:kD ε n e b ε'): Am.cg ε'≤Am.cg ε:=by
 cases I with
 |dead _=>simp
 |ja e b ε' J I he=>exact I.cg
 |rH b ε' J I he=>have:=I.cg;grind[Am.cg,CS]
 |read b ε' J I he=>have:=I.cg;grind[Am.cg,CS]
theorem GRd.cg {bV:Bool}(I:GRd ε now bV n e b ε'): Am.cg ε'≤Am.cg ε:=by
 cases I with
 |arg _=>simp
 |bV _ _ _=>simp
 |own _ _ _ _ _=>simp
 |read e b ε' J U h3 hl I=>exact I.cg
theorem mC.cg {bV:Bool}(I:mC ε now bV n b e fB ε'): Am.cg ε'≤Am.cg ε:=by
 cases I with
 |may e c ε' I he=>exact I.cg
 |bad c ε' I J=>exact I.cg
 |done c ε' I J=>exact I.cg
inductive ChR (now:List (Int×List Nat)): List Int→bA→Int→List ct→bA→Prop where
 |nil (ε:bA):ChR now [] ε 0 [] ε
 |err (n:Int) (l:List Int) (ε:bA) (e:Int) (b:List Nat) (ε':bA) (hr:kD ε n e b ε') (he:e≠0):ChR now (n::l) ε e [] ε'
 |part (n:Int) (l:List Int) (ε:bA) (eO b:List Nat) (ε':bA) (c:List ct) (e:Int) (cs:List ct) (od:bA) (hr:kD ε n 0 eO ε') (hb:lookL n now=some b) (hd:(lookL n ε'.1.aN).isSome=true) (hc:HB n eO b c) (hl:c.length≤512) (ht:ChR now l ε' e cs od):ChR now (n::l) ε e (c++cs) od
 |whole (n:Int) (l:List Int) (ε:bA) (eO b:List Nat) (ε':bA) (e:Int) (cs:List ct) (od:bA) (hr:kD ε n 0 eO ε') (hb:lookL n now=some b) (hd:(lookL n ε'.1.aN).isSome=false) (ht:ChR now l ε' e cs od):ChR now (n::l) ε e (⟨n,0,true,b⟩::cs) od
theorem ChR.iR {l:List Int}{cs:List ct}(I:ChR now l ε e cs ε')(h:fL ε): fL ε':=by
 induction I with
 |nil ε=>exact h
 |err n l ε e b ε' I he=>exact I.iR h
 |part n l ε eO b ε' c e cs J I hb hd hc hl ht U=>exact U (I.iR h)
 |whole n l ε eO b ε' e cs J I hb hd ht U=>exact U (I.iR h)
theorem ChR.cg {l:List Int}{cs:List ct}(I:ChR now l ε e cs ε'): Am.cg ε'≤Am.cg ε:=by
 induction I with
 |nil ε=>simp
 |err n l ε e b ε' I he=>exact I.cg
 |part n l ε eO b ε' c e cs J I hb hd hc hl ht U=>exact b_ U I.cg
 |whole n l ε eO b ε' e cs J I hb hd ht U=>exact b_ U I.cg
theorem uW {b:Nat}{v:V}(I:look E a=some v)(J:look E b=some w): resLE P E h [.tmp a,.tmp b]=some (.bD [v,w]):=by grind[resLE,mapO,resE]
section
variable {told:dI} {p aq:Nat} {op v:V} {bV:Bool}
theorem wR (I:W told)(s:Sat h S): Call ⟨Tryz.prog,told⟩ 107 [.map id] h fun v h'=>∃b,v=.fn (.func 177) [] [.ptr b 0]∧Sat h' (pt b (.cells 1 [.map id] false)::S):=by
 refine Call.of_wp (I.free _ rfl) Tryz.func107 rfl rfl (zg rfl ?_)
 refine ay.cV s rfl rfl rfl (gP rfl rfl) (fun p1 h s => ?_)
 exact zk 4 rfl (zo rfl (Ac rfl rfl) (zk 2 rfl (WP.ret ⟨aa,_,rfl,_,rfl,s⟩)))
theorem Ot (I:W told)(s:Sat h (gZ g a now bV::S))(hm:now.length≤1048576)(U:∀n∈now.map (·.1),(Lit.int .i64 n).wf=true):
  Call ⟨Tryz.prog,told⟩ 92 [.ptr g 0] h fun v h'=>Sat h' (.arr 1 v (eS (az now))::gZ g a now bV::S):=by
 obtain⟨nv,s⟩:=fJ.1 s
 obtain⟨J,rfl⟩:=yo s (j:=1) rfl
 refine Call.of_wp (I.free _ rfl) Tryz.func92 rfl rfl (zK 8 rfl (zY s 0 qU jF rfl (zc rfl (wR I s) ?_)))
 rintro v h ⟨b,rfl,s⟩
 refine zc rfl (pU I (s.ae [0,1]) (by decide) hm U) ?_
 intro kv h s
 exact zk 2 rfl (WP.ret ⟨aa,_,rfl,(fJ.2 ⟨.map J,(s.ae [3,2,0]).del 3⟩).ae [1]⟩)
noncomputable def cgL : Code:=cC [1,1,0,1,0,0] ((Tryz.f103.body).getD .skip)
theorem HF (hT:W told)(Od:ks.length≤65536)(qt:∀n∈ks,(lookL n now).isSome=true)(nc:∀e∈now,e.2.length=512): ∀(j i:Nat) (acc:List ct) (av:V) (cs:List V) (ε:bA) (h:H) (E:List (Nat×V)) (Q:Ex→List (Nat×V)→H→Prop),i+j=ks.length →
  fL ε→cg ε≤268435456→acc.length≤512*i →
  Sat h (.arr 4 av cs::cZ cs acc::gZ g a now bV::cB a p q r op data aq::cq r p q ε.1::bh q p ε.2.1::aD p ε.2.2::.arr 1 kv (eS ks)::S) →
  Has E [(0,.ptr g 0),(4,av),(13,kv),(14,.int .i64 ks.length),(15,.int .i64 i)] →
  (∀e c ε' E' h',ChR now (ks.drop i) ε e c ε'→e≠0→look E' 2=some .bw→look E' 3=some (.int .i64 e)→Sat h' (gZ g a now bV::cB a p q r op data aq::cq r p q ε'.1::bh q p ε'.2.1::aD p ε'.2.2::S)→Q .ret E' h') →
  (∀c ε' E' h' U cs',ChR now (ks.drop i) ε 0 c ε'→acc.length+c.length≤512*ks.length→Has E' [(4,U)]→Sat h' (.arr 4 U cs'::cZ cs' (acc++c)::gZ g a now bV::cB a p q r op data aq::cq r p q ε'.1::bh q p ε'.2.1::aD p ε'.2.2::S)→Q (.exit 0) E' h') →
  WP ⟨Tryz.prog,told⟩ 65 (.loop cgL) E h Q:=by
 intro j
 induction j with
 |zero =>
  intro i acc av cs ε h E Q hj rf hw WB s hE hr hx
  refine WP.loop (WP.has hE (zg rfl (zC rfl bq (by grind) ?_)))
  refine zk 3 rfl (WP.exit ?_)
  rw[kL (by omega)] at hx
  have s1:=s.del 7
  dsimp only[aQ] at s1
  refine hx [] ε _ _ av cs (.nil ε) (by grind) ⟨rfl,aa⟩ ?_
  rw[cS]
  exact s1
 |succ j ih =>
  intro i acc av cs ε h E Q hj rf hw WB s hE hr hx
  have hn:ks[i]?=some (ks[i]'(by omega)):=bn _
  have xP:ks[i]'(by omega)∈ks:=vg _
  have jo:ks.drop i=ks[i]'(by omega)::ks.drop (i+1):=lJ (by omega)
  generalize (ks[i]'(by omega))=n at hn xP jo
  have hc:(eS ks)[i]?=some (.int .i64 n):=by simp[eS,hn]
  obtain⟨b,hb⟩:=Option.isSome_iff_exists.1 (qt n xP)
  have FZ:=nc _ (fh hb)
  simp only at FZ
  rw[jo] at hr hx
  obtain⟨id,off,e1,e2⟩:=iX (P:=Tryz.prog) s (k:=7) rfl hc eC jt
  refine WP.loop (WP.has hE (zg rfl (zB rfl bq (by grind) ?_)))
  refine zk 5 rfl (WP.block (zg rfl (zo rfl (dD (r:=.ptr id off) rfl rfl e1) (zl rfl (e2 _ dy) ?_))))
  obtain⟨nv,s⟩:=fJ.1 (s.ae [2])
  dsimp only[bringA,getA,aQ] at s
  refine zk 6 rfl (zY s 0 qT A_ rfl (zm rfl (zc rfl (Bo (n:=n) hT (s.ae [4,4,4,4]) rf.ok rf.pins (b_ nD hw)) ?_)))
  rintro v h ⟨e,w,ε',J,(⟨he,rfl,s⟩|⟨rfl,u,rfl,s⟩)⟩
  ·dsimp only[bringA,getA,aQ] at s
   refine zk 10 rfl (zB rfl aX (by grind) ?_)
   refine zk 8 rfl (WP.ret (hr e [] ε' _ _ (.err n _ ε e w ε' J he) he rfl rfl ?_))
   have s:=fJ.2 ⟨nv,s.ae [4,4]⟩
   dsimp only[bringA,getA,aQ] at s
   exact((s.del 7).del 6).del 5
  ·dsimp only[bringA,getA,aQ] at s
   have E8:=J.iR rf
   have qF:=b_ J.cg hw
   have hlen:=J.len rf
   refine zk 10 rfl (zC rfl aX (rfl) ?_)
   have s:=s.fO
   have s:=s.ae [5,5,1,1,1,1,1,1,1,0]
   dsimp only[bringA,getA,aQ] at s
   rcases mw (n:=n) (fun _ _=>aF.cm _ _) (s.ae [1]) kZ bK yc with⟨g1,g2,_⟩|⟨nw,b',g1,_,g2,s2⟩
   ·grind
   rw[hb] at g1
   have:=cA g1
   subst this
   refine zk 7 rfl (zY s 0 qU jF rfl (zm rfl (zo rfl (gX rfl rfl g2) ?_)))
   obtain⟨dv,s⟩:=bM.1 (s2.ae [3])
   dsimp only[bringA,getA,aQ] at s
   have s:=s.ae [4]
   dsimp only[bringA,getA,aQ] at s
   refine zk 6 rfl (zY s 0 qT A_ rfl (zn rfl (zY s 1 mW rE rfl (zm rfl (zc rfl (Wp (n:=n) hT (s.ae [5])) ?_)))))
   rintro v h ⟨rfl,s⟩
   dsimp only[bringA,getA,aQ] at s
   refine zk 10 rfl ?_
   cases hd:(lookL n ε'.1.aN).isSome with
   |true =>
    refine zK 6 rfl (zc rfl (Oq hT (u:=u) (v:=nw) (pg:=n) (s.ae [11,4]) (cI _ _) (cI _ _) hlen FZ) ?_)
    rintro rv h ⟨WC,c,hc,ob,s⟩
    dsimp only[bringA,getA,aQ] at s
    obtain⟨i1,kI,jd,qj⟩:=tW
    have QY:cs.length=acc.length*4:=by
     obtain⟨a,b,q1,q2,q3⟩:=s.at (k:=12) rfl
     exact oS q3
    have ab7:WC.length=c.length*4:=by
     obtain⟨a,b,q1,q2,q3⟩:=s.at (k:=1) rfl
     exact oS q3
    obtain⟨U,h2,tR,s2⟩:=iN (s.ae [11,0]) iQ kI nV jd (by omega) rfl (by decide) (by omega)
    dsimp only[bringA,getA,aQ] at s2
    refine ay.any rfl rfl rfl (OpR.of (R:=fun v h'=>v=U∧h'=h2) (mD rfl rfl tR) ⟨rfl,rfl⟩) ?_
    rintro v' h' ⟨rfl,rfl⟩
    refine za rfl (zv (zr rfl (zb rfl (by exact bP (aV (by omega) (by omega))) ?_)))
    refine zm rfl (zv ?_)
    have s3:Sat _ (cZ cs acc::cZ WC c::_):=s2.ae [12,2]
    have s4:=s3.two (C:=cZ (cs++WC) (acc++c)) (aF.lD _ _) (aF.lD _ _) fun a b q1 q2=>wN q1 q2
    dsimp only[bringA,getA,aQ] at s4
    have s5:=bM.2 ⟨dv,s4.ae [7,7]⟩
    dsimp only[bringA,getA,aQ] at s5
    have s6:=fJ.2 ⟨nv,s5.ae [7,7]⟩
    dsimp only[bringA,getA,aQ] at s6
    have s7:=(((s6.ae [3,2,0,0,3,3,3,3]).del 10).del 9).del 8
    dsimp only[bringA,getA,aQ] at s7
    refine ih (i+1) (acc++c) _ _ ε' _ _ Q (by omega) E8 qF (by grind) s7 ⟨rfl,rfl,rfl,rfl,rfl,aa⟩ (fun e c' I E' h' ht he l2 l3 s' => ?_) (fun c' I E' h' QZ Q0 ht hl fW s' => ?_)
    ·exact hr e _ I E' h' (.part n _ ε w b ε' c e c' I J hb hd hc ob ht) he l2 l3 s'
    ·refine hx (c++c') I E' h' QZ Q0 (.part n _ ε w b ε' c 0 c' I J hb hd hc ob ht) (by grind) fW ?_<;>grind
   |false =>
    refine zK 5 rfl (zc rfl (jY hT (s.ae [4]) (cI _ _) (by omega)) ?_)
    intro cw h s
    dsimp only[bringA,getA,aQ] at s
    obtain⟨wid,_,Q1,_,rfl,_⟩:=s.kq (by omega)
    have s:=s.fO
    refine zo rfl (dn rfl (by rw[LJ];rfl)) ?_
    obtain⟨rv,h1,uy,s1⟩:=kr (P:=Tryz.prog) (k:=4) (x:=.agg [.int .i64 n,.int .i64 0,.bool true,.sl wid 0 b.length Q1]) s iQ nV oL rfl (by decide) (by decide) rfl rfl
    dsimp only[V.cells] at s1
    refine ay.any rfl rfl rfl (OpR.of (R:=fun v h'=>v=rv∧h'=h1) (mE rfl uy) ⟨rfl,rfl⟩) ?_
    rintro v' h' ⟨rfl,rfl⟩
    obtain⟨i1,kI,jd,qj⟩:=tW
    have QY:cs.length=acc.length*4:=by
     obtain⟨a,b,q1,q2,q3⟩:=s1.at (k:=11) rfl
     exact oS q3
    obtain⟨U,h2,tR,s2⟩:=iN (s1.ae [10,0]) iQ kI nV jd (by omega) rfl (by decide) (by grind)
    dsimp only[bringA,getA,aQ] at s2
    refine ay.any rfl rfl rfl (OpR.of (R:=fun v h'=>v=U∧h'=h2) (mD rfl rfl tR) ⟨rfl,rfl⟩) ?_
    rintro v' h' ⟨rfl,rfl⟩
    refine za rfl (zv (zr rfl (zb rfl (by exact bP (aV (by omega) (by omega))) ?_)))
    refine zm rfl (zv ?_)
    have s3:Sat _ (cZ cs acc::.cm (.sl wid 0 b.length Q1) b::_):=s2.ae [11,2]
    have s4:=s3.two (C:=cZ (cs++[.int .i64 n,.int .i64 0,.bool true,.sl wid 0 b.length Q1]) (acc++[⟨n,0,true,b⟩])) (aF.lD _ _) (aF.cm _ _) fun a b q1 q2=>wN q1 ⟨⟨⟨rfl,rfl,rfl⟩,q2⟩,aa⟩
    have s5:=bM.2 ⟨dv,s4.ae [6,6]⟩
    have s6:=fJ.2 ⟨nv,s5.ae [6,6]⟩
    have s7:=(((s6.ae [3,2,0,0,2,2,2,2]).del 10).del 9).del 8
    dsimp only[bringA,getA,aQ] at s7
    refine ih (i+1) (acc++[⟨n,0,true,b⟩]) _ _ ε' _ _ Q (by omega) E8 qF (by grind) s7 ⟨rfl,rfl,rfl,rfl,rfl,aa⟩ (fun e c' I E' h' ht he l2 l3 s' => ?_) (fun c' I E' h' QZ Q0 ht hl fW s' => ?_)
    ·exact hr e _ I E' h' (.whole n _ ε w b ε' e c' I J hb hd ht) he l2 l3 s'
    ·refine hx (⟨n,0,true,b⟩::c') I E' h' QZ Q0 (.whole n _ ε w b ε' 0 c' I J hb hd ht) (by grind) fW ?_<;>grind
theorem L8 (J:W told)(s:Sat h (gZ g a now bV::cB a p q r op data aq::cq r p q ε.1::bh q p ε.2.1::aD p ε.2.2::S))(U:fL ε)(hw:cg ε≤268435456)(I:∀e∈now,e.2.length=512)(hm:now.length≤65536)(hk:∀n∈now.map (·.1),(Lit.int .i64 n).wf=true):
  Call ⟨Tryz.prog,told⟩ 103 [.ptr g 0] h fun v h'=>∃e c ε',ChR now (az now) ε e c ε' ∧
   ((e≠0∧v=.bD [.bw,.int .i64 e]∧Sat h' (gZ g a now bV::cB a p q r op data aq::cq r p q ε'.1::bh q p ε'.2.1::aD p ε'.2.2::S)) ∨
    (e=0∧c.length≤33554432∧∃av cs,v=.bD [av,.int .i64 0]∧Sat h' (.arr 4 av cs::cZ cs c::gZ g a now bV::cB a p q r op data aq::cq r p q ε'.1::bh q p ε'.2.1::aD p ε'.2.2::S))):=by
 have hl:(az now).length=now.length:=by rw[az,(en _).length_eq,iE]
 refine Call.of_wp (J.free _ rfl) Tryz.func103 rfl rfl (zK 13 rfl (zc rfl (Ot J s (by omega) hk) ?_))
 intro kv h s
 refine zo rfl (aY rfl rfl rfl (s.iG (n:=(az now).length) (j:=0) rfl (by simp[eS]) (by decide) eC)) ?_
 refine zk 2 rfl (WP.block ?_)
 have s1:=(((s.gB aa).qh (k:=4)).fR fun a b q=>q).ae [0,0,1,1,1,1,1,0]
 refine HF J (ks:=az now) (now:=now) (by omega) (fun n hn => ?_) I (az now).length 0 [] .bw [] ε _ _ _ (by omega) U hw (by simp) s1 ⟨rfl,rfl,rfl,rfl,rfl,aa⟩ (fun e c ε' E' h' hr he l2 l3 s' => ?_) (fun c ε' E' h' av cs hr ob fW s' => ?_)
 ·have:n∈now.map (·.1):=(en _).mem_iff.1 hn
  cases hq:lookL n now<;>grind[ff]
 ·exact⟨aa,_,uW l2 l3,e,c,ε',hr,.inl ⟨he,rfl,s'⟩⟩
 ·have s:=s'
  exact WP.has fW (zK 6 rfl (WP.ret ⟨aa,_,rfl,0,c,ε',hr,.inr ⟨rfl,by omega,_,_,rfl,s⟩⟩))
end
theorem yI {n:Nat}(I:bR b=true): (cP b n).length=512:=by
 have J:=wJ (n:=n) (fb I)
 rw[cP,jm (by rw[dX];omega),J]
def iJ (π:Pl)(n:Int)(b:List Nat)(aM:Nat): Int×Pl :=
 (if (lz π n b aM).1=0 then(unpinF (lz π n b aM).2 n).1 else(lz π n b aM).1,(unpinF (lz π n b aM).2 n).2)
def uX (π:Pl)(n:Int)(i:Nat)(f:Fm)(b:List Nat)(aM:Nat): Pl :=
 { π with aj:=π.aj.set i { f with b:=cP b aM,changed:=true,pins:=0 },aN:=cY n (dirtOf π n aM,true) π.aN }
theorem sQ (J:lookL n π.aC=some (i:Int))(I:π.aj[i]?=some f)(U:f.pins=1)(hg:bR b=true): iJ π n b aM=(0,uX π n i f b aM):=by
 have h1:=(tV J I U).1
 have hi:=(List.getElem?_eq_some_iff.1 I).1
 have e1:lz π n b aM=(0,{ π with aj:=π.aj.set i { f with b:=cP b aM,changed:=true },aN:=cY n (dirtOf π n aM,true) π.aN }):=by
  simp only[lz,h1,I,hg,Bool.true_eq_false,fH]
 have e2:=(tV (π:={ π with aj:=π.aj.set i { f with b:=cP b aM,changed:=true },aN:=cY n (dirtOf π n aM,true) π.aN }) (n:=n) (f:={ f with b:=cP b aM,changed:=true }) J (kM hi) U).2
 simp only[iJ,e1,e2,c_,List.set_set]
 rfl
theorem Ou (J:lookL n π.aC=some (i:Int))(I:π.aj[i]?=some f)(U:f.pins=1)(hg:bR b=false): iJ π n b aM=(4,{ π with aj:=π.aj.set i { f with pins:=0 } }):=by
 have h1:=(tV J I U).1
 have e1:lz π n b aM=(4,π):=by simp only[lz,h1,I,hg,c_]
 have e2:=(tV J I U).2
 simp only[iJ,e1,e2]
 rfl
theorem Ui (h:π.Ok): (lz π n b aM).2.Ok:=by
 unfold lz
 split
 ·exact h
 ·split
  ·exact h
  ·rename_i f J
   have hm:=bu J
   split
   ·exact h
   ·rename_i I
    have I:bR b=true:=by simpa using I
    exact h.set h.aC (by simp only[yI I];omega) (h.pins f hm)
theorem eY.put {b0:List Nat}(hr:eY ε n 0 b0 ε')(h:fL ε): fL ((iJ ε'.1 n b aM).2,ε'.2)∧Am.cg ((iJ ε'.1 n b aM).2,ε'.2)≤Am.cg ε+1∧(bR b=true→(iJ ε'.1 n b aM).1=0):=by
 have I:=hr.ok h.ok h.pins
 have J:=(hr.full h.ok.dk h.full).1
 obtain⟨i,f,h1,h2,h3,h4,h5⟩:=hr.at h.pins
 have hm:=bu h2
 have U:=hr.cg
 cases hg:bR b with
 |true =>
  rw[sQ h1 h2 h3 hg]
  refine⟨⟨⟨I.pl.set I.pl.aC (by simp only[yI hg];omega) (by simp),I.lg,I.dk⟩,h5 _ rfl,J.set h2 rfl fun _=>yI hg⟩,?_,fun _=>rfl⟩
  have h6:=mZ (g:={ f with b:=cP b aM,changed:=true,pins:=0 }) h2
  simp only[Bool.toNat_true] at h6
  simp only[Am.cg,uX] at U ⊢
  omega
 |false =>
  rw[Ou h1 h2 h3 hg]
  refine⟨⟨⟨I.pl.set I.pl.aC (I.pl.len f hm) (by simp),I.lg,I.dk⟩,h5 _ rfl,J.set h2 rfl fun hl=>hl⟩,?_,fun h=>by cases h⟩
  have h6:=mZ (g:={ f with pins:=0 }) h2
  simp only[Am.cg] at U h6 ⊢
  omega
inductive PtR (now:List (Int×List Nat))(aM:Nat): List Int→bA→Int→bA→Prop where
 |nil (ε:bA):PtR now aM [] ε 0 ε
 |ja (n:Int) (l:List Int) (ε:bA) (e:Int) (b:List Nat) (ε':bA) (hr:eY ε n e b ε') (he:e≠0):PtR now aM (n::l) ε e ε'
 |bad (n:Int) (l:List Int) (ε:bA) (b0 b:List Nat) (ε':bA) (hr:eY ε n 0 b0 ε') (hb:lookL n now=some b) (he:(iJ ε'.1 n b aM).1≠0):PtR now aM (n::l) ε (iJ ε'.1 n b aM).1 ((iJ ε'.1 n b aM).2,ε'.2)
 |put (n:Int) (l:List Int) (ε:bA) (b0 b:List Nat) (ε':bA) (e:Int) (od:bA) (hr:eY ε n 0 b0 ε') (hb:lookL n now=some b) (he:(iJ ε'.1 n b aM).1=0) (ht:PtR now aM l ((iJ ε'.1 n b aM).2,ε'.2) e od):PtR now aM (n::l) ε e od
theorem PtR.iR {l:List Int}(I:PtR now aM l ε e ε')(h:fL ε): fL ε':=by
 induction I with
 |nil ε=>exact h
 |ja n l ε e b ε' I he=>exact⟨I.ok h.ok h.pins,I.Kx he h.pins,(I.full h.ok.dk h.full).1⟩
 |bad n l ε U b ε' I hb he=>exact(I.put h).1
 |put n l ε U b ε' e J I hb he ht ih=>exact ih (I.put h).1
theorem PtR.cg {l:List Int}(I:PtR now aM l ε e ε')(h:fL ε): Am.cg ε'≤Am.cg ε+l.length:=by
 induction I with
 |nil ε=>exact aP _
 |ja n l ε e b ε' I he=>have:=I.cg;omega
 |bad n l ε U b ε' I hb he=>have:=(I.put (b:=b) (aM:=aM) h).2.1;simp only[bI];omega
 |put n l ε U b ε' e J I hb he ht ih=>have h1:=ih (I.put h).1;have:=(I.put (b:=b) (aM:=aM) h).2.1;simp only[bI];omega
theorem Yu {k:IntKind}{z:V}(J:T.get h.tr id=some (.map (es.map eN) c))(he:lookE n es=some u)(hu:Tryz.prog.underlying t=some (.map kt et))(U:Tryz.prog.underlying kt=some (.int k))(hz:zeroT Tryz.prog et=some z):
  fC Tryz.prog h t (.map id) (.int .i64 n) false=some u:=by
 have hi:=pR (n:=n) es 0
 simp only[fC,lookupV,hu,U,hz,J,keyBeq,dL,ak,qX]
 cases I:idxE n es 0 with
 |none=>rw[I] at hi;rw[he] at hi;cases hi
 |some q=>rw[I] at hi;rw[he] at hi;obtain⟨j,w⟩:=q;have:=cA hi;simp only at this;subst this;rfl
section
variable {told:dI} {p aq:Nat} {op v:V} {bV:Bool}
noncomputable def dnL : Code:=cC [1,1,1,1,1,1,1,1,0,1,0,0] ((Tryz.f50.body).getD .skip)
theorem Ov (hT:W told){dv:V}{vP:Nat}(Od:ks.length≤65536)(qt:∀n∈ks,(lookL n now).isSome=true)(nc:∀e∈now,e.2.length=512): ∀(j i:Nat) (ε:bA) (h:H) (E:List (Nat×V)) (Q:Ex→List (Nat×V)→H→Prop),i+j=ks.length →
  fL ε→cg ε+j≤268435456 →
  Sat h (pt g (.cells 3 [.ptr a 0,.map vP,.bool bV] false)::fV vP es c::eT (fun v b=>.cm v b) es now::pt a (.cells 6 (qq a p q r op dv aq) false)::cq r p q ε.1::bh q p ε.2.1::aD p ε.2.2::.arr 1 kv (eS ks)::S) →
  Has E [(0,.ptr g 0),(6,.ptr a 0),(8,.int .u64 (aM:Int)),(73,kv),(74,.int .i64 ks.length),(75,.int .i64 i)] →
  (∀e ε' E' h',PtR now aM (ks.drop i) ε e ε'→e≠0→look E' 4=some (.int .u64 0)→look E' 5=some (.int .i64 e)→Sat h' (pt g (.cells 3 [.ptr a 0,.map vP,.bool bV] false)::fV vP es c::eT (fun v b=>.cm v b) es now::pt a (.cells 6 (qq a p q r op dv aq) false)::cq r p q ε'.1::bh q p ε'.2.1::aD p ε'.2.2::S)→Q .ret E' h') →
  (∀ε' E' h',PtR now aM (ks.drop i) ε 0 ε'→Has E' [(8,.int .u64 (aM:Int))]→Sat h' (pt g (.cells 3 [.ptr a 0,.map vP,.bool bV] false)::fV vP es c::eT (fun v b=>.cm v b) es now::pt a (.cells 6 (qq a p q r op dv aq) false)::cq r p q ε'.1::bh q p ε'.2.1::aD p ε'.2.2::S)→Q (.exit 1) E' h') →
  WP ⟨Tryz.prog,told⟩ 118 (.loop dnL) E h Q:=by
 intro j
 induction j with
 |zero =>
  intro i ε h E Q hj I hw s hE hr hx
  refine WP.loop (WP.has hE (zg rfl (zC rfl bq (by simp<;>omega) ?_)))
  refine zk 3 rfl (WP.exit ?_)
  rw[kL (by omega)] at hx
  exact hx ε _ _ (.nil ε) ⟨rfl,aa⟩ (s.del 7)
 |succ j ih =>
  intro i ε h E Q hj I hw s hE hr hx
  have hn:ks[i]?=some (ks[i]'(by omega)):=bn _
  have xP:ks[i]'(by omega)∈ks:=vg _
  have jo:ks.drop i=ks[i]'(by omega)::ks.drop (i+1):=lJ (by omega)
  generalize (ks[i]'(by omega))=n at hn xP jo
  have hc:(eS ks)[i]?=some (.int .i64 n):=by simp[eS,hn]
  obtain⟨b,hb⟩:=Option.isSome_iff_exists.1 (qt n xP)
  have FZ:=nc _ (fh hb)
  simp only at FZ
  rw[jo] at hr hx
  obtain⟨id,off,e1,e2⟩:=iX (P:=Tryz.prog) s (k:=7) rfl hc eC jt
  refine WP.loop (WP.has hE (zg rfl (zB rfl bq (by simp<;>omega) ?_)))
  refine zk 5 rfl (WP.block (zg rfl (zo rfl (dD (r:=.ptr id off) rfl rfl e1) (zl rfl (e2 _ dy) (zk 7 rfl (zY s 3 mW rE rfl (zm rfl (zc rfl (Oa (n:=n) hT (s.ae [4,4,4]) I.ok.pl I.pins I.ok.lg I.ok.dk (by have:=nD (ε:=ε);omega)) ?_))))))))
  rintro v h ⟨e,b0,ε',U,(⟨he,rfl,s⟩|⟨rfl,u0,rfl,s⟩)⟩
  ·dsimp only[bringA,getA,aQ] at s
   refine zk 9 rfl (zB rfl aX (by simp;exact he) ?_)
   exact zk 8 rfl (WP.ret (hr e ε' _ _ (.ja n _ ε e b0 ε' U he) he rfl rfl ((s.ae [3,3,3,3,0,0,0]).del 7)))
  ·dsimp only[bringA,getA,aQ] at s
   have s:=s.drop
   have WD:=U.put (b:=b) (aM:=aM) I
   have ke:=U.ok I.ok I.pins
   refine zk 9 rfl (zC rfl aX (rfl) (zk 4 rfl ?_))
   have s1:Sat h (eT (fun v b=>.cm v b) es now::_):=s.ae [5]
   obtain⟨_,_,_,_,q3⟩:=s1.at (k:=0) rfl
   rcases sN (n:=n) q3 with⟨_,q4⟩|⟨u,b',g1,g2,_⟩
   ·rw[hb] at q4;cases q4
   rw[hb] at g2
   have:=cA g2
   subst this
   have s2:=(s1.dup (aF.GY (fun _ _=>aF.cm _ _) _ _)).fR (B:=.cm u b) fun a' b' h'=>by
    rcases sN (n:=n) h' with⟨_,q4⟩|⟨u',Zi,ZR,ZS,g3'⟩
    ·rw[hb] at q4;cases q4
    ·rw[g1] at ZR;rw[hb] at ZS
     have h5:=cA ZR
     have h6:=cA ZS
     subst h5;subst h6
     exact g3'
   dsimp only[bringA,getA,aQ] at s2
   obtain⟨uid,ab8,ab9,rfl⟩:=ku (s2.aL (k:=0) rfl (cI _ _)) (by omega)
   have s:=s2.ae [2,0]
   dsimp only[bringA,getA,aQ] at s
   have s0:=s
   refine WP.drawn [af,af,af,af,af,af,af,af,af,af,af,af,af,af] rfl (by kernel_rfl) (by kernel_rfl) ?_
   refine zM rfl (zN rfl (zF rfl (mW _ _) (zL rfl (s.ld (k:=7) rfl rE rfl) (zM rfl (zM rfl (zN rfl (zF rfl (qU _ _) (zL rfl (s.ld (k:=5) rfl jF rfl) (zM rfl (zO rfl (gX rfl rfl (Yu (s.row (k:=6) rfl) g1 kZ bK yc)) (zM rfl (au.any rfl rfl rfl rfl (OpR.call rfl rfl rfl rfl (T9 (n:=n) (aM:=aM) (b:=b) hT s (cI _ _) ke.pl (by omega))) ?_))))))))))))
   rintro v h ⟨rfl,s⟩
   refine zA rfl ?_
   refine au.nil ⟨⟨aa,aa,aa,aa,aa,aa,aa,aa,aa,aa,aa,aa,aa,aa,aa⟩,?_⟩
   refine zK 5 rfl (zY s 7 mW rE rfl (zm rfl (zc rfl (Hg (n:=n) hT s (Ui ke.pl)) ?_)))
   rintro v h ⟨rfl,s⟩
   refine zk 5 rfl ?_
   by_cases hg:(lz ε'.1 n b aM).1=0
   ·have Kz:(iJ ε'.1 n b aM).1=(unpinF (lz ε'.1 n b aM).2 n).1:=by simp only[iJ,hg,c_]
    have ZT:(iJ ε'.1 n b aM).2=(unpinF (lz ε'.1 n b aM).2 n).2:=rfl
    rw[←Kz,←ZT] at *
    refine zB rfl bZ (by simp;exact hg) ?_
    refine zk 9 rfl ?_
    by_cases he:(iJ ε'.1 n b aM).1=0
    ·skip
     refine zC rfl aX (by simp;exact he) ?_
     refine zv (zj rfl (WP.skip (zr rfl (zb rfl (by exact bP (aV (by omega) (by omega))) ?_))))
     refine zm rfl (zv ?_)
     have s9:=(s.ae [5,5,2,4,0,1,1,1]).del 8
     refine ih (i+1) ((iJ ε'.1 n b aM).2,ε'.2) _ _ Q (by omega) WD.1 (by have h9:cg ((iJ ε'.1 n b aM).2,ε'.2)≤cg ε+1:=WD.2.1;omega) s9 ⟨rfl,rfl,rfl,rfl,rfl,rfl,aa⟩ (fun e J E' h' ht BW l4 l5 s' => ?_) (fun J E' h' ht fW s' => ?_)
     ·exact hr e J E' h' (.put n _ ε b0 b ε' e J U hb he ht) BW l4 l5 s'
     ·exact hx J E' h' (.put n _ ε b0 b ε' 0 J U hb he ht) fW s'
    ·skip
     refine zB rfl aX (by simp;exact he) ?_
     exact zk 8 rfl (WP.ret (hr _ _ _ _ (.bad n _ ε b0 b ε' U hb he) he rfl rfl (((s.ae [5,5,2,4,0,1,1,1]).del 8).del 7)))
   ·have Kz:(iJ ε'.1 n b aM).1=(lz ε'.1 n b aM).1:=by simp only[iJ,hg,fH]
    have ZT:(iJ ε'.1 n b aM).2=(unpinF (lz ε'.1 n b aM).2 n).2:=rfl
    rw[←Kz] at hg
    refine zC rfl bZ (by simp;rw[←Kz];exact hg) ?_
    refine zk 6 rfl (zB rfl aX (by simp;rw[←Kz];exact hg) ?_)
    refine zk 8 rfl (WP.ret (hr _ _ _ _ (.bad n _ ε b0 b ε' U hb hg) hg rfl (by rw[Kz];rfl) ?_))
    exact((s.ae [5,5,2,4,0,1,1,1]).del 8).del 7
end
theorem uz.fit {pg:Int}{now:List Nat}{l:List ct}(J:uz pg eO now i l)(hn:now.length=512)(h0:0≤pg)(h1:pg<65536): ∀c∈l,c.Ok∧c.b.length≤512:=by
 induction J with
 |done i h=>intro c I;cases I
 |skip i l h he J U=>exact U
 |take i e l h2 h3 _ _ J U =>
  intro c I
  rcases List.mem_cons.1 I with rfl|I
  ·have hl:((now.take e).drop i).length=e-i:=by simp;omega
   refine⟨⟨h0,h1,by simp,by simp only;omega,by simp only[hl];omega,by simp⟩,by simp only[hl];omega⟩
  ·exact U c I
theorem HB.fit {pg:Int}{now:List Nat}{l:List ct}(U:HB pg eO now l)(hn:now.length=512)(I:0≤pg)(J:pg<65536): ∀c∈l,c.Ok∧c.b.length≤512:=by
 obtain⟨m,h2,rfl⟩:=U
 split
 ·intro c hc
  rw[List.mem_singleton.1 hc]
  exact⟨⟨I,J,by simp,by simp,by simp,by simp⟩,by simp⟩
 ·exact h2.fit hn I J
theorem ChR.fit {l:List Int}{cs:List ct}(hr:ChR now l ε e cs ε')(J:∀x∈now,x.2.length=512)(hl:∀n∈l,0≤n∧n<65536): ∀c∈cs,c.Ok∧c.b.length≤512:=by
 induction hr with
 |nil ε=>intro c hc;cases hc
 |err n l ε e b ε' hr he=>intro c hc;cases hc
 |part n l ε eO b ε' c e cs od hr U hd hc ob ht ih =>
  intro x I
  have hn:=hl n cn
  rcases List.mem_append.1 I with I|I
  ·exact hc.fit (J _ (fh U)) hn.1 hn.2 x I
  ·exact ih (fun m hm=>hl m (b9 _ hm)) x I
 |whole n l ε eO b ε' e cs od hr U hd ht ih =>
  intro x I
  have hn:=hl n cn
  have U:=J _ (fh U)
  rcases List.mem_cons.1 I with rfl|I
  ·exact⟨⟨hn.1,hn.2,by simp,by simp,by simp only at U ⊢;omega,fun _=>⟨rfl,U⟩⟩,by simp only at U ⊢;omega⟩
  ·exact ih (fun m hm=>hl m (b9 _ hm)) x I
theorem uA : ∀(f n:Nat),(digits f n).length≤f+1:=by
 intro f
 induction f with
 |zero=>intro n;simp[digits]
 |succ f I =>
  intro n
  unfold digits
  split
  ·simp
  ·have:=I (n/128)
   simp only[bI]
   omega
theorem WE {c:ct}(I:c.b.length≤512): (m_ c).length≤543:=by
 have J:=uA 9 c.aO.toNat
 have U:=uA 9 c.pos.toNat
 have h3:=uA 9 c.b.length
 simp only[m_,bT,bI,dz]
 omega
theorem Uj : ∀ {l:List ct},(∀c∈l,c.b.length≤512)→(l.flatMap m_).length≤543*l.length:=by
 intro l
 induction l with
 |nil=>intro _;simp
 |cons c l I =>
  intro h
  have U:=WE (h c cn)
  have h2:=I fun x J=>h x (b9 _ J)
  simp only[zu,bT,bI]
  omega
theorem Uk {l:List ct}(hl:l.length≤33554432)(h:∀c∈l,c.Ok∧c.b.length≤512)(J:tx<18446744073709551616)(U:pv<18446744073709551616)(EZ:nx<18446744073709551616)(hd:data.length≤35184372088832): CG tx pv nx data l:=by
 have h2:=Uj fun c I=>(h c I).2
 refine⟨⟨by omega,fun c I=>by have:=(h c I).2;omega,fun c I => ?_⟩,J,U,EZ,by omega⟩
 have:=(h c I).1
 simp only[ct.Ok] at this
 omega
theorem Bq {l:List ct}{kd:Int}(I:1≤kd∧kd≤9)(h:∀c∈l,c.Ok∧c.b.length≤512): dY kd l=true:=by
 simp only[dY,bS,gN,qK]
 exact⟨I,fun c J=>(h c J).1⟩
inductive DnR (ε:bA)(now:List (Int×List Nat))(kd:Int)(tx pv nx:Nat)(data:List Nat)(pV:Nat): Nat→Int→Bool→bA→Prop where
 |arg (h:¬(1≤kd∧kd≤7)∨0<pV):DnR ε now kd tx pv nx data pV 0 1 false ε
 |dead (h1:1≤kd) (h2:kd≤7) (h3:pV=0) (h:ε.2.2.dead=true):DnR ε now kd tx pv nx data pV 0 9 false ε
 |lD (e:Int) (c:List ct) (ε':bA) (h1:1≤kd) (h2:kd≤7) (h3:pV=0) (h:ε.2.2.dead=false) (hc:ChR now (az now) ε e c ε') (he:e≠0):DnR ε now kd tx pv nx data pV 0 e false ε'
 |app (c:List ct) (ε':bA) (h1:1≤kd) (h2:kd≤7) (h3:pV=0) (h:ε.2.2.dead=false) (hc:ChR now (az now) ε 0 c ε') (he:(aI ε'.2 kd tx pv nx data c).1.2≠0):DnR ε now kd tx pv nx data pV 0 (aI ε'.2 kd tx pv nx data c).1.2 false (ε'.1,(aI ε'.2 kd tx pv nx data c).2)
 |put (c:List ct) (ε':bA) (e:Int) (od:bA) (h1:1≤kd) (h2:kd≤7) (h3:pV=0) (h:ε.2.2.dead=false) (hc:ChR now (az now) ε 0 c ε') (ha:(aI ε'.2 kd tx pv nx data c).1.2=0) (hp:PtR now (aI ε'.2 kd tx pv nx data c).1.1 (az now) (ε'.1,(aI ε'.2 kd tx pv nx data c).2) e od) :
   DnR ε now kd tx pv nx data pV (if e=0 then(aI ε'.2 kd tx pv nx data c).1.1 else 0) e true od
structure uB (ε ε':bA): Prop where
 base:ε'.2.1.base=ε.2.1.base
 b:ε'.2.1.b=ε.2.1.b
 br:ε'.2.1.br=ε.2.1.br
 check:ε'.2.1.check=ε.2.1.check
 log:ε'.2.2.log=ε.2.2.log
 room:ε'.2.2.room=ε.2.2.room
 ai:ε'.2.2.ai=ε.2.2.ai
theorem uB.refl (ε:bA): uB ε ε:=⟨rfl,rfl,rfl,rfl,rfl,rfl,rfl⟩
theorem uB.trans {a b c:bA}(x:uB a b)(y:uB b c): uB a c :=
 ⟨y.base.trans x.base,y.b.trans x.b,y.br.trans x.br,y.check.trans x.check,y.log.trans x.log,y.room.trans x.room,y.ai.trans x.ai⟩
theorem oa : δ.bQ.2.log=δ.log∧δ.bQ.2.room=δ.room∧δ.bQ.2.ai=δ.ai:=by
 unfold Dk.bQ
 split
 ·simp
 ·split<;>exact⟨rfl,rfl,rfl⟩
theorem wS : (δ.a_ n b).2.log=δ.log∧(δ.a_ n b).2.room=δ.room∧(δ.a_ n b).2.ai=δ.ai:=by
 unfold Dk.a_
 split
 ·simp
 ·split
  ·simp
  ·split<;>exact⟨rfl,rfl,rfl⟩
theorem qu {x:LD}{n:Nat}: uB (π,x) (π,(aK x n).2):=by
 unfold aK
 split
 ·exact uB.refl _
 ·split
  ·exact⟨rfl,rfl,rfl,rfl,oa.1,oa.2.1,oa.2.2⟩
  ·exact⟨rfl,rfl,rfl,rfl,oa.1,oa.2.1,oa.2.2⟩
theorem uB.to (h:uB ε ε'): uB ε (π,ε'.2):=⟨h.base,h.b,h.br,h.check,h.log,h.room,h.ai⟩
structure j5 (R:LD→Prop): Prop where
 force:∀(x:LD) (n:Nat),R x→R (aK x n).2
 write:∀(x:LD) (n:Int) (b:List Nat),R x→R (x.1,(x.2.a_ n b).2)
section
variable {R:LD→Prop} {bV:Bool} {l:List Int} {cs:List ct}
theorem j5.out (h:j5 R)(I:R ε.2): R (outF ε i).2.2:=by
 unfold outF
 split
 ·exact I
 ·split
  ·exact I
  ·split
   ·exact I
   ·split
    ·exact h.force _ _ I
    ·split
     ·exact h.write _ _ _ (h.force _ _ I)
     ·exact h.write _ _ _ (h.force _ _ I)
theorem j5.ja (h:j5 R)(I:eY ε n e b ε')(J:R ε.2): R ε'.2:=by
 cases I<;>grind[out]
theorem j5.rd (h:j5 R)(I:kD ε n e b ε')(J:R ε.2): R ε'.2:=by
 cases I<;>grind[ja]
theorem j5.HG (h:j5 R)(J:GRd ε now bV n e b ε')(I:R ε.2): R ε'.2:=by
 cases J with
 |arg hn=>exact I
 |bV _ _ _=>exact I
 |own b U h2 _ hl=>exact I
 |read e b ε' U h2 _ hl J=>exact h.rd J I
theorem j5.E9 (h:j5 R)(I:mC ε now bV n b e fB ε')(J:R ε.2): R ε'.2:=by
 cases I with
 |may e c ε' I he=>exact h.HG I J
 |bad c ε' I U=>exact h.HG I J
 |done c ε' I U=>exact h.HG I J
theorem j5.ch (h:j5 R)(I:ChR now l ε e cs ε'): R ε.2→R ε'.2:=by
 induction I with
 |nil ε=>simp
 |err n l ε e b ε' I he=>exact h.rd I
 |part n l ε eO b ε' c e cs J I hb hd hc ob ht U=>exact fun hx=>U (h.rd I hx)
 |whole n l ε eO b ε' e cs J I hb hd ht U=>exact fun hx=>U (h.rd I hx)
theorem j5.pt (h:j5 R)(I:PtR now aM l ε e ε'): R ε.2→R ε'.2:=by
 induction I<;>grind[ja]
theorem Ow (ε:bA): j5 fun y=>uB ε (ε.1,y) :=
 ⟨fun _ _ h=>h.trans qu,fun _ _ _ h=>h.trans ⟨rfl,rfl,rfl,rfl,wS.1,wS.2.1,wS.2.2⟩⟩
theorem ChR.same (I:ChR now l ε e cs ε'): uB ε ε':=((Ow ε).ch I (uB.refl ε)).to
end
theorem Q2 {m:Nat}: ∀ {l:List Nat},l.Pairwise (· < ·)→(∀s∈l,s<m)→l.length≤m:=by
 intro l I J
 have key:∀(l:List Nat) (k:Nat),l.Pairwise (· < ·)→(∀s∈l,k≤s∧s<m)→k+l.length≤m∨l=[]:=by
  intro l
  induction l with
  |nil=>simp
  |cons x l U =>
   intro k I J
   simp only[sS] at I
   have hx:=J x cn
   rcases U (x+1) I.2 (fun s hs=>⟨I.1 s hs,(J s (b9 _ hs)).2⟩) with h|rfl<;>grind
 rcases key l 0 I (fun s hs=>⟨fZ _,J s hs⟩) with h|rfl
 ·omega
 ·simp
theorem gh (x:LD)(kd:Int)(tx pv nx:Nat)(data:List Nat)(c:List ct):
  (∃e:Int,e≠0∧((e=1∧dY kd c=false)∨(e=2∧1048576<(dF kd tx pv nx data c).length)∨(e=9∧x.2.dead=true)∨(e=7∧x.2.room<x.2.log.length+(bX x.1 kd tx pv nx data c).length))∧aI x kd tx pv nx data c=((0,e),x)) ∨
  (x.2.dead=false∧x.2.aA=0∧aI x kd tx pv nx data c=((0,9),(x.1,{ x.2.die with tail:=bX x.1 kd tx pv nx data c }))) ∨
  (dY kd c=true∧(dF kd tx pv nx data c).length≤1048576∧x.2.dead=false∧x.2.log.length+(bX x.1 kd tx pv nx data c).length≤x.2.room∧x.2.aA≠0 ∧
   aI x kd tx pv nx data c=((x.1.base+x.1.b.length,0),(x.1.app (bX x.1 kd tx pv nx data c),{ x.2.cQ with log:=x.2.log++bX x.1 kd tx pv nx data c }))):=by
 by_cases I:dY kd c=false
 ·grind[aI]
 ·by_cases J:1048576<(dF kd tx pv nx data c).length
  ·grind[aI]
  ·by_cases U:x.2.dead=true
   ·grind[Dk.iY,aI]
   grind[Dk.iY,aI]
theorem rI {x:LD}{kd:Int}{c:List ct}(J:x.1.Ok)(I:x.2.Ok)(hs:x.1.b=x.2.log)(hz:x.1.base+x.1.b.length+1048584≤1099511627776):
  (aI x kd tx pv nx data c).2.1.Ok∧(aI x kd tx pv nx data c).2.2.Ok∧(aI x kd tx pv nx data c).2.1.b=(aI x kd tx pv nx data c).2.2.log∧(aI x kd tx pv nx data c).2.1.base=x.1.base∧(aI x kd tx pv nx data c).2.1.b.length≤x.1.b.length+1048584 ∧
  (aI x kd tx pv nx data c).2.2.waiting=x.2.waiting∧(aI x kd tx pv nx data c).1.1<1099511627776:=by
 have hlen:(bX x.1 kd tx pv nx data c).length=8+(dF kd tx pv nx data c).length:=qY _ _
 rcases gh x kd tx pv nx data c with⟨e,_,_,h⟩|⟨hd,hf,h⟩|⟨hg,hb,hd,U,hf,h⟩
 ·grind
 ·rw[h];exact⟨J,⟨I.aA,I.len,I.room,I.now,I.ai,I.aH,I.many⟩,hs,rfl,vh _ _,rfl,by simp⟩
 ·rw[h]
  generalize bX x.1 kd tx pv nx data c=rc at hlen U
  have abz:=I.room
  have lC:x.1.b.length=x.2.log.length:=by rw[hs]
  have hl:(x.1.b++rc).length=x.1.b.length+rc.length:=bT
  have i_:(x.2.log++rc).length=x.2.log.length+rc.length:=bT
  refine⟨⟨?_,?_,?_,?_,?_,?_,J.check⟩,⟨I.cQ.aA,?_,I.room,I.now,I.ai,?_,I.many⟩,?_,rfl,?_,rfl,?_⟩
  ·show x.1.base+(x.1.b++rc).length≤_;omega
  ·have h1:=Q2 J.wL J.low
   show(x.1.br++[x.1.b.length]).length≤_
   grind
  ·intro s hm
   show s<(x.1.b++rc).length
   rcases List.mem_append.1 (show s∈x.1.br++[x.1.b.length] from hm) with hm|hm
   ·have:=J.low s hm;omega
   ·grind
  ·show(x.1.br++[x.1.b.length]).Pairwise (·< ·)
   rw[List.pairwise_append]
   refine⟨J.wL,List.pairwise_singleton _ _,fun a ha b hb => ?_⟩
   rw[List.mem_singleton.1 hb]
   exact J.low a ha
  ·have:=J.forced
   show x.1.forced≤(x.1.b++rc).length;omega
  ·show(x.1.b++rc).length≤_;omega
  ·grind
  ·have:=I.aH
   show x.2.aH≤(x.2.log++rc).length;omega
  ·show x.1.b++rc=x.2.log++rc;rw[hs]
  ·show(x.1.b++rc).length≤_;omega
  ·grind
theorem wf_i64 (I:0≤n)(J:n<4294967296): (Lit.int .i64 n).wf=true:=by
 simp only[Lit.wf,bS,gN]
 have U:IntKind.min .i64 = -9223372036854775808:=rfl
 have e2:IntKind.max .i64=9223372036854775807:=rfl
 omega
theorem Ar {kd:Int}{ch:V}(I:dt.beq dt=true)(J:ch.beq ch=true): (V.agg (iH kd tx pv nx dt ch)).beq (V.agg (iH kd tx pv nx dt ch))=true:=by
 simp only[iH,V.beq,V.beqL,I,J,dL,nY,decide_true,jA,ak]
section
variable {told:dI} {p aq:Nat} {op v:V} {bV:Bool}
theorem Ul (hT:W told){kd:Int}{pV:Nat}{ch:V}{ZU:List V}(s:Sat h (gZ g a now false::cB a p q r (.ptr g 0) dh aq::cq r p q ε.1::bh q p ε.2.1::aD p ε.2.2::X::.arr 4 ch ZU::S))(hX:cX X (dc dt data))(ER:ZU.length=pV*4)(rf:fL ε)(hw:cg ε+65536≤268435456)
 (nc:∀e∈now,e.2.length=512)(hm:now.length≤65536)(hk:∀n∈now.map (·.1),0≤n∧n<65536)(N6:tx<18446744073709551616)(AP:pv<18446744073709551616)(EZ:nx<18446744073709551616)(hd:data.length≤35184372088832)(yJ:ε.2.1.b=ε.2.2.log)(hz:ε.2.1.base+ε.2.1.b.length+1048584≤1099511627776):
  Call ⟨Tryz.prog,told⟩ 50 [.ptr g 0,.agg (iH kd tx pv nx dt ch)] h fun v h'=>∃aM e cl ε',DnR ε now kd tx pv nx data pV aM e cl ε'∧v=.bD [.int .u64 (aM:Int),.int .i64 e] ∧
   Sat h' (gZ g a now cl::cB a p q r (cond cl .cH (.ptr g 0)) dh aq::cq r p q ε'.1::bh q p ε'.2.1::aD p ε'.2.2::X::S):=by
 have oz:∀n∈now.map (·.1),(Lit.int .i64 n).wf=true:=fun n hn=>by
  have:=hk n hn
  exact wf_i64 (by omega) (by omega)
 have kg:=s.jW (j:=6) rfl
 have lE:=s.aL (k:=5) rfl hX
 have fM:=mO (kd:=kd) (tx:=tx) (pv:=pv) (nx:=nx) lE.cells.2 kg.2.1
 have hlen:=s.iG (n:=pV) (j:=6) rfl ER (by decide) iQ
 have s0:=s
 obtain⟨nv,s⟩:=fJ.1 s
 refine Call.of_wp (hT.free _ rfl) Tryz.func50 rfl rfl (zg rfl (ay.cV s rfl rfl rfl (gP rfl fM) ?_))
 intro p1 h s
 dsimp only[V.cells] at s
 have s:Sat h (pt p1 (.cells 6 (iH kd tx pv nx dt ch) false)::_):=s
 have hlen:=s.iG (n:=pV) (j:=8) rfl ER (by decide) iQ
 refine zk 7 rfl (zY s 1 qT A_ rfl (zk 3 rfl (WP.block (zK 4 rfl (zf rfl (DV _ _) (zh rfl (aT rfl (s.ld (k:=1) rfl jQ rfl)) (rfl) (zk 5 rfl (zY s 0 qR dy rfl ?_))))))))
 have fin:∀e:Int,Sat h (gZ g a now false::cB a p q r (.ptr g 0) dh aq::cq r p q ε.1::bh q p ε.2.1::aD p ε.2.2::X::S):=fun e=>((fJ.2 ⟨nv,s.ae [1,1]⟩).del 7).del 1
 refine zd rfl (aJ rfl rfl bq) ?_ ?_
 ·intro hq
  have hq:kd<1:=by simpa using hq
  exact zk 19 rfl (WP.ret ⟨aa,_,rfl,0,1,false,ε,.arg (.inl (by omega)),rfl,fin 0⟩)
 ·intro hq
  have hq:1≤kd:=by simp at hq;omega
  refine zm rfl (zY s 0 qR dy rfl ?_)
  refine zd rfl (aJ rfl rfl dS) ?_ ?_
  ·intro J
   have J:7<kd:=by simpa using J
   exact zk 15 rfl (WP.ret ⟨aa,_,rfl,0,1,false,ε,.arg (.inl (by omega)),rfl,fin 0⟩)
  ·intro J
   have J:kd≤7:=by simp at J;omega
   refine zk 2 rfl (zY s 0 kP qg rfl (zo rfl (aY rfl rfl rfl hlen) ?_))
   refine zd rfl (aJ rfl rfl dS) ?_ ?_
   ·intro I
    have I:0<pV:=by simp at I;omega
    exact zk 9 rfl (WP.ret ⟨aa,_,rfl,0,1,false,ε,.arg (.inr I),rfl,fin 0⟩)
   ·intro I
    have I:pV=0:=by simp at I;omega
    obtain⟨dv,s⟩:=bM.1 (s.ae [3])
    dsimp only[bringA,getA,aQ] at s
    refine zk 8 rfl (zY s 0 pI jK rfl (zc rfl (tO hT (s.ae [7])) ?_))
    rintro v h ⟨rfl,rfl⟩
    refine zk 2 rfl ?_
    cases tB:ε.2.2.dead with
    |true =>
     refine zK 6 rfl (WP.ret ⟨aa,_,rfl,?_⟩)
     have s9:=fJ.2 ⟨nv,(bM.2 ⟨dv,s⟩).ae [2,2]⟩
     dsimp only[bringA,getA,aQ] at s9
     exact⟨0,9,false,ε,.dead hq J I tB,rfl,(s9.del 7).del 2⟩
    |false =>
     refine zj rfl (WP.skip (zg rfl (za rfl (zv (zw (zg rfl (zm rfl ?_)))))))
     have s9:=fJ.2 ⟨nv,(bM.2 ⟨dv,s⟩).ae [2,2]⟩
     dsimp only[bringA,getA,aQ] at s9
     have s:=s9.ae [0,0,1,1,1]
     dsimp only[bringA,getA,aQ] at s
     refine zc rfl (L8 hT s rf (by omega) nc hm oz) ?_
     rintro v h ⟨e,c,ε',hc,(⟨he,rfl,s⟩|⟨rfl,ob,av,cs,rfl,s⟩)⟩
     ·refine ay.op rfl rfl rfl (bj rfl) ?_
      refine zk 2 rfl (zf rfl (kP _ _) ?_)
      refine zS rfl (by exact s.dV (k:=5) rfl FP rfl (by decide) rfl rfl) (fun h s => ?_)
      dsimp only[iH,Nat.reduceAdd,List.set,setA] at s
      refine zk 5 rfl (zB rfl aX (by simp;exact he) ?_)
      exact zk 8 rfl (WP.ret ⟨aa,_,rfl,0,e,false,ε',.lD e c ε' hq J I tB hc he,rfl,(s.del 7).del 5⟩)
     ·have CQ:=s.jW (j:=0) rfl
      have CT:=hc.iR rf
      have hcp:=hc.cg
      have SN:=hc.same
      have KA:=rI (x:=ε'.2) (kd:=kd) (tx:=tx) (pv:=pv) (nx:=nx) (data:=data) (c:=c) CT.ok.lg CT.ok.dk (by rw[SN.b,SN.log];exact yJ) (by rw[SN.base,SN.b];exact hz)
      have lX:=hc.fit nc fun n hn=>hk n ((en _).mem_iff.1 hn)
      refine zk 3 rfl (zf rfl (kP _ _) (zS rfl (s.dV (k:=7) rfl FP rfl (show 0+5<6 by decide) CQ.1 CQ.2.1) ?_))
      intro h s
      dsimp only[iH,Nat.reduceAdd,List.set,setA] at s
      refine zk 5 rfl (zC rfl aX (rfl) ?_)
      obtain⟨dv,s⟩:=bM.1 (s.ae [3])
      dsimp only[bringA,getA,aQ] at s
      have s:=s.ae [6,6,7,2,2,0,3]
      dsimp only[bringA,getA,aQ] at s
      refine zv (zj rfl (WP.skip (zw ?_)))
      have s0:=s
      have aaL:=dr lE
      have HH:=Ar (kd:=kd) (tx:=tx) (pv:=pv) (nx:=nx) aaL CQ.2.2
      refine WP.drawn [af,af,af,af,af,af,af,af,af,af,af] rfl (by kernel_rfl) (by kernel_rfl) ?_
      refine zM rfl (zN rfl (zF rfl (jG _ _) (zL rfl (s.ld (k:=5) rfl nA rfl) (zL rfl (s.fN (k:=6) rfl kY fE) (au.any rfl rfl rfl rfl (OpR.call rfl rfl rfl rfl (He (kd:=kd) (tx:=tx) (pv:=pv) (nx:=nx) hT s hX (Uk ob lX N6 AP EZ hd) CT.ok.lg CT.ok.dk)) ?_)))))
      rintro v h ⟨rfl,s⟩
      refine zM rfl (zO rfl (bN rfl rfl) (zO rfl (bN rfl rfl) (zA rfl (zA rfl ?_))))
      refine au.nil ⟨⟨aa,aa,aa,aa,aa,aa,aa,aa,aa,aa,aa,aa⟩,?_⟩
      refine zK 4 rfl ?_
      have s9:=bM.2 ⟨dv,s.ae [5,6]⟩
      have s:=((((s9.ae [7,0,6,0,0,0]).del 9).del 8).del 7).del 6
      by_cases he:(aI ε'.2 kd tx pv nx data c).1.2=0
      ·skip
       refine zC rfl aX (by simp;exact he) ?_
       refine zk 6 rfl (zc rfl (E7 hT s) ?_)
       rintro v h ⟨rfl,s⟩
       obtain⟨nv,s⟩:=fJ.1 s
       obtain⟨vP,rfl⟩:=yo s (j:=1) rfl
       refine zk 6 rfl (zY s 0 qU jF rfl (zc rfl (wR hT s) ?_))
       rintro v h ⟨kb,rfl,s⟩
       refine zc rfl (pU hT (s.ae [0,1]) (by decide) (by omega) oz) ?_
       intro kv h s
       have hl:(az now).length=now.length:=by rw[az,(en _).length_eq,iE]
       refine zo rfl (aY rfl rfl rfl (s.iG (n:=(az now).length) (j:=0) rfl (by simp[eS]) (by decide) eC)) ?_
       refine zk 2 rfl (WP.block ?_)
       obtain⟨ab_,es,clock,Q3,hb,mL,s⟩:=eB.1 (s.ae [2])
       injection Q3 with Q3
       subst Q3
       obtain⟨dv,s⟩:=bM.1 (s.ae [5])
       have s:=s.ae [6,2,2,0,3,3,3,1]
       refine Ov (op:=.cH) (dv:=dv) hT (ks:=az now) (now:=now) (aM:=(aI ε'.2 kd tx pv nx data c).1.1) (by omega) (fun n hn => ?_) nc (az now).length 0 (ε'.1,(aI ε'.2 kd tx pv nx data c).2) _ _ _ (by omega) ?_ ?_ s ⟨rfl,rfl,rfl,rfl,rfl,rfl,aa⟩ (fun e U E' h' hp BW l4 l5 s' => ?_) (fun U E' h' hp fW s' => ?_)
       ·have:n∈now.map (·.1):=(en _).mem_iff.1 hn
        cases hq:lookL n now with
        |some _=>rfl
        |none=>exact absurd this (ff.1 hq)
       ·exact⟨⟨CT.ok.pl,KA.1,KA.2.1⟩,CT.pins,CT.full⟩
       ·have e1:cg (ε'.1,(aI ε'.2 kd tx pv nx data c).2)=cg ε':=by simp only[cg,KA.2.2.2.2.2.1]
        rw[e1,hl];omega
       ·rw[fY] at hp
        have e4:look E' 4=some (.int .u64 ((0:Nat):Int)):=l4
        refine⟨aa,_,uW e4 l5,0,e,true,U,?_,rfl,?_⟩
        ·have:=DnR.put (data:=data) c ε' e U hq J I tB hc he hp
         rwa [ah BW] at this
        ·have s3:=bM.2 ⟨dv,s'.ae [3,6]⟩
         have s4:=eB.2 ⟨vP,es,clock,rfl,hb,mL,s3.ae [2,2]⟩
         exact fJ.2 ⟨.map vP,(s4.ae [2,0,0,0,0,0,1]).del 7⟩
       ·rw[fY] at hp
        have s:=s'
        refine WP.has fW (zK 6 rfl (WP.ret ⟨aa,_,rfl,?_⟩))
        refine⟨_,0,true,U,?_,rfl,?_⟩
        ·have:=DnR.put (data:=data) c ε' 0 U hq J I tB hc he hp
         exact this
        ·have s3:=bM.2 ⟨dv,s.ae [3,6]⟩
         have s4:=eB.2 ⟨vP,es,clock,rfl,hb,mL,s3.ae [2,2]⟩
         dsimp only[bringA,getA,aQ] at s4
         exact fJ.2 ⟨.map vP,(s4.ae [2,0,0,0,0,0,1]).del 7⟩
      ·skip
       refine zB rfl aX (by simp;exact he) ?_
       exact zk 8 rfl (WP.ret ⟨aa,_,rfl,0,_,false,_,.app c ε' hq J I tB hc he,rfl,s⟩)
end
def Lg.fresh : Lg:={ base:=1,b:=[],br:=[],forced:=0,check:=0 }
theorem wT {b t:Nat}{p v:V}(I:look E a=some p)(J:loadV P h t p=some v)(U:look E b=some w)(h3:look E c=some x): resLE P E h [.cell a t,.tmp b,.tmp c]=some (.bD [v,w,x]):=by
 simp only[resLE,mapO,resE,I,J,U,h3]
section
variable {told:dI} {p aq:Nat} {op v:V} {bV:Bool}
theorem Jj (U:W told)(s:Sat h (aD p δ::S))(hd:δ.dead=false)(hm:δ.mark=[])(hl:δ.log=[])(hc:δ.aH=0):
  Call ⟨Tryz.prog,told⟩ 63 [.ptr p 0] h fun v h'=>∃q,v=.bD [.ptr q 0,.int .i64 0]∧Sat h' (bh q p Lg.fresh::aD p δ::S):=by
 refine Call.of_wp (U.free _ rfl) Tryz.func63 rfl rfl (zK 8 rfl (zc rfl (CC U s (by rw[hm];decide)) ?_))
 rintro v h (⟨I,_,_⟩|⟨_,b0,rfl,s⟩)
 ·rw[hd] at I;cases I
 rw[hm] at s
 refine zk 10 rfl (zC rfl aX (rfl) (zk 6 rfl (zo rfl (dn rfl (by rw[Su];rfl)) ?_)))
 refine ay.cV s rfl rfl rfl (gP rfl rfl) (fun ZJ h s => ?_)
 dsimp only[V.cells,List.take,List.length_cons,List.length_nil,Nat.reduceAdd,List.drop,List.cons_append,List.nil_append] at s
 refine zk 7 rfl ?_
 have s:=s.ae [2,0,0]
 dsimp only[bringA,getA,aQ] at s
 refine zc rfl (TW U s (by rw[hl];decide)) ?_
 rintro v h (⟨I,_,_⟩|⟨_,b1,rfl,s⟩)
 ·rw[hd] at I;cases I
 rw[hl] at s
 have hv:=(s.buf (k:=0) rfl).view.cells
 refine zk 4 rfl (zf rfl (eH _ _) (zS rfl (s.dV (k:=2) rfl ju rfl (by decide) hv.1 hv.2) ?_))
 intro h s
 dsimp only[Nat.reduceAdd,List.set,setA] at s
 refine za rfl (zv (zg rfl (zm rfl (zh rfl (aJ rfl rfl aX) (rfl) (zv (zj rfl (WP.skip (zw (zg rfl (zm rfl (zo rfl (aY rfl rfl rfl (by exact bk aW (s.aL (k:=3) rfl (bJ _ _)))) ?_)))))))))))
 refine zv (WP.block (zg rfl (zt rfl (aJ rfl rfl bZ) (rfl) (za rfl (zv (zi rfl (WP.skip (zg rfl (za rfl (zv (zw (WP.block (WP.loop (zw (zg rfl (zk 3 rfl (zf rfl (eH _ _) (zl rfl (by exact s.ld (k:=2) rfl bL rfl) ?_))))))))))))))))))
 refine zo rfl (aY rfl rfl rfl (bk aW (s.aL (k:=0) rfl (bJ _ _)))) (zC rfl bq (rfl) (zk 2 rfl (WP.exit (zK 6 rfl (zY s 2 eH bL rfl (zo rfl (aY rfl rfl rfl (bk aW (s.aL (k:=0) rfl (bJ _ _)))) (zC rfl bq (rfl) (zk 5 rfl ?_))))))))
 have s0:=s
 have J:=dr (s.buf (k:=0) rfl).view
 refine WP.drawn [none,none,some (0,2),some (0,2),some (0,2),some (0,2),some (0,2),none] rfl (by kernel_rfl) (by kernel_rfl) ?_
 refine zM rfl (au.any rfl rfl rfl rfl (OpR.call rfl rfl rfl rfl (AM U (s.ae [1]))) ?_)
 rintro v h' ⟨rfl,rfl⟩
 refine zM rfl (zN rfl (zF rfl (eH _ _) (zL rfl (s.ld (k:=2) rfl bL rfl) (zO rfl (aY rfl rfl rfl (bk aW (s.aL (k:=0) rfl (bJ _ _)))) (au.mN rfl rfl rfl rfl (aJ rfl rfl bq) (by rw[show δ.wI=0 from hc];rfl) ?_)))))
 refine au.nil ⟨⟨aa,aa,fun _ _=>.inr ⟨rfl,⟨_,bj rfl⟩,aU _ rfl⟩,fun _ _=>.inr ⟨rfl,⟨_,jU rfl⟩,aU _ rfl⟩,fun _ _=>.inr ⟨rfl,⟨_,jg rfl (eH _ _)⟩,aU _ rfl⟩,dR (.inr ⟨rfl,⟨_,aT rfl (s0.ld (k:=2) rfl bL rfl)⟩,J⟩) (.inr ⟨rfl,⟨_,aT rfl (s.ld (k:=2) rfl bL rfl)⟩,J⟩),dR (.inr ⟨rfl,⟨_,aY rfl rfl rfl (bk aW (s0.aL (k:=0) rfl (bJ _ _)))⟩,aU _ rfl⟩) (.inr ⟨rfl,⟨_,aY rfl rfl rfl (bk aW (s.aL (k:=0) rfl (bJ _ _)))⟩,aU _ rfl⟩),aa,aa⟩,?_⟩
 refine zK 7 rfl (zY s 2 eH bL rfl (zo rfl (aY rfl rfl rfl (bk aW (s.aL (k:=0) rfl (bJ _ _)))) (zn rfl (zf rfl (pK _ _) ?_))))
 refine zS rfl (by exact s.dV (k:=2) rfl jt rfl (by decide) rfl rfl) (fun h s => ?_)
 refine zk 7 rfl (WP.ret ⟨aa,_,rfl,?_⟩)
 have s1:=(s.del 3).qh (k:=1)
 refine⟨_,rfl,dw.2 ⟨b1,.bw,?_⟩⟩
 exact s1.ae [3,1,0]
theorem Ox (J:W told)(s:Sat h (bh q p μ::S))(I:μ.Ok): Call ⟨Tryz.prog,told⟩ 66 [.ptr q 0,.int .u64 ((μ.base:Int)+(μ.b.length:Int))] h fun v h'=>v=.bD [.agg (iH 0 0 0 0 .bw .bw),.int .u64 0,.int .i64 17]∧Sat h' (bh q p μ::S):=by
 refine Call.of_wp (J.free _ rfl) Ho rfl rfl (zg rfl ?_)
 refine ay.cV s rfl rfl rfl (cK nT) (fun U h s => ?_)
 refine zk 4 rfl (WP.block (zK 4 rfl ?_))
 have s:=s.ae [1]
 refine zc rfl (nZ J s I.size) ?_
 rintro v h' ⟨rfl,rfl⟩
 refine zB rfl bZ (by simp) ?_
 refine zk 5 rfl (zo rfl (dn rfl (by rw[sL];rfl)) ?_)
 refine zS rfl (s.iq (j:=1) rfl fE rfl rfl) (fun h s => ?_)
 refine zk 3 rfl ?_
 refine WP.ret ⟨aa,_,wT rfl (s.fN (k:=1) rfl kY fE) rfl rfl,?_⟩
 exact⟨rfl,s.del 1⟩
theorem Q4 (J:W told){n:Nat}(s:Sat h (bh q p μ::S))(I:μ.Ok)(hn:n<18446744073709551616)(p_:n≠μ.base+μ.b.length)(U:μ.hasB n=false): Call ⟨Tryz.prog,told⟩ 66 [.ptr q 0,.int .u64 (n:Int)] h fun v h'=>v=.bD [.agg (iH 0 0 0 0 .bw .bw),.int .u64 0,.int .i64 1]∧Sat h' (bh q p μ::S):=by
 refine Call.of_wp (J.free _ rfl) Ho rfl rfl (zg rfl ?_)
 refine ay.cV s rfl rfl rfl (cK nT) (fun p4 h s => ?_)
 refine zk 4 rfl (WP.block (zK 4 rfl ?_))
 have s:=s.ae [1]
 refine zc rfl (nZ J s I.size) ?_
 rintro v h' ⟨rfl,rfl⟩
 refine zC rfl bZ (by simp;omega) ?_
 refine zk 7 rfl (zc rfl (Aq (n:=n) J s I hn) ?_)
 rintro v h' ⟨rfl,rfl⟩
 refine zo rfl (dQ rfl rfl) (zk 2 rfl (WP.LB rfl (by rw[U];rfl) ?_))
 refine zg rfl (zo rfl (dn rfl (by rw[sL];rfl)) ?_)
 refine zS rfl (s.iq (j:=1) rfl fE rfl rfl) (fun h s => ?_)
 refine zk 3 rfl ?_
 refine WP.ret ⟨aa,_,wT rfl (s.fN (k:=1) rfl kY fE) rfl rfl,?_⟩
 exact⟨rfl,s.del 1⟩
theorem CU (hT:W told){n:Nat}(s:Sat h (bh q p μ::S))(J:μ.Ok)(hn:n<18446744073709551616)(I:n=μ.base+μ.b.length∨μ.hasB n=false): Call ⟨Tryz.prog,told⟩ 66 [.ptr q 0,.int .u64 (n:Int)] h fun v h'=>∃e:Int,e≠0∧v=.bD [.agg (iH 0 0 0 0 .bw .bw),.int .u64 0,.int .i64 e]∧Sat h' (bh q p μ::S):=by
 by_cases he:n=μ.base+μ.b.length
 ·have:=Ox hT s J
  rw[show((μ.base:Int)+(μ.b.length:Int))=((n:Nat):Int) by omega] at this
  exact this.mono fun v h' ⟨U,h2⟩=>⟨17,by decide,U,h2⟩
 ·rcases I with I|I
  ·exact absurd I he
  ·exact(Q4 hT s J hn he I).mono fun v h' ⟨U,h2⟩=>⟨1,by decide,U,h2⟩
end
section
variable {told:dI} {p aq:Nat} {op v:V} {bV:Bool}
theorem L9 (I:W told){n:Nat}(s:Sat h (cB a p q r op data aq::bh q p μ::S))(J:μ.Ok)(hn:n<18446744073709551616)(U:n=μ.base+μ.b.length∨μ.hasB n=false):
  Call ⟨Tryz.prog,told⟩ 69 [.ptr a 0,.int .u64 (n:Int)] h fun v h'=>v=.int .i64 0∧Sat h' (cB a p q r op data aq::bh q p μ::S):=by
 obtain⟨dv,s⟩:=bM.1 s
 refine Call.of_wp (I.free _ rfl) Tryz.func69 rfl rfl (zK 6 rfl ?_)
 refine ay.yb s rfl rfl rfl rfl (fun p18 h s => ?_)
 refine ay.yb s rfl rfl rfl rfl (fun p19 h s => ?_)
 refine zo rfl (dn rfl (by rw[Sx];rfl)) ?_
 refine ay.cV s rfl rfl rfl (gP rfl rfl) (fun Wq h s => ?_)
 refine zk 5 rfl (zo rfl (Ac rfl rfl) (zk 8 rfl (WP.block (WP.loop (WP.block (zK 4 rfl (zY s 3 jG nA rfl (zm rfl ?_))))))))
 have s1:=s.ae [5]
 refine zc rfl (CU (n:=n) I s1 J hn U) ?_
 rintro v h ⟨e,he,rfl,s⟩
 refine zk 4 rfl ?_
 refine ay.cV s rfl rfl rfl (cK nT) (fun p8 h s => ?_)
 refine zS rfl (s.iq (j:=0) rfl fE rfl rfl) (fun h s => ?_)
 refine zk 7 rfl (zB rfl aX (by simp;exact he) ?_)
 have s:=tL (f:=fun v (b:List Nat)=>.cm v b) (s.ae [4])
 refine zk 2 rfl (WP.exit (zK 5 rfl (zY s 3 pO jF rfl (zc rfl (wR I s) ?_))))
 rintro v h ⟨kb,rfl,s⟩
 refine zc rfl (pU I s (by decide) (by decide) (by simp)) ?_
 intro kv h s
 refine zo rfl (aY rfl rfl rfl (s.iG (n:=0) (j:=0) rfl rfl (by decide) eC)) ?_
 exact zk 2 rfl (WP.block (WP.loop (zg rfl (zC rfl bq (rfl) (zk 3 rfl (WP.exit (zK 5 rfl (zY s 5 pO jF rfl (zo rfl (aY rfl rfl rfl (Bb (s.ae [2]) kZ)) (zB rfl bZ (rfl) (zk 6 rfl (WP.ret ⟨aa,_,rfl,rfl,((((((bM.2 ⟨dv,s.ae [7,7,4]⟩).del 7).del 6).del 5).del 4).del 3).del 2⟩))))))))))))
theorem Lg.HI : Lg.fresh.Ok:=⟨by decide,by decide,by simp[Lg.fresh],List.Pairwise.nil,by decide,by decide,by decide⟩
theorem Jk (I:W told){n:Nat}(s:Sat h (aD p δ::S))(h1:1≤n)(h2:n≤1024)(J:δ.dead=false)(hm:δ.mark=[])(U:δ.log=[])(hc:δ.aH=0):
  Call ⟨Tryz.prog,told⟩ 19 [.ptr p 0,.int .i64 (n:Int)] h fun v h'=>∃a q r,v=.bD [.ptr a 0,.int .i64 0]∧Sat h' (cB a p q r .cH [] 0::cq r p q (Pl.fresh n)::bh q p Lg.fresh::aD p δ::S):=by
 refine Call.of_wp (I.free _ rfl) Tryz.func19 rfl rfl (zK 9 rfl (zC rfl bq (by simp<;>omega) ?_))
 refine zk 2 rfl (zC rfl dS (by simp<;>omega) ?_)
 refine zk 7 rfl (zc rfl (Jj I s J hm U hc) ?_)
 rintro v h ⟨q,rfl,s⟩
 refine zk 10 rfl (zC rfl aX (rfl) (zk 8 rfl (zc rfl (Kt (p:=p) (q:=q) (n:=n) I s) ?_)))
 rintro v h (⟨hn,_,_⟩|⟨_,_,r,rfl,s⟩)
 ·omega
 rw[eD] at s
 refine zk 10 rfl (zC rfl aX (rfl) (zk 8 rfl (zo rfl (dn rfl (by rw[Ss];rfl)) ?_)))
 refine ay.cV s rfl rfl rfl (gP rfl rfl) (fun p44 h s => ?_)
 refine zk 5 rfl (zc rfl (uw I (s.ae [2])) ?_)
 rintro v h' ⟨rfl,rfl⟩
 refine zk 6 rfl (zc rfl (AN I (s.ae [2])) ?_)
 rintro v h' ⟨rfl,rfl⟩
 refine zk 5 rfl (zC rfl aX (rfl) (zk 8 rfl ?_))
 have s1:=bM.2 ⟨.bw,(s.rG).ae [1,0]⟩
 refine zc rfl (L9 (n:=1) I (s1.ae [0,1]) Lg.HI (by decide) (.inl rfl)) ?_
 rintro v h ⟨rfl,s⟩
 exact zk 5 rfl (zC rfl aX (rfl) (zk 9 rfl (WP.ret ⟨aa,_,rfl,_,q,r,rfl,s.ae [0,1,0]⟩)))
end
def cU (ε:bA): Int×bA:=if ε.2.2.dead=true then(9,ε) else if (writeAllF (az ε.1.aC) ε).1≠0 then writeAllF (az ε.1.aC) ε else
 ((bx (writeAllF (az ε.1.aC) ε).2.1 (writeAllF (az ε.1.aC) ε).2.2.2).1,((bx (writeAllF (az ε.1.aC) ε).2.1 (writeAllF (az ε.1.aC) ε).2.2.2).2.1,((writeAllF (az ε.1.aC) ε).2.2.1,(bx (writeAllF (az ε.1.aC) ε).2.1 (writeAllF (az ε.1.aC) ε).2.2.2).2.2)))
section
variable {told:dI} {p aq:Nat} {op v:V} {bV:Bool}
theorem Ed (I:W told)(s:Sat h (cB a p q r op data aq::S)): Call ⟨Tryz.prog,told⟩ 15 [.ptr a 0] h fun v h'=>v=.ptr q 0∧h'=h:=by
 obtain⟨dv,s⟩:=bM.1 s
 exact Call.of_wp (I.free _ rfl) Tryz.func15 rfl rfl (zK 8 rfl (zY s 0 jG nA rfl (zk 2 rfl (WP.ret ⟨aa,_,rfl,rfl,rfl⟩))))
theorem HJ (I:W told)(s:Sat h (cB a p q r op data aq::S)): Call ⟨Tryz.prog,told⟩ 55 [.ptr a 0] h fun v h'=>v=.ptr r 0∧h'=h:=by
 obtain⟨dv,s⟩:=bM.1 s
 exact Call.of_wp (I.free _ rfl) Tryz.func55 rfl rfl (zK 8 rfl (zY s 0 mW rE rfl (zk 2 rfl (WP.ret ⟨aa,_,rfl,rfl,rfl⟩))))
theorem Oy (J:W told){n:Nat}(s:Sat h (cB a p q r op data aq::bh q p μ::aD p δ::S))(I:μ.Ok)(U:δ.aA<4294967296):
  Call ⟨Tryz.prog,told⟩ 42 [.ptr a 0,.int .u64 (n:Int)] h fun v h'=>v=.int .i64 (aK (μ,δ) n).1∧Sat h' (cB a p q r op data aq::bh q p (aK (μ,δ) n).2.1::aD p (aK (μ,δ) n).2.2::S):=by
 obtain⟨dv,s⟩:=bM.1 s
 refine Call.of_wp (J.free _ rfl) Tryz.func42 rfl rfl (zK 8 rfl (zY s 0 jG nA rfl (zm rfl (zc rfl (D8 (n:=n) J (s.ae [2,2]) I U) ?_))))
 rintro v h ⟨rfl,s⟩
 exact zk 2 rfl (WP.ret ⟨aa,_,rfl,rfl,bM.2 ⟨dv,s.ae [2,2]⟩⟩)
theorem Q5 (J:W2 told)(s:Sat h (cB a p q r .cH data aq::cq r p q ε.1::bh q p ε.2.1::aD p ε.2.2::S))(U:ow ε)(hw:ε.2.2.waiting.length+ε.1.aC.length≤268435456)(hm:ε.1.aC.length≤1048576)(hk:∀n∈ε.1.aC.map (·.1),(Lit.int .i64 n).wf=true)
 (ke:(writeAllF (az ε.1.aC) ε).2.2.2.Ok)(I:∀e∈(writeAllF (az ε.1.aC) ε).2.2.2.now,0≤e.1∧e.1<(writeAllF (az ε.1.aC) ε).2.2.2.ai.length):
  Call ⟨Tryz.prog,told⟩ 32 [.ptr a 0] h fun v h'=>v=.int .i64 (cU ε).1∧Sat h' (cB a p q r .cH data aq::cq r p q (cU ε).2.1::bh q p (cU ε).2.2.1::aD p (cU ε).2.2.2::S):=by
 have s0:=s
 obtain⟨dv,s⟩:=bM.1 s
 refine Call.of_wp (J.w.free _ rfl) Tryz.func32 rfl rfl (zK 5 rfl (WP.block (zK 4 rfl (zY s 0 qS GR rfl (zC rfl (FY tT) (rfl) (zk 7 rfl (zY s 0 pI jK rfl (zc rfl (tO J.w (s.ae [4])) ?_))))))))
 rintro v h ⟨rfl,rfl⟩
 refine zk 2 rfl ?_
 cases hd:ε.2.2.dead with
 |true =>
  refine zK 5 rfl (WP.ret ⟨aa,_,rfl,?_⟩)
  rw[cU,aE hd]
  exact⟨rfl,s0⟩
 |false =>
  refine zj rfl (WP.skip (zw (zg rfl (zk 2 rfl (zf rfl (mW _ _) (zl rfl (by exact s.ld (k:=0) rfl rE rfl) ?_))))))
  refine zc rfl (AU J.w (s.ae [2,2,2]) U hw hm hk) ?_
  rintro v h ⟨rfl,s⟩
  dsimp only[bringA,getA,aQ] at s
  refine zk 5 rfl ?_
  by_cases he:(writeAllF (az ε.1.aC) ε).1=0
  ·skip
   refine zC rfl aX (by simp;exact he) ?_
   refine zv (zj rfl (WP.skip (zg rfl (zk 2 rfl (zf rfl (mW _ _) (zl rfl (by exact s.ld (k:=3) rfl rE rfl) ?_))))))
   refine zc rfl (Hx J (s.ae [0,1]) ke I) ?_
   rintro v h ⟨rfl,s⟩
   refine zk 2 rfl (WP.ret ⟨aa,_,rfl,?_⟩)
   rw[cU,ah (by rw[hd];decide),ah (by simpa using he)]
   exact⟨rfl,bM.2 ⟨dv,s.ae [3,3,0,1,0]⟩⟩
  ·skip
   refine zB rfl aX (by simp;exact he) ?_
   refine zk 7 rfl (WP.ret ⟨aa,_,rfl,?_⟩)
   rw[cU,ah (by rw[hd];decide),aE he]
   exact⟨rfl,bM.2 ⟨dv,s.ae [3,3,0,0,0]⟩⟩
end
section
variable {told:dI} {p aq:Nat} {op v:V} {bV:Bool}
theorem L_ (I:W told){n m f:Nat}(s:Sat h S)(h1:1≤n)(h2:n≤65536)(h3:m≤16777216)(J:1≤f)(U:f≤1024):
  Call ⟨Tryz.prog,told⟩ 12 [.int .i64 (n:Int),.int .i64 (m:Int),.int .i64 (f:Int)] h fun v h'=>∃p a q r,v=.bD [.ptr p 0,.ptr a 0] ∧
   Sat h' (cB a p q r .cH [] 0::cq r p q (Pl.fresh f)::bh q p Lg.fresh::aD p (Dk.fresh n m)::S):=by
 refine Call.of_wp (I.free _ rfl) Tryz.func12 rfl rfl (zK 9 rfl (zc rfl (TZ (n:=(n:Int)) (m:=(m:Int)) I s) ?_))
 rintro v h (⟨hn,_,_⟩|⟨_,_,_,_,p,rfl,s⟩)
 ·omega
 rw[eD,eD] at s
 refine zk 10 rfl (zC rfl aX (rfl) (zk 2 rfl (zC rfl (CP Tryz.underlying25) (rfl) (zk 8 rfl (zc rfl (Jk (n:=f) I s J U rfl rfl rfl rfl) ?_)))))
 rintro v h ⟨a,q,r,rfl,s⟩
 exact zk 10 rfl (zC rfl aX (rfl) (zk 2 rfl (zC rfl (CP yC) (rfl) (zk 11 rfl (WP.ret ⟨aa,_,rfl,p,a,q,r,rfl,s⟩)))))
theorem Ma (I:W told)(s:Sat h (cB a p q r op data aq::S))(J:data.length<1073741824): Call ⟨Tryz.prog,told⟩ 54 [.ptr a 0] h fun v h'=>∃w,v=.bD [w,.int .u64 (aq:Int)]∧Sat h' (bH w data::cB a p q r op data aq::S):=by
 obtain⟨dv,s⟩:=bM.1 s
 refine Call.of_wp (I.free _ rfl) Tryz.func54 rfl rfl (zK 6 rfl ?_)
 have s:=s.ae [1]
 have U:=s
 refine WP.drawn [af,af,af,af,af,some (0,2),some (0,2),some (0,2),some (0,2),none,none] rfl (by kernel_rfl) (by kernel_rfl) ?_
 refine zM rfl (zN rfl (zF rfl (DS _ _) (zL rfl (s.ld (k:=1) rfl bL rfl) (au.any rfl rfl rfl rfl (OpR.call rfl rfl rfl rfl (jY I s (cI _ _) J)) ?_))))
 intro w h s
 refine zM rfl (zN rfl (zF rfl (Ah _ _) (zL rfl (s.ld (k:=2) rfl fA rfl) (zA rfl (zA rfl ?_)))))
 refine au.nil ⟨⟨aa,aa,aa,aa,aa,fun _ _=>.inr ⟨rfl,⟨_,bj rfl⟩,aU _ rfl⟩,fun _ _=>.inr ⟨rfl,⟨_,jU rfl⟩,aU _ rfl⟩,fun _ _=>.inr ⟨rfl,⟨_,jg rfl (Ah _ _)⟩,aU _ rfl⟩,dR (.inr ⟨rfl,⟨_,aT rfl (U.ld (k:=1) rfl fA rfl)⟩,aU _ rfl⟩) (.inr ⟨rfl,⟨_,aT rfl (s.ld (k:=2) rfl fA rfl)⟩,aU _ rfl⟩),aa,aa,aa⟩,?_⟩
 refine WP.ret ⟨aa,_,rfl,?_⟩
 exact⟨w,rfl,(bM.2 ⟨dv,s.ae [2,1]⟩).ae [1]⟩
end
section
theorem Ee (s:Sat h S){e:TypeId}{z:V}(hu:P.underlying t=some (.slice e))(I:zeroT P e=some z)(J:bB P e=some k)(U:z.cells.length=k)(h1:1≤k):
  ∃h',buildSliceV P h t 0 []=some (.sl h.next 0 0 (.exact 0),h')∧Sat h' (pt h.next (.cells 0 [] false)::S):=by
 refine⟨newRow h [],?_,s.new _⟩
 simp only[buildSliceV,hu,J,I]
 rw[show(Nat.beq z.cells.length k&&Nat.ble (0*k) 65536&&Nat.ble 1 k)=true by rw[U,gx,aZ.2 (by omega),aZ.2 h1];rfl,ak]
 simp only[repeatL,fillV,jC,ak]
theorem KB (s:Sat h (pt id (.cells 0 [] false)::S)): Sat h (bH (.sl id 0 0 (.exact 0)) []::S) :=
 s.fR fun m r hm=>⟨by simp,.inr (.inl ⟨id,[],0,rfl,hm,rfl⟩)⟩
theorem Um (s:Sat h (pt id (.cells 0 [] false)::S)): Sat h (.arr q (.sl id 0 0 (.exact 0)) []::S) :=
 s.fR fun m r hm=>⟨rfl,.inr ⟨id,0,.exact 0,0,[],rfl,hm,by simp,rfl,rfl,by simp,aP _⟩⟩
end
section
variable {told:dI} {p aq:Nat} {op v:V}
theorem Oz (hT:W told)(s:Sat h (X::S))(I:cX X (dc x l))(hl:l.length≤1073741824): Call ⟨Tryz.prog,told⟩ 186 [x] h fun v h'=>Sat h' (bH v l::X::S):=by
 have hv:=s.aL (k:=0) rfl I
 refine Call.of_wp (hT.free _ rfl) Tryz.func186 rfl rfl (zK 8 rfl ?_)
 rcases hv.2 with⟨rfl|⟨ea,rfl⟩,rfl⟩|⟨id,off,cap,n,cs,st,rfl,_⟩
 ·refine zt rfl ((by exact aJ rfl rfl (by simp only[binV,eqV,aW];rfl))) (rfl) ?_
  exact zk 6 rfl (WP.ret ⟨aa,_,rfl,s.yl⟩)
 ·skip
  refine zh rfl ((by exact aJ rfl rfl (by simp only[binV,eqV,aW];rfl))) (rfl) ?_
  refine zk 5 rfl ?_
  obtain⟨J,U,s1⟩:=Ee (P:=Tryz.prog) s aW Zx Sl rfl (by decide)
  refine ay.any rfl rfl rfl (OpR.of (R:=fun v h'=>v=.sl h.next 0 0 (.exact 0)∧h'=J) (mE rfl U) ⟨rfl,rfl⟩) ?_
  rintro v h' ⟨rfl,rfl⟩
  have s:=KB s1
  refine zm rfl (ay.any rfl rfl rfl (OpR.oO rfl s I rfl rfl rfl rfl (by simp<;>omega)) ?_)
  intro w h s
  exact zk 2 rfl (WP.ret ⟨aa,_,rfl,s⟩)
 ·skip
  refine zh rfl ((by exact aJ rfl rfl (by simp only[binV,eqV,aW];rfl))) (rfl) ?_
  refine zk 5 rfl ?_
  obtain⟨J,U,s1⟩:=Ee (P:=Tryz.prog) s aW Zx Sl rfl (by decide)
  refine ay.any rfl rfl rfl (OpR.of (R:=fun v h'=>v=.sl h.next 0 0 (.exact 0)∧h'=J) (mE rfl U) ⟨rfl,rfl⟩) ?_
  rintro v h' ⟨rfl,rfl⟩
  have s:=KB s1
  refine zm rfl (ay.any rfl rfl rfl (OpR.oO rfl s I rfl rfl rfl rfl (by simp<;>omega)) ?_)
  intro w h s
  exact zk 2 rfl (WP.ret ⟨aa,_,rfl,s⟩)
end
def slF (v:V)(i:Nat): V:=match v with
 |.sl id off len (.exact c)=>.sl id (cond (Nat.beq c i) off (off+i*1)) (len-i) (.exact (c-i))
 |.sl id off len (.rest _ alt)=>.sl id (off+i*1) (len-i) (.rest 1 (cond (Nat.beq i 0) alt (cond (Nat.blt i len) (off+i*1) off)))
 |v=>v
theorem WG {v:V}{e:TypeId}(s:Sat h S)(hj:getA S j=some (.arr 1 v cs))(hi:i≤cs.length)(hu:P.underlying t=some (.slice e))(I:bB P e=some 1):
  sliceV P h t v (some i) none none=some (slF v i)∧lenV P h t (slF v i)=some (.int .i64 ((cs.length-i:Nat):Int)) ∧
  ∀(m:Nat) (x:V),cs[i+m]?=some x→∃id off,indexAddrV P t (slF v i) (.int .i64 (m:Int))=some (.ptr id off)∧∀t',isAggT P t'=some false→loadV P h t' (.ptr id off)=some x:=by
 obtain⟨pm,r,h1,h2,h3⟩:=s.at hj
 rcases h3.2 with⟨rfl,rfl⟩|⟨id,n,cap,N,rest,rfl,hg,e1,e2,_,e4⟩
 ·have:i=0:=by simpa using hi
  subst this
  refine⟨?_,?_,fun m x hm=>by simp at hm⟩
  ·simp only[sliceV,hu,I];rfl
  ·simp only[slF,lenV,hu];rfl
 ·have tI:=h1 _ _ hg
  rw[e_] at e1
  have J:∀(m:Nat) (x:V),cs[i+m]?=some x→∀t',isAggT P t'=some false→loadV P h t' (.ptr id (0+i*1+m*1))=some x:=fun m x hm t' ht=>by
   have U:=(List.getElem?_eq_some_iff.1 hm).1
   refine GG ht tI ?_
   rw[gj,show 0+i*1+m*1=i+m by omega,oW U,hm]
  cases cap with
  |exact c =>
   obtain⟨rfl,e5⟩:=e4
   refine⟨?_,?_,fun m x hm => ?_⟩
   ·simp only[sliceV,hu,I,vf,g_,slF]
    rw[show(Nat.ble i n&&Nat.ble n c)=true by rw[aZ.2 (by omega),aZ.2 e5];rfl,ak]
   ·simp only[slF,lenV,hu,e1]
   ·have U:=(List.getElem?_eq_some_iff.1 hm).1
    refine⟨id,0+i*1+m*1,?_,J m x hm⟩
    simp only[slF,indexAddrV,hu,I,eD]
    rw[show(decide ((0:Int)≤(m:Int))&&decide ((m:Int)<((n-i:Nat):Int)))=true by simp;omega,ak,eF (by omega),bf]
  |rest q alt =>
   obtain⟨rfl,rfl,rfl,e5⟩:=e4
   refine⟨?_,?_,fun m x hm => ?_⟩
   ·simp only[sliceV,hu,I,vf,g_,slF]
    rw[show(Nat.beq 1 1&&Nat.ble 1 1)=true from rfl,ak,show(Nat.ble i n&&(Nat.ble n n||Nat.ble n (lS h id 0 1)))=true by rw[aZ.2 (by omega:i≤n),aZ.2 (aP n)];rfl,ak]
   ·simp only[slF,lenV,hu,e1]
   ·have U:=(List.getElem?_eq_some_iff.1 hm).1
    refine⟨id,0+i*1+m*1,?_,J m x hm⟩
    simp only[slF,indexAddrV,hu,I,eD]
    rw[show(decide ((0:Int)≤(m:Int))&&decide ((m:Int)<((n-i:Nat):Int)))=true by simp;omega,ak]
def uY (μ:Lg)(n:Nat): List Nat:=(μ.br.filter fun s=>decide (n≤μ.base+s)).map fun s=>s-(n-μ.base)
def Lg.cut (μ:Lg)(n:Nat): Lg:={ base:=n,b:=μ.b.drop (n-μ.base),br:=uY μ n,forced:=μ.forced-(n-μ.base),check:=μ.check }
def eU (x:LD)(n:Nat): Int×LD :=
 if (n≠x.1.base+x.1.b.length∧x.1.hasB n=false)∨x.1.base+x.1.forced<n∨(x.1.check≠0∧x.1.check<n) then(1,x) else
 if (x.2.gV ((n-x.1.base:Nat):Int) (eo n x.1.check)).1≠0 then((x.2.gV ((n-x.1.base:Nat):Int) (eo n x.1.check)).1,(x.1,(x.2.gV ((n-x.1.base:Nat):Int) (eo n x.1.check)).2)) else
 (0,(x.1.cut n,(x.2.gV ((n-x.1.base:Nat):Int) (eo n x.1.check)).2))
theorem Un {n:Nat}(h:Split μ n i): uY μ n=(μ.br.drop i).map fun s=>s-(n-μ.base):=by
 have U:μ.br.filter (fun s=>decide (n≤μ.base+s))=μ.br.drop i:=by
  conv=>lhs;rw[←List.take_append_drop i μ.br]
  rw[List.filter_append]
  have e1:(μ.br.take i).filter (fun s=>decide (n≤μ.base+s))=[]:=by
   rw[List.filter_eq_nil_iff]
   intro s hs
   obtain⟨j,I,rfl⟩:=List.mem_iff_getElem.1 hs
   have J:j<i:=by simp at I;omega
   have:=h.2.1 j _ J (by rw[bn (by simp at I;omega)])
   simp only[List.getElem_take] at this ⊢
   simp;omega
  have e2:(μ.br.drop i).filter (fun s=>decide (n≤μ.base+s))=μ.br.drop i:=by
   rw[List.filter_eq_self]
   intro s hs
   obtain⟨j,I,rfl⟩:=List.mem_iff_getElem.1 hs
   have:=h.2.2 (i+j) _ (vh _ _) (by rw[bn (by simp at I;omega)])
   simp only[List.getElem_drop] at this ⊢
   simpa using this
  rw[e1,e2,eE]
 rw[uY,U]
theorem Ef {n:Nat}(h:μ.hasB n=true): μ.base≤n:=by
 simp only[Lg.hasB,sU,gN] at h
 obtain⟨s,_,rfl⟩:=h
 exact vh _ _
section
variable {told:dI} {p aq:Nat} {op v:V}
theorem Yv (hT:W told)(s:Sat h (aD p δ::X::S))(hX:cX X (dc x b))(I:δ.Ok):
  Call ⟨Tryz.prog,told⟩ 185 [.ptr p 0,.int .i64 n,x] h fun v h'=>v=.int .i64 (δ.gV n b).1∧Sat h' (aD p (δ.gV n b).2::X::S):=by
 refine(TX hT s hX I.aA (by have:=I.len;omega) I.aH).mono fun v h' hr => ?_
 unfold Dk.gV
 rcases hr with⟨J,rfl,s⟩|⟨J,U,rfl,s⟩|⟨J,h1,h2,h3,U,rfl,s⟩|⟨J,h1,h2,h3,U,rfl,s⟩
 ·rw[aE J];exact⟨rfl,s⟩
 ·rw[ah (by rw[J];decide),aE U];exact⟨rfl,s⟩
 ·rw[ah (by rw[J];decide),ah (by simp[h1,h2,h3]),aE U];exact⟨rfl,s⟩
 ·rw[ah (by rw[J];decide),ah (by simp[h1,h2,h3]),ah U];exact⟨rfl,s⟩
end
section
variable {told:dI} {p aq:Nat} {op v:V}
noncomputable def ctL : Code:=cC [1,1,1,1,1,1,0,1,0,0] ((Tryz.f114.body).getD .skip)
theorem Q6 (hT:W told){sv:V}{nE:List Nat}(hi:i≤nE.length)(hb:∀s∈nE,s≤1099511627776)(hc:c≤1099511627776)(Vy:∀s∈nE.drop i,c≤s)(sP:nE.length≤16777216): ∀(j m:Nat) (nv:V) (h:H) (E:List (Nat×V)) (Q:Ex→List (Nat×V)→H→Prop),i+m+j=nE.length →
  Sat h (.arr 1 nv (gU (((nE.drop i).take m).map fun s=>s-c))::.arr 1 sv (gU nE)::S) →
  Has E [(0,.ptr q 0),(1,t1),(5,.int .i64 (c:Int)),(8,nv),(81,slF sv i),(82,.int .i64 ((nE.length-i:Nat):Int)),(83,.int .i64 (m:Int))] →
  (∀SO E' h',Has E' [(0,.ptr q 0),(1,t1),(5,.int .i64 (c:Int)),(8,SO)]→Sat h' (.arr 1 SO (gU ((nE.drop i).map fun s=>s-c))::.arr 1 sv (gU nE)::S)→Q (.exit 0) E' h') →
  WP ⟨Tryz.prog,told⟩ 121 (.loop ctL) E h Q:=by
 intro j
 induction j with
 |zero =>
  intro m nv h E Q hj s hE hx
  refine WP.loop (WP.has hE (zg rfl (zC rfl bq (by simp<;>omega) ?_)))
  refine zk 3 rfl (WP.exit ?_)
  rw[jy (by simp;omega)] at s
  exact hx nv _ _ ⟨rfl,rfl,rfl,rfl,aa⟩ s
 |succ j ih =>
  intro m nv h E Q hj s hE hx
  have I:nE[i+m]?=some (nE[i+m]'(by omega)):=bn _
  have J:nE[i+m]'(by omega)∈nE:=vg _
  have aaM:=Vy (nE[i+m]'(by omega)) (by
   have:(nE.drop i)[m]?=some (nE[i+m]'(by omega)):=by rw[ve,I]
   exact bu this)
  generalize (nE[i+m]'(by omega))=st at I J aaM
  have AQ:=hb st J
  obtain⟨_,_,Kw⟩:=WG (P:=Tryz.prog) (i:=i) s (j:=1) rfl (by simp only[j_];exact hi) eC jt
  obtain⟨id,off,e1,e2⟩:=Kw m (.int .i64 (st:Int)) (by simp[gU,I])
  have OA:(nE.drop i).take (m+1)=(nE.drop i).take m++[st]:=by rw[y_,ve,I];rfl
  have U:((st:Int)-(c:Int))=((st-c:Nat):Int):=by omega
  refine WP.loop (WP.has hE (zg rfl (zB rfl bq (by simp<;>omega) ?_)))
  refine zk 5 rfl (WP.block (zg rfl (zo rfl (dD (r:=.ptr id off) rfl rfl e1) (zl rfl (e2 _ dy) (zk 6 rfl (zb rfl (by exact jV (aV (by omega) (by omega))) ?_))))))
  rw[U]
  obtain⟨iv,h1,uy,s1⟩:=kr (P:=Tryz.prog) (k:=1) (x:=.int .i64 ((st-c:Nat):Int)) s eC EN jt rfl (by decide) (by decide) rfl rfl
  dsimp only[V.cells] at s1
  refine ay.any rfl rfl rfl (OpR.of (R:=fun v h'=>v=iv∧h'=h1) (mE rfl uy) ⟨rfl,rfl⟩) ?_
  rintro v' h' ⟨rfl,rfl⟩
  obtain⟨i1,kI,jd,qj⟩:=wO
  obtain⟨CK,h2,tR,s2⟩:=iN (s1.ae [1,0]) eC kI EN jd (by omega) rfl (by decide) (by simp only[j_,iE,gv,nN,bI,dz];omega)
  dsimp only[bringA,getA,aQ] at s2
  refine ay.any rfl rfl rfl (OpR.of (R:=fun v h'=>v=CK∧h'=h2) (mD rfl rfl tR) ⟨rfl,rfl⟩) ?_
  rintro v' h' ⟨rfl,rfl⟩
  refine za rfl (zv (zr rfl (zb rfl (by exact bP (aV (by omega) (by omega))) ?_)))
  refine zm rfl (zv ?_)
  refine ih (m+1) _ _ _ Q (by omega) ?_ ⟨rfl,rfl,rfl,rfl,rfl,rfl,rfl,aa⟩ hx
  have e:gU (((nE.drop i).take (m+1)).map fun s=>s-c)=gU (((nE.drop i).take m).map fun s=>s-c)++[.int .i64 ((st-c:Nat):Int)]:=by
   rw[OA,List.map_append];simp[gU]
  rw[e]
  exact s2.del 1
noncomputable def ZV : Code:=cC [1,1] ((Tryz.f114.body).getD .skip)
theorem Q7 (hT:W told){n:Nat}(s:Sat h (bh q p μ::aD p δ::S))(I:μ.Ok)(Bj:δ.Ok)(h1:μ.base≤n)(h2:n≤μ.base+μ.forced)(hE:Has E [(0,.ptr q 0),(1,.int .u64 (n:Int))])
 (AO:∀E' h',(δ.gV ((n-μ.base:Nat):Int) (eo n μ.check)).1≠0→look E' 4=some (.int .i64 (δ.gV ((n-μ.base:Nat):Int) (eo n μ.check)).1)→Sat h' (bh q p μ::aD p (δ.gV ((n-μ.base:Nat):Int) (eo n μ.check)).2::S)→Q .ret E' h')
 (j8:∀E' h',(δ.gV ((n-μ.base:Nat):Int) (eo n μ.check)).1=0→look E' 4=some (.int .i64 0)→Sat h' (bh q p (μ.cut n)::aD p (δ.gV ((n-μ.base:Nat):Int) (eo n μ.check)).2::S)→Q .ret E' h'):
  WP ⟨Tryz.prog,told⟩ 121 ZV E h Q:=by
 have wM:=I.size
 have Uo:=I.forced
 have hlen:=I.len
 have aaN:n<18446744073709551616:=by omega
 have Yw:((n:Int)-(μ.base:Int))=((n-μ.base:Nat):Int):=by omega
 obtain⟨bv,sv,s⟩:=dw.1 s
 refine WP.has hE (zK 5 rfl (zY s 0 gQ fA rfl (zb rfl (by exact jV (fe (by omega) (by omega))) ?_)))
 refine zo rfl (cj rfl (by exact js cD bK (aV (by omega) (by omega)))) ?_
 refine zk 4 rfl ?_
 rw[Yw]
 have s0:=s
 refine WP.drawn [some (0,2),some (0,2),some (0,2),some (0,2),some (0,2),af,af,af,af,af,af,af,af,af] rfl (by kernel_rfl) (by kernel_rfl) ?_
 refine zM rfl (zN rfl (zF rfl (pJ _ _) (zL rfl (s.ld (k:=0) rfl jK rfl) (zM rfl (zM rfl (zM rfl (zM rfl (zN rfl (zF rfl (pL _ _) (zL rfl (s.ld (k:=0) rfl fA rfl) (au.any rfl rfl rfl rfl (OpR.call rfl rfl rfl rfl (CF (q:=q) (a:=n) (b:=μ.check) hT s)) ?_)))))))))))
 intro mv h s
 have s:=s.ae [1,1,1,1,0]
 have s1:=s
 refine au.any rfl rfl rfl rfl (OpR.call rfl rfl rfl rfl (Yv (n:=((n-μ.base:Nat):Int)) hT (s.ae [3,3]) (bJ _ _) Bj)) ?_
 rintro v h ⟨rfl,s⟩
 have s:=(s.del 1).ae [1,1,1,0]
 refine zA rfl ?_
 refine au.nil ⟨⟨fun _ _=>.inr ⟨rfl,⟨_,bj rfl⟩,aU _ rfl⟩,fun _ _=>.inr ⟨rfl,⟨_,jU rfl⟩,aU _ rfl⟩,fun _ _=>.inr ⟨rfl,⟨_,jg rfl (pJ _ _)⟩,aU _ rfl⟩,dR (.inr ⟨rfl,⟨_,aT rfl (s0.ld (k:=0) rfl jK rfl)⟩,aU _ rfl⟩) (.inr ⟨rfl,⟨_,aT rfl (s1.ld (k:=0) rfl jK rfl)⟩,aU _ rfl⟩),fun _ _=>.inr ⟨rfl,⟨_,bj rfl⟩,aU _ rfl⟩,aa,aa,aa,aa,aa,aa,aa,aa,aa,aa⟩,?_⟩
 refine zK 3 rfl ?_
 generalize hcf:δ.gV ((n-μ.base:Nat):Int) (eo n μ.check)=cf at s AO j8
 by_cases he:cf.1=0
 ·skip
  refine zC rfl aX (by simp;exact he) ?_
  have s:=dw.2 ⟨bv,sv,s⟩
  refine zk 7 rfl (zc rfl (D5 (n:=n) hT s I aaN) ?_)
  rintro v h' ⟨rfl,i,HK,rfl⟩
  obtain⟨bv,sv,s⟩:=dw.1 s
  have hi:=HK.1
  have J:((μ.br.length:Int)-(i:Int))=((μ.br.length-i:Nat):Int):=by omega
  have sP:=I.many
  refine zk 6 rfl (zY s 0 iW ng rfl (zo rfl (aY rfl rfl rfl (s.iG (n:=μ.br.length) (j:=2) rfl (by simp[j_]) (by decide) eC)) ?_))
  refine zm rfl (zb rfl (by exact jV (aV (by omega) (by omega))) ?_)
  rw[J]
  obtain⟨i1,kI,jd,qj⟩:=wO
  obtain⟨nv,JR,e1,s1⟩:=ur (P:=Tryz.prog) s eC kI EN jd (by omega) rfl (by decide) (by decide) (n:=0) (c:=μ.br.length-i) (by omega) (by omega)
  dsimp only[repeatL] at s1
  refine ay.any rfl rfl rfl (OpR.of (R:=fun v h'=>v=nv∧h'=JR) (rC rfl rfl e1) ⟨rfl,rfl⟩) ?_
  rintro v h' ⟨rfl,rfl⟩
  have s:=s1.ae [0,2,0,0]
  have WH:=WG (P:=Tryz.prog) (i:=i) s (j:=1) rfl (by simp only[j_];exact hi) eC jt
  have Ew:=WH.2.1
  rw[j_] at Ew
  refine zk 7 rfl (zY s 2 iW ng rfl (zm rfl (zo rfl (cG (p:=some (.int .i64 (i:Int))) (q:=none) (m:=none) (p':=some i) (q':=none) (m':=none) rfl rfl rfl rfl (by rw[gG (by omega)];rfl) rfl rfl WH.1) ?_)))
  refine zo rfl (aY rfl rfl rfl Ew) (zk 2 rfl (WP.block ?_))
  refine Q6 hT (q:=q) (t1:=.int .u64 (n:Int)) (i:=i) (c:=n-μ.base) (nE:=μ.br) hi (fun x hx => ?_) (by omega) (fun x hx => ?_) sP (μ.br.length-i) 0 _ _ _ _ (by omega) s ⟨rfl,rfl,rfl,rfl,rfl,rfl,rfl,aa⟩ (fun SO E' h' fW s' => ?_)
  ·have:=I.low x hx;omega
  ·obtain⟨j,hj,rfl⟩:=List.mem_iff_getElem.1 hx
   have:=HK.2.2 (i+j) _ (vh _ _) (by rw[bn (by simp at hj;omega)])
   simp only[List.getElem_drop] at this ⊢
   omega
  ·have s:=s'
   rw[←Un HK] at s
   have yK:=s.jW (j:=0) rfl
   have OB:=(s.buf (k:=3) rfl).view
   have lC:=eA OB (a:=n-μ.base) (by omega)
   have NF:=dr OB
   have AQ:=dr lC.2.1
   have U:((μ.forced:Int)-((n-μ.base:Nat):Int))=((μ.forced-(n-μ.base):Nat):Int):=by omega
   refine WP.has fW (zw ?_)
   have s0:=s
   refine WP.drawn [some (0,2),some (0,3),some (0,4),some (0,5),some (0,2),af,af,af,af,af,af,af,some (0,4),some (0,2),some (0,2),some (0,2),some (0,2),some (0,5),some (0,5),af,af,af,af,af,af,af,af,af,af,af,af] rfl (by kernel_rfl) (by kernel_rfl) ?_
   refine zM rfl (zM rfl (zM rfl (zM rfl (zM rfl (zM rfl (zN rfl (zF rfl (eH _ _) (zL rfl (s.ld (k:=2) rfl bL rfl) (zM rfl (zO rfl (cG (p:=some (.int .i64 ((n-μ.base:Nat):Int))) (q:=none) (m:=none) (p':=some (n-μ.base)) (q':=none) (m':=none) rfl rfl rfl rfl (by rw[gG (by omega)];rfl) rfl rfl lC.1) ?_))))))))))
   refine au.any rfl rfl rfl rfl (OpR.call rfl rfl rfl rfl (Oz hT (s.ae [3]) (nX (bJ _ _) (by omega)) (by simp;omega))) ?_
   intro w h s
   have hw:=(s.buf (k:=0) rfl).view.cells
   have s1:=s
   refine zM rfl (zM rfl (zN rfl (zF rfl (pK _ _) (zL rfl (s.ld (k:=4) rfl dy rfl) (zM rfl (zO rfl (aJ rfl rfl (by exact jV (aV (by omega) (by omega)))) ?_))))))
   refine zN rfl (zF rfl (gQ _ _) (au.ik rfl rfl rfl (OpR.dg rfl rfl rfl (s.dV (k:=4) rfl ot rfl (by decide) rfl rfl)) ?_))
   rintro v h ⟨rfl,s⟩
   have s2:=s
   refine zN rfl (zF rfl (eH _ _) (au.ik rfl rfl rfl (OpR.dg rfl rfl rfl (s.dV (k:=4) rfl ju rfl (by decide) hw.1 hw.2)) ?_))
   rintro v h ⟨rfl,s⟩
   have s3:=s
   refine zN rfl (zF rfl (iW _ _) (au.ik rfl rfl rfl (OpR.dg rfl rfl rfl (s.dV (k:=4) rfl LG rfl (by decide) yK.1 yK.2.1)) ?_))
   rintro v h ⟨rfl,s⟩
   have s4:=s
   refine zN rfl (zF rfl (pK _ _) (au.ik rfl rfl rfl (OpR.dg rfl rfl rfl (s.dV (k:=4) rfl jt rfl (by decide) rfl rfl)) ?_))
   rintro v h ⟨rfl,s⟩
   refine au.nil ⟨⟨fun _ _=>.inr ⟨rfl,⟨_,bj rfl⟩,aU _ rfl⟩,fun _ _=>.inr ⟨rfl,⟨_,bj rfl⟩,aU _ rfl⟩,fun _ _=>.inr ⟨rfl,⟨_,bj rfl⟩,aU _ rfl⟩,fun _ _=>.inr ⟨rfl,⟨_,bj rfl⟩,aU _ rfl⟩,fun _ _=>.inr ⟨rfl,⟨_,bj rfl⟩,aU _ rfl⟩,aa,aa,aa,aa,aa,aa,aa,fun _ _=>.inr ⟨rfl,⟨_,bj rfl⟩,yK.2.2⟩,fun _ _=>.inr ⟨rfl,⟨_,bj rfl⟩,aU _ rfl⟩,fun _ _=>.inr ⟨rfl,⟨_,jU rfl⟩,aU _ rfl⟩,fun _ _=>.inr ⟨rfl,⟨_,jg rfl (pK _ _)⟩,aU _ rfl⟩,dR (.inr ⟨rfl,⟨_,aT rfl (s0.ld (k:=2) rfl dy rfl)⟩,aU _ rfl⟩) (.inr ⟨rfl,⟨_,aT rfl (s1.ld (k:=4) rfl dy rfl)⟩,aU _ rfl⟩),fun _ _=>.inr ⟨rfl,⟨_,bj rfl⟩,aU _ rfl⟩,fun _ _=>.inr ⟨rfl,⟨_,aJ rfl rfl (by exact jV (aV (by omega) (by omega)))⟩,aU _ rfl⟩,aa,aa,aa,aa,aa,aa,aa,aa,aa,aa,aa,aa,aa⟩,?_⟩
   refine zK 4 rfl (WP.ret ?_)
   rw[U] at s
   refine j8 _ _ he rfl (dw.2 ⟨w,SO,?_⟩)
   exact((s.ae [4,0,1,2]).del 5).del 4
 ·skip
  refine zB rfl aX (by simp;exact he) ?_
  exact zk 7 rfl (WP.ret (AO _ _ he rfl (dw.2 ⟨bv,sv,s⟩)))
end
section
variable {told:dI} {p aq:Nat} {op v:V}
theorem WI (hT:W told){n:Nat}(s:Sat h (bh q p μ::aD p δ::S))(J:μ.Ok)(Bj:δ.Ok)(hn:n<18446744073709551616):
  Call ⟨Tryz.prog,told⟩ 114 [.ptr q 0,.int .u64 (n:Int)] h fun v h'=>v=.int .i64 (eU (μ,δ) n).1∧Sat h' (bh q p (eU (μ,δ) n).2.1::aD p (eU (μ,δ) n).2.2::S):=by
 have U:=s
 have wM:=J.size
 have Uo:=J.forced
 obtain⟨bv,sv,s⟩:=dw.1 s
 refine Call.of_wp (hT.free _ rfl) Tryz.func114 rfl rfl (zK 9 rfl ?_)
 have rest:¬((n≠μ.base+μ.b.length∧μ.hasB n=false)∨μ.base+μ.forced<n∨(μ.check≠0∧μ.check<n))→μ.base≤n→∀E:List (Nat×V),Has E [(0,.ptr q 0),(1,.int .u64 (n:Int))] →
   WP ⟨Tryz.prog,told⟩ 121 ZV E h fun ex E' h'=>(match ex with|.exit _=>False|_=>True)∧∃v,resLE Tryz.prog E' h' [.tmp 4]=some v∧(v=.int .i64 (eU (μ,δ) n).1∧Sat h' (bh q p (eU (μ,δ) n).2.1::aD p (eU (μ,δ) n).2.2::S)):=by
  intro I hle E hE
  refine Q7 hT U J Bj hle (by omega) hE (fun E' h' h1 h2 s' => ?_) (fun E' h' h1 h2 s' => ?_)
  ·rw[eU,ah I,aE h1]
   exact⟨aa,_,ny h2,rfl,s'⟩
  ·rw[eU,ah I,ah (by simpa using h1)]
   exact⟨aa,_,ny h2,rfl,s'⟩
 refine zc rfl (nZ hT U J.size) ?_
 rintro v h' ⟨rfl,rfl⟩
 by_cases he:n=μ.base+μ.b.length
 ·skip
  refine zC rfl aX (by simp;omega) ?_
  refine zk 9 rfl (zc rfl (qn hT U J.size J.forced) ?_)
  rintro v h' ⟨rfl,rfl⟩
  by_cases hf:μ.base+μ.forced<n
  ·skip
   refine zB rfl dS (by simp;omega) ?_
   refine zk 22 rfl (WP.ret ⟨aa,_,rfl,?_⟩)
   rw[eU,aE (.inr (.inl hf))]
   exact⟨rfl,U⟩
  ·skip
   refine zC rfl dS (by simp;omega) ?_
   refine zk 4 rfl (zY s 0 pL fA rfl ?_)
   by_cases hc:μ.check=0
   ·skip
    refine zC rfl aX (by simp;omega) ?_
    refine zk 11 rfl ?_
    have I:¬((n≠μ.base+μ.b.length∧μ.hasB n=false)∨μ.base+μ.forced<n∨(μ.check≠0∧μ.check<n)):=by omega
    exact WP.skip (rest I (by omega) _ ⟨rfl,rfl,aa⟩)
   ·skip
    refine zB rfl aX (by simp;omega) ?_
    refine zk 4 rfl (zY s 0 pL fA rfl ?_)
    by_cases WJ:μ.check<n
    ·skip
     refine zB rfl dS (by simp;omega) ?_
     refine zk 8 rfl (WP.ret ⟨aa,_,rfl,?_⟩)
     rw[eU,aE (.inr (.inr ⟨hc,WJ⟩))]
     exact⟨rfl,U⟩
    ·skip
     refine zC rfl dS (by simp;omega) ?_
     refine zk 4 rfl ?_
     have I:¬((n≠μ.base+μ.b.length∧μ.hasB n=false)∨μ.base+μ.forced<n∨(μ.check≠0∧μ.check<n)):=by omega
     exact WP.skip (rest I (by omega) _ ⟨rfl,rfl,aa⟩)
 ·skip
  refine zB rfl aX (by simp;omega) ?_
  refine zk 3 rfl (zc rfl (Aq (n:=n) hT U J hn) ?_)
  rintro v h' ⟨rfl,rfl⟩
  cases hh:μ.hasB n with
  |false =>
   refine zo rfl (dQ rfl rfl) (zk 28 rfl (WP.ret ⟨aa,_,rfl,?_⟩))
   rw[eU,aE (.inl ⟨he,hh⟩)]
   exact⟨rfl,U⟩
  |true =>
   refine zo rfl (dQ rfl rfl) (zk 4 rfl (zc rfl (qn hT U J.size J.forced) ?_))
   rintro v h' ⟨rfl,rfl⟩
   by_cases hf:μ.base+μ.forced<n
   ·skip
    refine zB rfl dS (by simp;omega) ?_
    refine zk 22 rfl (WP.ret ⟨aa,_,rfl,?_⟩)
    rw[eU,aE (.inr (.inl hf))]
    exact⟨rfl,U⟩
   ·skip
    refine zC rfl dS (by simp;omega) ?_
    refine zk 4 rfl (zY s 0 pL fA rfl ?_)
    by_cases hc:μ.check=0
    ·skip
     refine zC rfl aX (by simp;omega) ?_
     refine zk 11 rfl ?_
     have I:¬((n≠μ.base+μ.b.length∧μ.hasB n=false)∨μ.base+μ.forced<n∨(μ.check≠0∧μ.check<n)):=by simp[hh];omega
     exact WP.skip (rest I (Ef hh) _ ⟨rfl,rfl,aa⟩)
    ·skip
     refine zB rfl aX (by simp;omega) ?_
     refine zk 4 rfl (zY s 0 pL fA rfl ?_)
     by_cases WJ:μ.check<n
     ·skip
      refine zB rfl dS (by simp;omega) ?_
      refine zk 8 rfl (WP.ret ⟨aa,_,rfl,?_⟩)
      rw[eU,aE (.inr (.inr ⟨hc,WJ⟩))]
      exact⟨rfl,U⟩
     ·skip
      refine zC rfl dS (by simp;omega) ?_
      refine zk 4 rfl ?_
      have I:¬((n≠μ.base+μ.b.length∧μ.hasB n=false)∨μ.base+μ.forced<n∨(μ.check≠0∧μ.check<n)):=by simp[hh];omega
      exact WP.skip (rest I (Ef hh) _ ⟨rfl,rfl,aa⟩)
end
def lowF (π:Pl): List Int→Nat→Nat
 |[],m=>m
 |n::l,m=>lowF π l (min m (dirtOf π n 0))
theorem Eg (π:Pl): ∀(l:List Int) (m:Nat),lowF π l m≤m:=by
 intro l
 induction l with
 |nil=>intro m;exact aP _
 |cons n l I=>intro m;exact b_ (I _) (Nat.min_le_left _ _)
theorem OC (π:Pl): ∀ {l:List Int} {i:Nat} {n:Int},l[i]?=some n→((dirtC π l).drop (i*2)).take 2=[.int .i64 n,.int .u64 (dirtOf π n 0:Nat)]:=by
 intro l
 induction l with
 |nil=>intro i n h;simp at h
 |cons x l I =>
  intro i n h
  cases i with
  |zero=>simp at h;subst h;rfl
  |succ i =>
   rw[lK] at h
   rw[show(i+1)*2=i*2+2 by omega]
   exact I h
section
variable {told:dI} {p aq:Nat} {op v:V} {bV:Bool}
noncomputable def ckL : Code:=cC [1,1,1,0,1,0,0] ((Tryz.f53.body).getD .skip)
theorem Up (hT:W told){av t2:V}(Od:ks.length≤1048576): ∀(j i:Nat) (low:Nat) (h:H) (E:List (Nat×V)) (Q:Ex→List (Nat×V)→H→Prop),i+j=ks.length →
  Sat h (.arr 2 av (dirtC π ks)::S)→Has E [(0,.ptr a 0),(1,t1),(2,t2),(7,.int .u64 (low:Int)),(40,av),(41,.int .i64 ks.length),(42,.int .i64 i)] →
  (∀E' h',Has E' [(0,.ptr a 0),(1,t1),(2,t2),(7,.int .u64 (lowF π (ks.drop i) low:Nat))]→Sat h' (.arr 2 av (dirtC π ks)::S)→Q (.exit 1) E' h') →
  WP ⟨Tryz.prog,told⟩ 118 (.loop ckL) E h Q:=by
 intro j
 induction j with
 |zero =>
  intro i low h E Q hi s hE J
  refine WP.loop (WP.has hE (zg rfl (zC rfl bq (by simp<;>omega) ?_)))
  refine zk 3 rfl (WP.exit ?_)
  rw[kL (by omega)] at J
  exact J _ _ ⟨rfl,rfl,rfl,rfl,aa⟩ s
 |succ j ih =>
  intro i low h E Q hi s hE J
  have hn:ks[i]?=some (ks[i]'(by omega)):=bn _
  have I:ks.drop i=ks[i]'(by omega)::ks.drop (i+1):=lJ (by omega)
  generalize (ks[i]'(by omega))=n at hn I
  rw[I] at J
  have U:=OC π hn
  obtain⟨id,off,g1,g2⟩:=GX (P:=Tryz.prog) (i:=i) s (j:=0) rfl (by rw[yA];omega) (by decide) yu LH
  have g2:=g2 X6
  rw[U] at g2
  have Qe:min (low:Int) ((dirtOf π n 0:Nat):Int)=((min low (dirtOf π n 0):Nat):Int):=by omega
  refine WP.loop (WP.has hE (zg rfl (zB rfl bq (by simp<;>omega) ?_)))
  refine zk 5 rfl (WP.block (zg rfl (zo rfl (dD (r:=.ptr id off) rfl rfl g1) (zl rfl g2 ?_))))
  refine ay.cV s rfl rfl rfl (cK FT) (fun p9 h s => ?_)
  dsimp only[V.cells,List.length_cons,List.length_nil,Nat.reduceAdd] at s
  refine zS rfl (s.iq (j:=0) rfl LH rfl rfl) (fun h s => ?_)
  dsimp only[setA] at s
  refine zk 3 rfl (zY s 0 TM fA rfl (zo rfl (LN rfl rfl Wb) ?_))
  rw[Qe]
  refine za rfl (zv (zr rfl (zb rfl (by exact bP (aV (by omega) (by omega))) ?_)))
  refine zm rfl (zv ?_)
  exact ih (i+1) _ _ _ Q (by omega) (s.del 0) ⟨rfl,rfl,rfl,rfl,rfl,rfl,rfl,aa⟩ J
end
theorem CV {x:LD}{n:Nat}(h:x.1.Ok)(I:x.2.Ok)(U:n≤1099511627776): (dZ x n).2.1.Ok∧(dZ x n).2.2.Ok:=by
 have J:(x.2.gC (eo x.1.base n)).2.Ok:=by
  unfold Dk.gC
  split
  ·exact I
  ·split
   ·exact I
   ·split
    ·exact I.die
    ·exact⟨I.cQ.aA,I.len,I.room,I.now,I.ai,I.aH,I.many⟩
 unfold dZ
 split
 ·exact⟨h,I⟩
 ·split
  ·exact⟨h,J⟩
  ·exact⟨⟨h.size,h.many,h.low,h.wL,h.forced,h.len,U⟩,J⟩
def eV (ε:bA): Nat:=lowF ε.1 (az ε.1.aN) (ε.2.1.base+ε.2.1.b.length)
def fP (ε:bA)(data:List Nat): (Nat×Int)×LD:=aI ε.2 8 0 0 0 (le 8 (eV ε)++data) []
theorem WK (I:ow ε)(J:ε.2.1.b=ε.2.2.log)(U:ε.2.1.base+ε.2.1.b.length+1048584≤1099511627776): (fP ε data).2.1.Ok∧(fP ε data).2.2.Ok∧(fP ε data).1.1<1099511627776:=by
 have h:=rI (x:=ε.2) (kd:=8) (tx:=0) (pv:=0) (nx:=0) (data:=le 8 (eV ε)++data) (c:=[]) I.lg I.dk J U
 exact⟨h.1,h.2.1,h.2.2.2.2.2.2⟩
def rW (ε:bA)(lo:Nat): Nat:=if lo=0 then eV ε else min (eV ε) lo
def gL (y:(Nat×Int)×LD): Int×LD:=aK y.2 y.1.1
def eu (y:(Nat×Int)×LD): Int×LD:=dZ (gL y).2 y.1.1
theorem KC {y:(Nat×Int)×LD}(h:y.2.1.Ok): (gL y).2.1.Ok:=by
 rw[gL];exact uU h
theorem KD {y:(Nat×Int)×LD}(h:y.2.2.Ok): (gL y).2.2.Ok:=by
 rw[gL];exact mH h
theorem WL {y:(Nat×Int)×LD}(h:y.2.1.Ok)(I:y.2.2.Ok)(J:y.1.1<1099511627776): (eu y).2.1.Ok∧(eu y).2.2.Ok:=by
 rw[eu];exact CV (KC h) (KD I) (vm J)
inductive yL (y:(Nat×Int)×LD)(kp:Nat)(data dh:List Nat)(aq:Nat): Int→LD→List Nat→Nat→Prop
 |app:y.1.2≠0→yL y kp data dh aq y.1.2 y.2 dh aq
 |force:y.1.2=0→(gL y).1≠0→yL y kp data dh aq (gL y).1 (gL y).2 dh aq
 |check:y.1.2=0→(gL y).1=0→(eu y).1≠0→yL y kp data dh aq (eu y).1 (eu y).2 dh aq
 |cut (t:Nat):y.1.2=0→(gL y).1=0→(eu y).1=0 →
   ((t=(eu y).2.1.base+(eu y).2.1.b.length∧(eu y).2.1.base+(eu y).2.1.b.length≤kp)∨((eu y).2.1.hasB t=true∧t≤kp)∨t=(eu y).2.1.base) →
   (eu y).2.1.base<t→((eu y).2.1.hasB kp=true→kp<(eu y).2.1.base+(eu y).2.1.b.length→t=kp)→yL y kp data dh aq (eU (eu y).2 t).1 (eU (eu y).2 t).2 data y.1.1
 |cO:y.1.2=0→(gL y).1=0→(eu y).1=0→((eu y).2.1.hasB kp=true→kp<(eu y).2.1.base+(eu y).2.1.b.length→kp≤(eu y).2.1.base)→yL y kp data dh aq 0 (eu y).2 data y.1.1
inductive qH (ε:bA)(lo:Nat)(data dh:List Nat)(aq:Nat): Int→bA→List Nat→Nat→Prop
 |HL:4096<data.length→qH ε lo data dh aq 2 ε dh aq
 |dead:data.length≤4096→ε.2.2.dead=true→qH ε lo data dh aq 9 ε dh aq
 |go (e:Int) (y:LD) (bG:List Nat) (bW:Nat):data.length≤4096→ε.2.2.dead=false→yL (fP ε data) (rW ε lo) data dh aq e y bG bW→qH ε lo data dh aq e (ε.1,y) bG bW
section
variable {told:dI} {p aq:Nat} {op v:V}
noncomputable def ZW : Code:=cC [1,1,1,1,1,1,1,1,1,1] ((Tryz.f53.body).getD .skip)
theorem WM (I:W told){lw:Nat}{y:LD}(s:Sat h (bh q p y.1::aD p y.2::pt a (.cells 6 (qq a p q r .cH w aM) false)::S))(J:y.1.Ok)(h2:y.2.Ok)(U:lw<18446744073709551616)(hE:Has E [(0,.ptr a 0),(7,.int .u64 (lw:Int))])
 (q1:∀t E' h',((t=y.1.base+y.1.b.length∧y.1.base+y.1.b.length≤lw)∨(y.1.hasB t=true∧t≤lw)∨t=y.1.base)→y.1.base<t→(y.1.hasB lw=true→lw<y.1.base+y.1.b.length→t=lw)→look E' 6=some (.int .i64 (eU y t).1) →
   Sat h' (bh q p (eU y t).2.1::aD p (eU y t).2.2::pt a (.cells 6 (qq a p q r .cH w aM) false)::S)→Q .ret E' h')
 (q2:∀E' h',(y.1.hasB lw=true→lw<y.1.base+y.1.b.length→lw≤y.1.base)→look E' 6=some (.int .i64 0)→Sat h' (bh q p y.1::aD p y.2::pt a (.cells 6 (qq a p q r .cH w aM) false)::S)→Q .ret E' h'):
  WP ⟨Tryz.prog,told⟩ 118 ZW E h Q:=by
 have acd:=J.size
 refine WP.has hE (zK 5 rfl (zY s 2 jG nA rfl (zm rfl (zc rfl (NT (n:=lw) I s J U) ?_))))
 rintro v _ ⟨rfl,t,rfl,hr,hx⟩
 refine zk 7 rfl (zY s 2 jG nA rfl (zc rfl (uw I s) ?_))
 rintro v h ⟨rfl,rfl⟩
 by_cases hg:y.1.base<t
 ·skip
  refine zB rfl dS (by simp;exact hg) ?_
  refine zk 6 rfl (zY s 2 jG nA rfl (zm rfl (zc rfl (WI (n:=t) I s J h2 (by rcases hr with⟨rfl,_⟩|⟨_,hr⟩|rfl<;>omega)) ?_)))
  rintro v h ⟨rfl,s⟩
  exact zk 2 rfl (WP.ret (q1 t _ _ hr hg hx rfl s))
 ·skip
  refine zC rfl dS (by simp;exact Nat.not_lt.1 hg) ?_
  exact zk 7 rfl (WP.ret (q2 _ _ (fun a b=>by have:=hx a b;omega) rfl s))
noncomputable def aaO : Code:=cC [1,1,1,1,1] ((Tryz.f53.body).getD .skip)
theorem Uq (hT:W told){low:Nat}{y:(Nat×Int)×LD}(lE:cX X (dc x data))(pz:data.length≤4096)(s:Sat h (bh q p y.2.1::aD p y.2.2::X::cB a p q r .cH dh aq::S))(h1:y.2.1.Ok)(h2:y.2.2.Ok)(h3:y.1.1<1099511627776)(sn:low<18446744073709551616)(E_:lo<18446744073709551616)(hE:Has E [(0,.ptr a 0),(1,.int .u64 (lo:Int)),(2,x),(7,.int .u64 (low:Int)),(10,.int .u64 (y.1.1:Int)),(11,.int .i64 y.1.2)])
 (hq:∀e y' bG bW E' h',yL y (if lo=0 then low else min low lo) data dh aq e y' bG bW→look E' 6=some (.int .i64 e)→Sat h' (bh q p y'.1::aD p y'.2::X::cB a p q r .cH bG bW::S)→Q .ret E' h'):
  WP ⟨Tryz.prog,told⟩ 118 aaO E h Q:=by
 have WN:=KC h1
 have WO:=KD h2
 have iR:=WL h1 h2 h3
 obtain⟨dv,s⟩:=bM.1 (s.ae [3])
 have s:=s.ae [2,2,2,0,0]
 obtain⟨y2,I⟩:∃y2,y2=gL y:=⟨_,rfl⟩
 obtain⟨y3,J⟩:∃y3,y3=eu y:=⟨_,rfl⟩
 have ey2:aK (y.2.1,y.2.2) y.1.1=y2:=by rw[I,gL]
 have ey3:dZ (y2.2.1,y2.2.2) y.1.1=y3:=by rw[I,J,eu]
 rw[←I] at WN WO
 rw[←J] at iR
 refine WP.has hE (zK 4 rfl ?_)
 by_cases he:y.1.2=0
 ·skip
  refine zC rfl aX (by simp;exact he) ?_
  refine zk 8 rfl (zY s 3 jG nA rfl (zm rfl (zc rfl (D8 hT s h1 h2.aA) ?_)))
  rw[ey2]
  rintro v h ⟨rfl,s⟩
  refine zk 5 rfl ?_
  by_cases U:y2.1=0
  ·skip
   refine zC rfl aX (by simp;exact U) ?_
   refine zk 8 rfl (zY s 3 jG nA rfl (zm rfl (zc rfl (T5 hT s WN WO.aA (Nat.lt_trans h3 (by decide))) ?_)))
   rw[ey3]
   rintro v h ⟨rfl,s⟩
   refine zk 5 rfl ?_
   by_cases HC:y3.1=0
   ·skip
    refine zC rfl aX (by simp;exact HC) ?_
    refine zk 8 rfl (zc rfl (jY hT (s.ae [2]) lE (by omega)) ?_)
    intro w h s
    have hw:=(s.buf (k:=0) rfl).view.cells
    have s:=s.fO
    refine zk 2 rfl (zf rfl (DS _ _) (zS rfl (s.dV (k:=4) rfl ju rfl (by decide) hw.1 hw.2) ?_))
    intro h s
    refine zn rfl (zf rfl (Ah _ _) ?_)
    refine zS rfl (by exact s.dV (k:=4) rfl ot rfl (by decide) rfl rfl) (fun h s => ?_)
    refine zk 5 rfl ?_
    have s:=s.ae [2,2,2,0,0]
    have rest:∀lw E,lw=(if lo=0 then low else min low lo)→lw<18446744073709551616→Has E [(0,.ptr a 0),(7,.int .u64 (lw:Int))]→WP ⟨Tryz.prog,told⟩ 118 ZW E h Q:=by
     intro lw E WQ b8 hE
     refine WM hT s iR.1 iR.2 b8 hE (fun t E' h' hr hg hx l6 s => ?_) (fun E' h' hx l6 s => ?_)
     ·subst WQ I J
      exact hq _ _ _ _ E' h' (.cut t he U HC hr hg hx) l6 ((bM.2 ⟨w,(s.ae [2,2,0,0,0]).del 5⟩).ae [1,1,1,0])
     ·subst WQ I J
      exact hq _ _ _ _ E' h' (.cO he U HC hx) l6 ((bM.2 ⟨w,(s.ae [2,2,0,0,0]).del 5⟩).ae [1,1,1,0])
    by_cases h0:lo=0
    ·skip
     refine zC rfl aX (by simp;omega) ?_
     exact zk 2 rfl (WP.skip (rest low _ (by rw[aE h0]) sn ⟨rfl,rfl,aa⟩))
    ·skip
     refine zB rfl aX (by simp;omega) ?_
     refine zk 5 rfl (zo rfl (LN rfl rfl Wb) ?_)
     have ZX:min (low:Int) (lo:Int)=((min low lo:Nat):Int):=by omega
     rw[ZX]
     exact zk 2 rfl (rest (min low lo) _ (by rw[ah h0]) (by omega) ⟨rfl,rfl,aa⟩)
   ·skip
    refine zB rfl aX (by simp;exact HC) ?_
    refine zk 7 rfl (WP.ret ?_)
    subst I J
    exact hq _ _ _ _ _ _ (.check he U HC) rfl ((bM.2 ⟨dv,s.ae [3,3,0,0,0]⟩).ae [1,1,1,0])
  ·skip
   refine zB rfl aX (by simp;exact U) ?_
   refine zk 7 rfl (WP.ret ?_)
   subst I J
   exact hq _ _ _ _ _ _ (.force he U) rfl ((bM.2 ⟨dv,s.ae [3,3,0,0,0]⟩).ae [1,1,1,0])
 ·skip
  refine zB rfl aX (by simp;exact he) ?_
  exact zk 7 rfl (WP.ret (hq _ _ _ _ _ _ (.app he) rfl ((bM.2 ⟨dv,s.ae [3,3,0,0,0]⟩).ae [1,1,1,0])))
theorem Ur (hT:W told)(s:Sat h (cB a p q r .cH dh aq::cq r p q ε.1::bh q p ε.2.1::aD p ε.2.2::X::S))(hX:cX X (dc x data))(I:ow ε)(E_:lo<18446744073709551616)
 (hm:ε.1.aN.length≤1048576)(hk:∀n∈ε.1.aN.map (·.1),(Lit.int .i64 n).wf=true)(yJ:ε.2.1.b=ε.2.2.log)(hz:ε.2.1.base+ε.2.1.b.length+1048584≤1099511627776):
  Call ⟨Tryz.prog,told⟩ 53 [.ptr a 0,.int .u64 (lo:Int),x] h fun v h'=>∃e ε' bG bW,qH ε lo data dh aq e ε' bG bW∧v=.int .i64 e ∧
   Sat h' (cB a p q r .cH bG bW::cq r p q ε'.1::bh q p ε'.2.1::aD p ε'.2.2::X::S):=by
 have s0:=s
 have lE:=s.aL (k:=4) rfl hX
 obtain⟨dv,s⟩:=bM.1 s
 refine Call.of_wp (hT.free _ rfl) Tryz.func53 rfl rfl (zK 5 rfl (WP.block (zK 4 rfl (zY s 0 qS GR rfl (zC rfl (FY tT) (rfl) (zk 6 rfl (zo rfl (aY rfl rfl rfl (bk aW lE)) ?_)))))))
 by_cases hb:4096<data.length
 ·skip
  refine zB rfl dS (by simp;omega) ?_
  exact zk 7 rfl (WP.ret ⟨aa,_,rfl,2,ε,_,_,.HL hb,rfl,s0⟩)
 ·have pz:data.length≤4096:=by omega
  refine zC rfl dS (by simp;omega) ?_
  refine zk 7 rfl (zY s 0 pI jK rfl (zc rfl (tO hT (s.ae [4])) ?_))
  rintro v h ⟨rfl,rfl⟩
  refine zk 2 rfl ?_
  cases hd:ε.2.2.dead with
  |true =>
   exact zK 5 rfl (WP.ret ⟨aa,_,rfl,9,ε,_,_,.dead pz hd,rfl,s0⟩)
  |false =>
   refine zj rfl (WP.skip (zg rfl (zk 2 rfl (zf rfl (jG _ _) (zl rfl (by exact s.ld (k:=0) rfl nA rfl) ?_)))))
   refine zc rfl (nZ hT (s.ae [3]) I.lg.size) ?_
   rintro v h ⟨rfl,rfl⟩
   refine zk 7 rfl (zY s 0 mW rE rfl (zc rfl (QG hT (s.ae [2]) hm hk) ?_))
   intro av h s
   have hl:(az ε.1.aN).length=ε.1.aN.length:=by rw[az,(en _).length_eq,iE]
   refine zo rfl (aY rfl rfl rfl (s.iG (n:=(az ε.1.aN).length) (j:=0) rfl (by rw[yA]) (by decide) yu)) ?_
   refine zk 2 rfl (WP.block ?_)
   refine Up hT (ks:=az ε.1.aN) (by omega) (az ε.1.aN).length 0 (ε.2.1.base+ε.2.1.b.length) _ _ _ (by omega) s ⟨rfl,rfl,rfl,rfl,rfl,rfl,rfl,aa⟩ (fun E' h' J s' => ?_)
   rw[fY] at J
   have J:Has E' [(0,.ptr a 0),(1,.int .u64 (lo:Int)),(2,x),(7,.int .u64 (eV ε:Nat))]:=J
   have s:=s'.del 0
   have sn:eV ε<18446744073709551616:=by
    have:=Eg ε.1 (az ε.1.aN) (ε.2.1.base+ε.2.1.b.length)
    have:=I.lg.size
    unfold eV;omega
   refine WP.has J (zw ?_)
   have U:=WK (data:=data) I yJ hz
   have s:=s.yl
   have s0:=s
   have AL:=dr lE
   refine WP.drawn [some (0,3),some (0,3),some (0,3),some (0,3),none,none,some (0,2),af,af,af,af,af,af,af,af] rfl (by kernel_rfl) (by kernel_rfl) ?_
   refine zM rfl (zN rfl (zF rfl (jG _ _) (zL rfl (s.ld (k:=2) rfl nA rfl) (zM rfl (au.any rfl rfl rfl rfl (OpR.call rfl rfl rfl rfl (vM (z:=8) hT s (by decide) (by simp))) ?_)))))
   intro v1 h s
   rw[eE] at s
   have s1:=s
   obtain⟨lw,HM⟩:∃lw,lw=le 8 (eV ε):=⟨_,rfl⟩
   have ace:lw.length=8:=by rw[HM,dX]
   have eck:fP ε data=aI ε.2 8 0 0 0 (lw++data) []:=by rw[HM];rfl
   rw[←HM] at s
   refine zM rfl (au.any rfl rfl rfl rfl (OpR.oO rfl (s.ae [0,5]) hX rfl rfl rfl rfl (by omega)) ?_)
   intro v2 h s
   obtain⟨vi,vo,vc,rfl⟩:=ku (s.buf (k:=0) rfl).view (by simp only[bT];omega)
   have s2:=s
   refine zO rfl (dn rfl (by rw[sL];rfl)) ?_
   have s:Sat h (.arr 4 .bw []::cZ [] []::_):=(s.gB (φ:=True) aa).qh
   refine au.any rfl rfl rfl rfl (OpR.call rfl rfl rfl rfl (He (kd:=8) (tx:=0) (pv:=0) (nx:=0) (ch:=.bw) hT (s.ae [7,7,2,0,0]) (bJ _ _) ⟨by simp[vO],by decide,by decide,by decide,by simp;omega⟩ I.lg I.dk)) ?_
   rintro v h ⟨rfl,s⟩
   rw[show aI (ε.2.1,ε.2.2) 8 0 0 0 (lw++data) []=fP ε data from eck.symm] at s ⊢
   obtain⟨y1,vQ⟩:∃y1,y1=fP ε data:=⟨_,rfl⟩
   rw[←vQ] at s U ⊢
   refine zM rfl (zO rfl (bN rfl rfl) (zO rfl (bN rfl rfl) (zA rfl (zA rfl ?_))))
   refine au.nil ⟨⟨fun _ _=>.inr ⟨rfl,⟨_,bj rfl⟩,aU _ rfl⟩,fun _ _=>.inr ⟨rfl,⟨_,jU rfl⟩,aU _ rfl⟩,fun _ _=>.inr ⟨rfl,⟨_,jg rfl (jG _ _)⟩,aU _ rfl⟩,rN (.inr ⟨rfl,⟨_,aT rfl (s0.ld (k:=2) rfl nA rfl)⟩,aU _ rfl⟩) (.inr ⟨rfl,⟨_,aT rfl (s1.ld (k:=2) rfl nA rfl)⟩,aU _ rfl⟩) (.inr ⟨rfl,⟨_,aT rfl (s2.ld (k:=3) rfl nA rfl)⟩,aU _ rfl⟩),aa,aa,fun _ _=>.inr ⟨rfl,⟨_,bj rfl⟩,AL⟩,aa,aa,aa,aa,aa,aa,aa,aa,aa⟩,?_⟩
   have s:=((s.del 4).del 3).del 2
   have s:=(bM.2 ⟨dv,s.ae [4,4]⟩).ae [1,1,1,0]
   refine Uq hT hX pz s U.1 U.2.1 U.2.2 sn E_ ⟨rfl,rfl,rfl,rfl,rfl,rfl,aa⟩ (fun e y' bG bW E' h' hc l6 s2 => ?_)
   subst vQ
   exact⟨aa,_,ny l6,e,(ε.1,y'),bG,bW,.go e y' bG bW pz hd hc,rfl,s2.ae [3,3,0,0,0]⟩
end
theorem OD : ∃i,Tryz.prog.info? 4=some i∧i.size=1∧i.bytes=1 :=
 ⟨_,(show Tryz.prog.info? 4=some ((Tryz.prog.info? 4).getD default) by kernel_rfl),by kernel_rfl,by kernel_rfl⟩
theorem Us : ∀n:Nat,repeatL [V.bool false] n=qG (List.replicate n false):=by
 intro n
 induction n with
 |zero=>rfl
 |succ n I=>simp only[repeatL,I,qG,y6,gO];rfl
theorem Yx {x:Operand}{n:Nat}(I:n<72057594037927936): binV P h .shl t x y (.int .u64 (n:Int)) (.int .u64 8)=some (.int .u64 ((n*256:Nat):Int)):=by
 simp only[binV,shiftV,IntKind.bits]
 rw[show min ((8:Int).toNat) 64=8 from rfl,show decide ((8:Int)<0)=false from rfl,bf]
 have:(n:Int)*2^8=((n*256:Nat):Int):=by rw[show(2:Int)^8=256 from rfl];omega
 rw[this,wrap_u64 (by omega)]
theorem aaP {x:Operand}(ha:a<72057594037927936)(hd:d<256): binV P h .or t x y (.int .u64 ((a*256:Nat):Int)) (.int .u64 (d:Int))=some (.int .u64 ((d+256*a:Nat):Int)):=by
 have I:(((a*256:Nat):Int)%(2^(IntKind.u64).bits:Int)).toNat=a*256:=by simp only[IntKind.bits];omega
 have J:((d:Int)%(2^(IntKind.u64).bits:Int)).toNat=d:=by simp only[IntKind.bits];omega
 have U:Nat.lor (a*256) d=d+256*a:=by
  have:=De (i:=8) (b:=d) (by omega) a
  rw[show a*256=2^8*a by omega,Nat.add_comm]
  exact this.symm
 simp only[binV,ikBeq,ak,intV,bitsV,I,J,U]
 rw[wrap_u64 (by omega)]
section
variable {told:dI} {v:V}
noncomputable def g1L : Code:=cC [1,1,0,1,0,0] ((Tryz.f219.body).getD .skip)
theorem OE (J:View h v l)(hz:z≤7)(hl:a+z≤l.length)(i_:l.length≤65536): ∀(i:Nat) (E:List (Nat×V)) (Q:Ex→List (Nat×V)→H→Prop),i≤z →
  Has E [(0,v),(1,.int .i64 (a:Int)),(7,.int .u64 (leN ((l.take (a+z)).drop (a+i)):Nat)),(8,.int .i64 ((i:Int)-1))]→(∀E',look E' 7=some (.int .u64 (dU l a z:Nat))→Q (.exit 0) E' h)→WP ⟨Tryz.prog,told⟩ 26 (.loop g1L) E h Q:=by
 intro i
 induction i with
 |zero =>
  intro E Q hi I U
  refine WP.loop (WP.has I (zK 4 rfl (zC rfl kK (by simp<;>omega) ?_)))
  exact zk 2 rfl (WP.exit (U _ rfl))
 |succ i ih =>
  intro E Q hi I U
  have hb:l[a+i]?=some (l[a+i]'(by omega)):=bn _
  generalize Kk:(l[a+i]'(by omega))=b at hb
  have pz:b<256:=J.1 b (bu hb)
  obtain⟨id,off,e1,e2⟩:=iz J hb
  have ed:(l.take (a+z)).drop (a+i)=b::(l.take (a+z)).drop (a+(i+1)):=by
   have h1:a+i<(l.take (a+z)).length:=by rw[gv];omega
   rw[lJ h1,List.getElem_take,Kk];rfl
  have b8:=yw ((l.take (a+z)).drop (a+(i+1))) (fun x hx=>J.1 x (lN (oY hx)))
  have hlen:((l.take (a+z)).drop (a+(i+1))).length≤6:=by simp;omega
  have hp:=oZ (n:=256) (by omega) hlen
  have e3:((i+1:Nat):Int)-1=(i:Int):=by omega
  have e4:(a:Int)+(i:Int)=((a+i:Nat):Int):=by omega
  rw[e3] at I
  refine WP.loop (WP.has I (zK 4 rfl (zB rfl kK (by simp<;>omega) ?_)))
  refine zk 4 rfl (WP.block (zK 2 rfl (zb rfl (Yx (by omega)) ?_)))
  refine zk 3 rfl (zb rfl (by exact bP (aV (by omega) (by omega))) ?_)
  rw[e4]
  refine zo rfl (dD (r:=.ptr id off) rfl rfl e1) (zl rfl e2 (zo rfl (cj rfl (by exact js Tryz.underlying5 cD (fe (by omega) (by omega)))) ?_))
  refine zb rfl (aaP (by omega) pz) ?_
  refine za rfl (zv (zr rfl (zm rfl (zb rfl (by exact jV (aV (by omega) (by omega))) ?_))))
  refine za rfl (zv ?_)
  refine ih _ Q (by omega) ?_ U
  rw[ed,leN]
  exact⟨rfl,rfl,rfl,rfl,aa⟩
theorem Ut (U:W told)(s:Sat h S)(hk:getA S k=some X)(hX:cX X (dc v l))(hz:z≤7)(hl:a+z≤l.length)(I:l.length≤65536):
  Call ⟨Tryz.prog,told⟩ 219 [v,.int .i64 (a:Int),.int .i64 (z:Int)] h fun r h'=>r=.int .u64 (dU l a z:Nat)∧h'=h:=by
 have hv:=s.aL hk hX
 refine Call.of_wp (U.free _ rfl) Tryz.func219 rfl rfl (zK 12 rfl (zb rfl (by exact jV (aV (by omega) (by omega))) ?_))
 refine zk 2 rfl (WP.block ?_)
 refine OE (a:=a) (z:=z) hv hz hl I z _ _ (aP _) ⟨rfl,rfl,?_,rfl,aa⟩ (fun E' J => ?_)
 ·rw[show(l.take (a+z)).drop (a+z)=[] by rw[List.drop_eq_nil_iff,gv];omega]
  rfl
 exact WP.has (F:=[(7,.int .u64 (dU l a z:Nat))]) ⟨J,aa⟩ (zK 5 rfl (WP.ret ⟨aa,_,rfl,rfl,rfl⟩))
theorem As (J:W told)(s:Sat h S)(U:getA S k=some X)(hX:cX X (dc v l))(hz:z≤7)(hl:a+z≤l.length)(I:l.length≤65536):
  Call ⟨Tryz.prog,told⟩ 189 [v,.int .i64 (a:Int),.int .i64 (z:Int)] h fun r h'=>r=.int .i64 (dU l a z:Nat)∧h'=h:=by
 have hv:=s.aL U hX
 have b8:=qm (l:=l) (a:=a) (z:=z) hv.1
 have hp:=oZ (n:=256) (by omega) hz
 refine Call.of_wp (J.free _ rfl) Tryz.func189 rfl rfl (zK 9 rfl (zc rfl (Ut J s U hX hz hl I) ?_))
 rintro r h' ⟨rfl,rfl⟩
 refine zo rfl (cj rfl (by exact js cD bK (aV (by omega) (by omega)))) ?_
 exact zk 2 rfl (WP.ret ⟨aa,_,rfl,rfl,rfl⟩)
theorem OF (I:W told)(s:Sat h S)(J:getA S k=some X)(U:cX X (dc v l))(hl:l.length=512):
  Call ⟨Tryz.prog,told⟩ 120 [v] h fun r h'=>r=.int .i64 (jZ l:Nat)∧h'=h:=by
 refine Call.of_wp (I.free _ rfl) Tryz.func120 rfl rfl (zK 7 rfl (zc rfl (As (a:=14) (z:=2) I s J U (by decide) (by omega) (by omega)) ?_))
 rintro r h' ⟨rfl,rfl⟩
 exact zk 2 rfl (WP.ret ⟨aa,_,rfl,rfl,rfl⟩)
theorem Uu (I:W told)(s:Sat h S)(J:getA S k=some X)(U:cX X (dc v l))(hl:l.length=512):
  Call ⟨Tryz.prog,told⟩ 121 [v] h fun r h'=>r=.int .i64 (iK l:Nat)∧h'=h:=by
 refine Call.of_wp (I.free _ rfl) Tryz.func121 rfl rfl (zK 7 rfl (zc rfl (As (a:=16) (z:=2) I s J U (by decide) (by omega) (by omega)) ?_))
 rintro r h' ⟨rfl,rfl⟩
 exact zk 2 rfl (WP.ret ⟨aa,_,rfl,rfl,rfl⟩)
theorem Q8 (I:W told)(s:Sat h S)(J:getA S k=some X)(U:cX X (dc v l))(hl:l.length=512)(hi:30+4*i≤512):
  Call ⟨Tryz.prog,told⟩ 122 [v,.int .i64 (i:Int)] h fun r h'=>r=.bD [.int .i64 (jH l i:Nat),.int .i64 (mG l i:Nat)]∧h'=h:=by
 have e1:26+4*(i:Int)=((26+4*i:Nat):Int):=by omega
 have e2:28+4*(i:Int)=((26+4*i+2:Nat):Int):=by omega
 refine Call.of_wp (I.free _ rfl) Tryz.func122 rfl rfl (zK 9 rfl (zb rfl (by exact A9 (aV (by omega) (by omega))) ?_))
 refine zb rfl (by exact bP (aV (by omega) (by omega))) ?_
 rw[e1]
 refine zc rfl (As (a:=26+4*i) (z:=2) I s J U (by decide) (by omega) (by omega)) ?_
 rintro r h' ⟨rfl,rfl⟩
 refine zk 2 rfl (zb rfl (by exact A9 (aV (by omega) (by omega))) ?_)
 refine zb rfl (by exact bP (aV (by omega) (by omega))) ?_
 rw[e2]
 refine zc rfl (As (a:=26+4*i+2) (z:=2) I s J U (by decide) (by omega) (by omega)) ?_
 rintro r h' ⟨rfl,rfl⟩
 exact zk 3 rfl (WP.ret ⟨aa,_,rfl,rfl,rfl⟩)
noncomputable def aaQ : Code:=cC [1,1,1,1,1,1,0,1,0,0] ((Tryz.f58.body).getD .skip)
noncomputable def aaR : Code:=cC [1,1,1,1,1,1,0,1,0,0,1,0,0,1,1,1,0,0] ((Tryz.f58.body).getD .skip)
theorem Jl {v0 v3 v4 v6:V}(haz:a+z≤512): ∀(m q:Nat) (t:List Bool) (h:H) (E:List (Nat×V)) (Q:Ex→List (Nat×V)→H→Prop),q+m=a+z→t.length=512 →
  Sat h (pt id (.cells 512 (qG t) false)::S)→Has E [(0,v0),(3,v3),(4,v4),(5,.sl id 0 512 (.exact 512)),(6,v6),(7,.int .i64 (a:Int)),(8,.int .i64 (z:Int)),(9,.int .i64 (q:Int))] →
  (markL m q t=none→∀E' h',look E' 2=some (.bool false)→Sat h' S→Q .ret E' h') →
  (∀t' E' h',markL m q t=some t'→Has E' [(0,v0),(3,v3),(4,v4),(5,.sl id 0 512 (.exact 512)),(6,v6)]→Sat h' (pt id (.cells 512 (qG t') false)::S)→Q (.exit 2) E' h') →
  WP ⟨Tryz.prog,told⟩ 68 (.loop aaR) E h Q:=by
 intro m
 induction m with
 |zero =>
  intro q t h E Q hq ht s hE U hx
  refine WP.loop (WP.has hE (zK 6 rfl (zb rfl (by exact bP (aV (by omega) (by omega))) ?_)))
  refine zC rfl bq (by simp;omega) ?_
  exact zk 2 rfl (WP.exit (hx t _ _ rfl ⟨rfl,rfl,rfl,rfl,rfl,aa⟩ s))
 |succ m ih =>
  intro q t h E Q hq ht s hE U hx
  have I:q<t.length:=by omega
  have J:indexAddrV Tryz.prog 223 (.sl id 0 512 (.exact 512)) (.int .i64 (q:Int))=some (.ptr id q):=by
   rw[Ya,show(decide ((0:Int)≤(q:Int))&&decide ((q:Int)<((512:Nat):Int)))=true by simp;omega,ak];simp
  refine WP.loop (WP.has hE (zK 6 rfl (zb rfl (by exact bP (aV (by omega) (by omega))) ?_)))
  refine zB rfl bq (by simp;omega) ?_
  refine zk 4 rfl (WP.block (zK 5 rfl (zo rfl (dD (r:=.ptr id q) rfl rfl J) ?_)))
  cases hm:t.getD q false with
  |true =>
   refine zt rfl (aT rfl (s.ld (k:=0) rfl jQ (Ap I))) (hm) (zk 6 rfl (WP.ret ?_))
   refine U ?_ _ _ rfl s.drop
   rw[markL,aE hm]
  |false =>
   refine zh rfl (aT rfl (s.ld (k:=0) rfl jQ (Ap I))) (hm) (zk 6 rfl (zo rfl (dD (r:=.ptr id q) rfl rfl J) (zS rfl (s.dV (k:=0) rfl xw (by simp[qG,ht]) (by omega) rfl rfl) ?_)))
   intro h s
   dsimp only[setA] at s
   rw[Kl] at s
   refine zv (zr rfl (zm rfl (zb rfl (by exact bP (aV (by omega) (by omega))) ?_)))
   refine za rfl (zv ?_)
   have e:markL (m+1) q t=markL m (q+1) (t.set q true):=by rw[markL,ah (by rw[hm];decide)]
   rw[e] at U hx
   exact ih (q+1) (t.set q true) h _ Q (by omega) (by simp[ht]) s ⟨rfl,rfl,rfl,rfl,rfl,rfl,rfl,rfl,aa⟩ U hx
theorem Jm (hT:W told){n low:Nat}(hX:cX X (dc x l))(hl:l.length=512)(b8:∀b∈l,b<256)(hn:n=jZ l)(sn:26+4*n≤low)(Yp:low≤512): ∀(m i:Nat) (t:List Bool) (h:H) (E:List (Nat×V)) (Q:Ex→List (Nat×V)→H→Prop),i+m=n→t.length=512 →
  Sat h (pt id (.cells 512 (qG t) false)::X::S)→Has E [(0,x),(3,.int .i64 (n:Int)),(4,.int .i64 (low:Int)),(5,.sl id 0 512 (.exact 512)),(6,.int .i64 (i:Int))] →
  (cellsL l low m i t=false→∀E' h',look E' 2=some (.bool false)→Sat h' (X::S)→Q .ret E' h') →
  (cellsL l low m i t=true→∀E' h',Sat h' (X::S)→Q (.exit 0) E' h') →
  WP ⟨Tryz.prog,told⟩ 68 (.loop aaQ) E h Q:=by
 intro m
 induction m with
 |zero =>
  intro i t h E Q hi ht s hE J hx
  refine WP.loop (WP.has hE (zK 5 rfl (zC rfl bq (by simp;omega) ?_)))
  exact zk 2 rfl (WP.exit (hx rfl _ _ s.drop))
 |succ m ih =>
  intro i t h E Q hi ht s hE J hx
  have hf:=qm (l:=l) (a:=26+4*i) (z:=2) b8
  have hz:=qm (l:=l) (a:=26+4*i+2) (z:=2) b8
  have ef:jH l i=dU l (26+4*i) 2:=rfl
  have ez:mG l i=dU l (26+4*i+2) 2:=rfl
  refine WP.loop (WP.has hE (zK 5 rfl (zB rfl bq (by simp;omega) ?_)))
  refine zk 4 rfl (WP.block (zK 4 rfl (zc rfl (Q8 (i:=i) hT s (k:=1) rfl hX hl (by omega)) ?_)))
  rintro r h' ⟨rfl,rfl⟩
  refine zk 11 rfl ?_
  refine zd rfl (aJ rfl rfl bq) ?_ ?_
  ·intro U
   have U:jH l i<low:=by simp at U;omega
   refine zk 12 rfl (WP.ret ?_)
   refine J ?_ _ _ rfl s.drop
   rw[cellsL,aE (.inl U)]
  ·intro U
   have U:low≤jH l i:=by simp at U;omega
   refine zk 3 rfl (zb rfl (by exact bP (aV (by omega) (by omega))) ?_)
   refine zd rfl (aJ rfl rfl dS) ?_ ?_
   ·intro I
    have I:512<jH l i+mG l i:=by simp at I;omega
    refine zk 7 rfl (WP.ret ?_)
    refine J ?_ _ _ rfl s.drop
    rw[cellsL,aE (.inr I)]
   ·intro I
    have I:jH l i+mG l i≤512:=by simp at I;omega
    refine zk 9 rfl (WP.block ?_)
    have e:cellsL l low (m+1) i t=(match markL (mG l i) (jH l i) t with|none=>false|some t'=>cellsL l low m (i+1) t'):=by rw[cellsL,ah (by omega)];rfl
    rw[e] at J hx
    refine Jl I (mG l i) (jH l i) t _ _ _ rfl ht s ⟨rfl,rfl,rfl,rfl,rfl,rfl,rfl,rfl,aa⟩ (fun hm E' h' h2 s' => ?_) (fun t' E' h' hm fW s' => ?_)
    ·rw[hm] at J
     exact J rfl _ _ h2 s'
    ·rw[hm] at J hx
     refine WP.has fW (zK 2 rfl (zb rfl (by exact bP (aV (by omega) (by omega))) ?_))
     refine za rfl (zv ?_)
     exact ih (i+1) t' _ _ Q (by omega) (by rw[EY _ _ _ _ hm,ht]) s' ⟨rfl,rfl,rfl,rfl,rfl,aa⟩ J hx
theorem HN (hT:W told)(s:Sat h (X::S))(hX:cX X (dc v l)):
  Call ⟨Tryz.prog,told⟩ 58 [v] h fun r h'=>r=.bool (bR l)∧Sat h' (X::S):=by
 have hv:=s.aL (k:=0) rfl hX
 refine Call.of_wp (hT.free _ rfl) Tryz.func58 rfl rfl (zK 8 rfl (zo rfl (aY rfl rfl rfl (bk aW hv)) ?_))
 refine zd rfl (aJ rfl rfl aX) ?_ ?_
 ·intro hq
  have hq:l.length≠512:=by simp at hq;omega
  exact zk 12 rfl (WP.ret ⟨aa,_,rfl,by rw[bR,eW hq,hG],s⟩)
 ·intro hq
  have hq:l.length=512:=by simp at hq;omega
  have hb:l[13]?=some (l[13]'(by omega)):=bn _
  generalize Kk:(l[13]'(by omega))=b at hb
  have kC:l.getD 13 0=b:=by rw[qI,hb];rfl
  obtain⟨id,off,e1,e2⟩:=iz hv hb
  refine zk 2 rfl (zo rfl (dD (r:=.ptr id off) rfl rfl e1) (zl rfl e2 ?_))
  refine zd rfl (aJ rfl rfl aX) ?_ ?_
  ·intro I
   have I:b≠0:=by simp at I;omega
   exact zk 7 rfl (WP.ret ⟨aa,_,rfl,by rw[bR,er hq,kC,eW I,hG,o_],s⟩)
  ·intro I
   have I:b=0:=by simp at I;omega
   refine zk 7 rfl (zc rfl (OF hT s (k:=0) rfl hX hq) ?_)
   rintro r h' ⟨rfl,rfl⟩
   refine zk 5 rfl (zc rfl (Uu hT s (k:=0) rfl hX hq) ?_)
   rintro r h' ⟨rfl,rfl⟩
   have xp:=qm (l:=l) (a:=14) (z:=2) hv.1
   have uf:=qm (l:=l) (a:=16) (z:=2) hv.1
   have ec:jZ l=dU l 14 2:=rfl
   have el:iK l=dU l 16 2:=rfl
   refine zk 6 rfl (zb rfl (by exact A9 (aV (by omega) (by omega))) ?_)
   refine zb rfl (by exact bP (aV (by omega) (by omega))) ?_
   refine zm rfl ?_
   refine zd rfl (aJ rfl rfl dS) ?_ ?_
   ·intro J
    have J:iK l<26+4*jZ l:=by simp at J;omega
    exact zk 10 rfl (WP.ret ⟨aa,_,rfl,by rw[bR,er hq,kC,er I,eW (by omega:¬(26+4*jZ l≤iK l∧iK l≤512))];rfl,s⟩)
   ·intro J
    have J:26+4*jZ l≤iK l:=by simp at J;omega
    refine zk 2 rfl ?_
    refine zd rfl (aJ rfl rfl dS) ?_ ?_
    ·intro U
     have U:512<iK l:=by simp at U;omega
     exact zk 7 rfl (WP.ret ⟨aa,_,rfl,by rw[bR,er hq,kC,er I,eW (by omega:¬(26+4*jZ l≤iK l∧iK l≤512))];rfl,s⟩)
    ·intro U
     have U:iK l≤512:=by simp at U;omega
     obtain⟨i1,kI,jd,qj⟩:=OD
     obtain⟨id,h1,e1,s1⟩:=ym (P:=Tryz.prog) s Tryz.underlying223 kI Zw jd (by omega) rfl (by decide) (n:=512) (by decide)
     refine zk 6 rfl (ay.any rfl rfl rfl (OpR.of (R:=fun v h'=>v=.sl id 0 512 (.exact 512)∧h'=h1) (rC rfl rfl e1) ⟨rfl,rfl⟩) ?_)
     rintro v h ⟨rfl,rfl⟩
     rw[e_,show(V.bool false).cells=[V.bool false] from rfl,Us] at s1
     have s:=s1
     refine zk 7 rfl (WP.block ?_)
     have ZY:bR l=cellsL l (iK l) (jZ l) 0 (List.replicate 512 false):=by rw[bR,er hq,kC,er I,er ⟨J,U⟩];rfl
     refine Jm hT (n:=jZ l) (low:=iK l) hX hq hv.1 rfl J U (jZ l) 0 (List.replicate 512 false) _ _ _ (by omega) gM s ⟨rfl,rfl,rfl,rfl,rfl,aa⟩ (fun hc E' h' h2 s' => ?_) (fun hc E' h' s' => ?_)
     ·exact⟨aa,_,ny h2,by rw[ZY,hc],s'⟩
     ·have s:=s'
      exact WP.has (F:=[]) aa (zK 4 rfl (WP.ret ⟨aa,_,rfl,by rw[ZY,hc],s⟩))
end
theorem Mb : ∀ {l:List Nat},(∀b∈l,b<256)→bytesOf (ofBytes l)=some l:=by
 intro l
 induction l with
 |nil=>intro _;rfl
 |cons b l J =>
  intro h
  have I:=J fun x U=>h x (b9 _ U)
  have h2:=h b cn
  rw[ofBytes] at I
  simp only[ofBytes,gO,bytesOf,I,aG,List.cons.injEq,and_true]
  omega
theorem xC {v:V}(I:View h v l): convV Tryz.prog h 23 9 v=some (.str l,h):=by
 obtain⟨J,(⟨rfl|⟨ea,rfl⟩,rfl⟩|⟨id,off,cap,n,cs,st,rfl,U,hl,ho,hc,_⟩)⟩:=I
 ·simp only[convV,aW,iP,Tryz.underlying5]
 ·simp only[convV,aW,iP,Tryz.underlying5]
 ·have e:rdN h id off l.length=some (ofBytes l):=by rw[Cq U hl ho,hc]
  simp only[convV,aW,iP,Tryz.underlying5,e,Mb J]
theorem WS (l:List Nat): (V.str l).beq (.str l)=true:=by simp only[V.beq,uR,decide_true]
def iS (l:List Nat): List Nat:=if l.length≠512∨l=List.replicate 512 0 then[] else l.drop 12
def nk (e:Int)(b w:List Nat): Bool:=decide (e=0)&&(decide (iS b=w)&&decide (dM b≠4))
section
variable {told:dI} {p aq:Nat} {op v:V} {bV:Bool}
theorem KE (hT:W told)(s:Sat h (X::S))(I:cX X (dc v l)): Call ⟨Tryz.prog,told⟩ 109 [v] h fun r h'=>r=.str (iS l)∧Sat h' (X::S):=by
 have hv:=s.aL (k:=0) rfl I
 have OB:=dr hv
 have J:=WS l
 refine Call.of_wp (hT.free _ rfl) Tryz.func109 rfl rfl (zK 6 rfl ?_)
 have s0:=s
 by_cases hl:l.length=512
 ·have fin:∀h,Sat h (X::S)→l≠List.replicate 512 0→(V.str (l.drop 12)=.str (iS l)∧Sat h (X::S)):=fun h s U=>⟨by rw[iS,ah (by rintro(h|h);exact h hl;exact U h)],s⟩
  by_cases U:l=List.replicate 512 0
  ·skip
   refine WP.drawn [af,af,af,af,some (0,2),some (0,2),af,af,af,af] rfl (by kernel_rfl) (by kernel_rfl) ?_
   refine zM rfl (zO rfl (aY rfl rfl rfl (bk aW (s.aL (k:=0) rfl I))) (au.mN rfl rfl rfl rfl (aJ rfl rfl aX) (by simp;omega) ?_))
   refine zM rfl (zM rfl (au.op rfl rfl rfl (by simp only[isEff,iP]) (cj rfl (xC (s.aL (k:=0) rfl I))) ?_))
   refine au.any rfl rfl rfl rfl (OpR.FX rfl s rfl rfl rfl rfl (by decide)) ?_
   intro z h s
   refine au.op rfl rfl rfl (by simp only[isEff,iP]) (cj rfl (xC (s.aL (k:=0) rfl (bJ _ _)))) ?_
   refine au.oc rfl rfl rfl rfl (aJ rfl rfl wC) (decide_eq_true U) (zO rfl (ko rfl rfl) ?_)
   refine au.nil ⟨⟨aa,aa,aa,aa,fun _ _=>.inr ⟨rfl,⟨_,bj rfl⟩,OB⟩,dR (.inr ⟨rfl,⟨_,cj rfl (xC (s0.aL (k:=0) rfl I))⟩,J⟩) (.inr ⟨rfl,⟨_,cj rfl (xC (s.aL (k:=1) rfl I))⟩,J⟩),aa,aa,aa,aa,aa⟩,?_⟩
   exact zK 5 rfl (WP.ret ⟨aa,_,rfl,by rw[iS,aE (.inr U)];rfl,s.drop⟩)
  ·skip
   refine WP.drawn [af,af,af,af,some (0,2),some (0,2),af,af,af,af] rfl (by kernel_rfl) (by kernel_rfl) ?_
   refine zM rfl (zO rfl (aY rfl rfl rfl (bk aW (s.aL (k:=0) rfl I))) (au.mN rfl rfl rfl rfl (aJ rfl rfl aX) (by simp;omega) ?_))
   refine zM rfl (zM rfl (au.op rfl rfl rfl (by simp only[isEff,iP]) (cj rfl (xC (s.aL (k:=0) rfl I))) ?_))
   refine au.any rfl rfl rfl rfl (OpR.FX rfl s rfl rfl rfl rfl (by decide)) ?_
   intro z h s
   refine au.op rfl rfl rfl (by simp only[isEff,iP]) (cj rfl (xC (s.aL (k:=0) rfl (bJ _ _)))) ?_
   refine au.mN rfl rfl rfl rfl (aJ rfl rfl wC) (decide_eq_false U) (zO rfl (ko rfl rfl) ?_)
   refine au.nil ⟨⟨aa,aa,aa,aa,fun _ _=>.inr ⟨rfl,⟨_,bj rfl⟩,OB⟩,dR (.inr ⟨rfl,⟨_,cj rfl (xC (s0.aL (k:=0) rfl I))⟩,J⟩) (.inr ⟨rfl,⟨_,cj rfl (xC (s.aL (k:=1) rfl I))⟩,J⟩),aa,aa,aa,aa,aa⟩,?_⟩
   have lC:=eA (s.aL (k:=1) rfl I) (a:=12) (by omega)
   exact zK 5 rfl (zo rfl (cG (p:=some (.int .i64 12)) (q:=none) (m:=none) (p':=some 12) (q':=none) (m':=none) rfl rfl rfl rfl rfl rfl rfl lC.1) (zo rfl (cj rfl (xC lC.2.1)) (zk 2 rfl (WP.ret ⟨aa,_,rfl,fin _ s.drop U⟩))))
 ·skip
  refine WP.drawn [af,af,af,af,some (0,2),some (0,2),af,af,af,af] rfl (by kernel_rfl) (by kernel_rfl) ?_
  refine zM rfl (zO rfl (aY rfl rfl rfl (bk aW (s.aL (k:=0) rfl I))) (au.oc rfl rfl rfl rfl (aJ rfl rfl aX) (by simp;omega) ?_))
  refine zM rfl (au.no (e:=false) rfl rfl rfl rfl (au.no (e:=false) rfl rfl rfl (by simp only[isEff,iP]) ?_))
  refine au.no (e:=true) rfl rfl rfl rfl (au.no (e:=false) rfl rfl rfl (by simp only[isEff,iP]) ?_)
  refine au.no (e:=false) rfl rfl rfl rfl (zO rfl (jf rfl rfl) ?_)
  refine au.nil ⟨⟨aa,aa,aa,aa,fun _ _=>.inl rfl,fun _ _=>.inl rfl,aa,aa,aa,aa,aa⟩,?_⟩
  exact zK 5 rfl (WP.ret ⟨aa,_,rfl,by rw[iS,aE (.inl hl)];rfl,s⟩)
theorem Uv (U:W told){w:List Nat}(s:Sat h (cB a p q r op data aq::cq r p q ε.1::bh q p ε.2.1::aD p ε.2.2::S))(I:fL ε)(hw:ε.2.2.waiting.length≤268435456):
  Call ⟨Tryz.prog,told⟩ 51 [.iface 26 (.ptr a 0),.int .i64 n,.str w] h fun v h'=>∃e b ε',kD ε n e b ε'∧v=.bool (nk e b w) ∧
   Sat h' (cB a p q r op data aq::cq r p q ε'.1::bh q p ε'.2.1::aD p ε'.2.2::S):=by
 refine Call.of_wp (U.free _ rfl) Tryz.func51 rfl rfl (zK 8 rfl (ay.any rfl rfl rfl (OpR.invoke rfl rfl rfl Uh rfl (Bo U (n:=n) s I.ok I.pins hw)) ?_))
 rintro v h ⟨e,b,ε',J,(⟨he,rfl,s⟩|⟨rfl,u,rfl,s⟩)⟩
 ·refine ay.op rfl rfl rfl (bj rfl) ?_
  refine zk 8 rfl (zC rfl bZ (by simp;exact he) ?_)
  exact zk 13 rfl (WP.ret ⟨aa,_,rfl,e,b,ε',J,by rw[nk,eW he,hG],s⟩)
 ·have hlen:=(J.len I)
  refine zk 9 rfl (zB rfl bZ (rfl) (zk 2 rfl (zc rfl (KE U s (bJ _ _)) ?_)))
  rintro r h ⟨rfl,s⟩
  refine zm rfl ?_
  by_cases hb:iS b=w
  ·skip
   refine zB rfl wC (decide_eq_true hb) (zk 3 rfl (zc rfl (wK U s (bJ _ _) (by omega)) ?_))
   rintro r h ⟨rfl,s⟩
   by_cases hc:dM b=4
   ·skip
    refine zC rfl aX (by simp;exact hc) ?_
    exact zk 3 rfl (WP.ret ⟨aa,_,rfl,0,b,ε',J,by rw[nk,show decide (dM b≠4)=false from eW (not_not_intro hc),o_,o_],s.drop⟩)
   ·skip
    refine zB rfl aX (by simp;exact hc) ?_
    exact zk 3 rfl (WP.ret ⟨aa,_,rfl,0,b,ε',J,by rw[nk,er hc,er hb];rfl,s.drop⟩)
  ·skip
   exact zC rfl wC (decide_eq_false hb) (zk 8 rfl (WP.ret ⟨aa,_,rfl,0,b,ε',J,by rw[nk,eW hb,hG,o_],s.drop⟩))
theorem Uw (hT:W told){w:List Nat}(s:Sat h (gZ g a now bV::cB a p q r op data aq::cq r p q ε.1::bh q p ε.2.1::aD p ε.2.2::S))(U:fL ε)(hw:ε.2.2.waiting.length≤268435456)(I:∀e∈now,e.2.length=512):
  Call ⟨Tryz.prog,told⟩ 51 [.iface 78 (.ptr g 0),.int .i64 n,.str w] h fun v h'=>∃e b ε',GRd ε now bV n e b ε'∧v=.bool (nk e b w) ∧
   Sat h' (gZ g a now bV::cB a p q r op data aq::cq r p q ε'.1::bh q p ε'.2.1::aD p ε'.2.2::S):=by
 refine Call.of_wp (hT.free _ rfl) Tryz.func51 rfl rfl (zK 8 rfl (ay.any rfl rfl rfl (OpR.invoke rfl rfl rfl Ky rfl (Hz hT (n:=n) s U hw I)) ?_))
 rintro v h ⟨e,b,ε',J,(⟨he,rfl,s⟩|⟨rfl,u,rfl,s⟩)⟩
 ·refine ay.op rfl rfl rfl (bj rfl) ?_
  refine zk 8 rfl (zC rfl bZ (by simp;exact he) ?_)
  exact zk 13 rfl (WP.ret ⟨aa,_,rfl,e,b,ε',J,by rw[nk,eW he,hG],s⟩)
 ·have hlen:b.length=512:=by
   cases J with
   |own b h1 h2 h hl=>exact I _ (fh hl)
   |read e b ε' h1 h2 h hl J=>exact J.len U
  refine zk 9 rfl (zB rfl bZ (rfl) (zk 2 rfl (zc rfl (KE hT s (bJ _ _)) ?_)))
  rintro r h ⟨rfl,s⟩
  refine zm rfl ?_
  by_cases hb:iS b=w
  ·skip
   refine zB rfl wC (decide_eq_true hb) (zk 3 rfl (zc rfl (wK hT s (bJ _ _) (by omega)) ?_))
   rintro r h ⟨rfl,s⟩
   by_cases hc:dM b=4
   ·skip
    refine zC rfl aX (by simp;exact hc) ?_
    exact zk 3 rfl (WP.ret ⟨aa,_,rfl,0,b,ε',J,by rw[nk,show decide (dM b≠4)=false from eW (not_not_intro hc),o_,o_],s.drop⟩)
   ·skip
    refine zB rfl aX (by simp;exact hc) ?_
    exact zk 3 rfl (WP.ret ⟨aa,_,rfl,0,b,ε',J,by rw[nk,er hc,er hb];rfl,s.drop⟩)
  ·skip
   exact zC rfl wC (decide_eq_false hb) (zk 8 rfl (WP.ret ⟨aa,_,rfl,0,b,ε',J,by rw[nk,eW hb,hG,o_],s.drop⟩))
end
theorem Jn : ∀(k n:Nat),n<128^(k+1)→digits (k+1) n=digits k n:=by
 intro k
 induction k with
 |zero=>intro n I;rw[jv (by simpa using I),jv (by simpa using I)]
 |succ k J =>
  intro n I
  by_cases h:n<128
  ·rw[jv h,jv h]
  ·have U:n/128<128^(k+1):=by
    rw[Nat.div_lt_iff_lt_mul (by omega)]
    rw[vn] at I
    exact I
   rw[digits,ah h,J _ U,digits,ah h]
set_option maxRecDepth 10000 in
theorem WT {n:Nat}(h:n<256): Nat.land n 127=n%128:=by
 have:∀m:Fin 256,Nat.land m.1 127=m.1%128:=by decide
 exact this ⟨n,h⟩
theorem Jo {n:Nat}(h:n<256): intV .and .u8 (n:Int) 127=some (.int .u8 ((n%128:Nat):Int)):=by
 have I:((n:Int)%(2^(IntKind.u8).bits:Int)).toNat=n:=by simp only[IntKind.bits];omega
 have J:((127:Int)%(2^(IntKind.u8).bits:Int)).toNat=127:=by simp[IntKind.bits]
 simp only[intV,bitsV,I,J,WT h,wrap_u8]
 congr 2
 omega
theorem Jp {n:Nat}(I:n<18446744073709551616): convV Tryz.prog h 5 32 (.int .u8 (n:Int))=some (.int .u64 (n:Int),h):=by
 simp only[convV,Tryz.underlying5,cD,wrap_u64 I]
theorem Jq {n:Nat}(I:n<9223372036854775808): convV Tryz.prog h 5 3 (.int .u8 (n:Int))=some (.int .i64 (n:Int),h):=by
 simp only[convV,Tryz.underlying5,bK,wrap_i64 I]
theorem HO {n:Nat}(I:n<9223372036854775808): convV Tryz.prog h 32 3 (.int .u64 (n:Int))=some (.int .i64 (n:Int),h):=by
 simp only[convV,cD,bK,wrap_i64 I]
theorem HP (i:Nat): (128:Nat)^i=2^(7*i):=by rw[Nat.pow_mul]
theorem aaS (U:d<128)(hi:i≤8): shiftV .shl .u64 (d:Int) ((7*i:Nat):Int)=some (.int .u64 ((d*128^i:Nat):Int)):=by
 have J:(128:Nat)^i≤128^8:=oZ (by omega) hi
 have I:d*128^i<18446744073709551616:=by
  have:d*128^i≤127*128^8:=qL (by omega) J
  omega
 simp only[shiftV,IntKind.bits,eD]
 rw[show min (7*i) 64=7*i by omega,show decide (((7*i:Nat):Int)<0)=false by simp;omega,bf]
 have:(d:Int)*2^(7*i)=((d*128^i:Nat):Int):=by rw[HP];push_cast;rfl
 simp only[this,wrap_u64 I]
theorem Ux (I:a<128^i)(hd:d<128)(hi:i≤8): intV .or .u64 (a:Int) ((d*128^i:Nat):Int)=some (.int .u64 ((a+d*128^i:Nat):Int)):=by
 have J:(128:Nat)^i≤128^8:=oZ (by omega) hi
 have hm:d*128^i≤127*128^8:=qL (by omega) J
 have U:((a:Int)%(2^(IntKind.u64).bits:Int)).toNat=a:=by simp only[IntKind.bits];omega
 have h2:((d*128^i:Nat):Int)%(2^(IntKind.u64).bits:Int)=((d*128^i:Nat):Int):=by simp only[IntKind.bits];omega
 have h3:Nat.lor a (d*128^i)=a+d*128^i:=by
  have e:d*128^i=2^(7*i)*d:=by rw[←HP,vp]
  have:=De (i:=7*i) (b:=a) (by rw[←HP];exact I) d
  rw[←e] at this
  rw[Nat.add_comm a,this]
  exact Nat.or_comm _ _
 simp only[intV,bitsV,U,h2,eD,h3]
 rw[wrap_u64 (by omega)]
section
variable {told:dI} {v:V} {m:List Nat}
theorem mJ (I:W told): Call ⟨Tryz.prog,told⟩ 251 [.bool true] h fun v h'=>v=.bD []∧h'=h:=by
 refine Call.of_wp (I.free _ rfl) Tryz.func251 rfl rfl (zg rfl (zm rfl (zh rfl (dQ rfl rfl) (rfl) (zv (zj rfl (WP.skip ?_))))))
 exact⟨aa,_,rfl,rfl,rfl⟩
theorem Q9 (U:W told){x:Nat}(s:Sat h (pt c (.cells 1 [v] false)::X::S))(hX:cX X (dc v (x::l))):
  Call ⟨Tryz.prog,told⟩ 247 [.ptr c 0] h fun r h'=>r=.int .u8 (x:Int)∧∃u,cX X (dc u l)∧Sat h' (pt c (.cells 1 [u] false)::X::S):=by
 have J:=s.aL (k:=1) rfl hX
 obtain⟨id,off,e1,e2⟩:=iz J (i:=0) (b:=x) rfl
 have I:=eA J (a:=1) (by simp)
 have hu:=I.2.1.cells
 refine Call.of_wp (U.free _ rfl) Tryz.func247 rfl rfl (zK 8 rfl (zY s 0 lZ bL rfl (zo rfl (aY rfl rfl rfl (bk aW J)) (zB rfl dS (by simp) ?_))))
 refine zc rfl (mJ U) ?_
 rintro r h' ⟨rfl,rfl⟩
 refine zk 5 rfl (zY s 0 lZ bL rfl (zo rfl (dD (r:=.ptr id off) rfl rfl e1) (zl rfl e2 (zk 7 rfl (zY s 0 lZ bL rfl (zo rfl (cG (p:=some (.int .i64 1)) (q:=none) (m:=none) (p':=some 1) (q':=none) (m':=none) rfl rfl rfl rfl rfl rfl rfl I.1) (zn rfl (zf rfl (lZ _ _) (zS rfl (s.dV (k:=0) rfl ju rfl (by decide) hu.1 hu.2) ?_)))))))))
 rintro h s
 exact zk 6 rfl (WP.ret ⟨aa,_,rfl,rfl,_,nX hX (by simp),s⟩)
def Cu (h:H)(c:Nat)(X:aS)(S:List aS)(l:List Nat): Prop:=∃v,cX X (dc v l)∧Sat h (pt c (.cells 1 [v] false)::X::S)
theorem Eh (I:W told){x:Nat}(J:Cu h c X S (x::l)): Call ⟨Tryz.prog,told⟩ 247 [.ptr c 0] h fun r h'=>r=.int .u8 (x:Int)∧Cu h' c X S l:=by
 obtain⟨v,U,s⟩:=J
 exact(Q9 I s U).mono fun r h' ⟨e,u,hU,s'⟩=>⟨e,u,hU,s'⟩
noncomputable def WU : Code:=cC [1,1,0,0] ((Tryz.f248.body).getD .skip)
noncomputable def SP : Code:=unblk (leftC WU)
noncomputable def nbC : Code:=cN (cN (cN SP))
theorem AW (hT:W told){x:Nat}(hx:x<256)(hi:i≤8)(ha:acc<128^i)
 (hc:Cu h c X S (x::l))(h0:look E 0=some (.ptr c 0))(h2:look E 2=some (.int .u64 (acc:Int)))(I:look E 3=some (.int .i64 (i:Int)))
 (hq:∀E' h',look E' 0=some (.ptr c 0)→look E' 2=some (.int .u64 ((acc+x%128*128^i:Nat):Int))→look E' 3=some (.int .i64 (i:Int))→look E' 4=some (.int .u8 (x:Int))→Cu h' c X S l→WP ⟨Tryz.prog,told⟩ 38 nbC E' h' Q):
  WP ⟨Tryz.prog,told⟩ 38 SP E h Q:=by
 refine WP.seq (WP.region rfl ?_)
 refine zo rfl (bj h0) ?_
 refine zc rfl (Eh hT hc) (fun v h₁ ⟨e1,c1⟩ => ?_)
 subst e1
 refine ay.op rfl rfl rfl (fy rfl) (ay.nil ?_)
 refine WP.seq (WP.region rfl ?_)
 refine zo rfl (bj I) (zo rfl (aJ (v:=.int .i64 (i:Int)) (u:=.int .i64 9) (r:=.bool true) rfl rfl (by simp only[binV,ikBeq,ak,intV];congr 2<;>simp<;>omega)) ?_)
 refine zk 8 rfl ?_
 refine zc rfl (mJ hT) (fun v J ⟨e2,U⟩=>ay.nil ?_)
 subst e2;subst U
 refine WP.seq (WP.region rfl ?_)
 refine zo rfl (bj h2) (zm rfl (zo rfl (aJ (v:=.int .u8 (x:Int)) (u:=.int .u8 127) rfl rfl (by simp only[binV,ikBeq,ak];exact Jo hx)) ?_))
 refine zo rfl (cj (v:=.int .u8 ((x%128:Nat):Int)) rfl (Jp (by omega))) ?_
 refine zo rfl (bj I) ?_
 refine ay.op rfl rfl rfl (aJ (v:=.int .i64 7) (u:=.int .i64 (i:Int)) (r:=.int .i64 ((7*i:Nat):Int)) rfl rfl (by
  simp only[binV,ikBeq,ak,intV]
  rw[show(7:Int)*(i:Int)=((7*i:Nat):Int) by push_cast;rfl,wrap_i64 (by omega)])) ?_
 refine zo rfl (aJ (v:=.int .u64 ((x%128:Nat):Int)) (u:=.int .i64 ((7*i:Nat):Int)) rfl rfl (by simp only[binV];exact aaS (by omega) hi)) ?_
 refine zo rfl (aJ (v:=.int .u64 (acc:Int)) rfl rfl (by simp only[binV,ikBeq,ak];exact Ux ha (by omega) hi)) ?_
 refine ay.op rfl rfl rfl (fy rfl) (ay.nil ?_)
 exact hq _ _ h0 rfl I rfl c1
set_option maxRecDepth 4000 in
theorem CW (hT:W told){m:Nat}(hi:i≤8)(hm:m<128)(hz:i=0∨0<m)(ha:acc<128^i)
 (hc:Cu h c X S (m::l))(h0:look E 0=some (.ptr c 0))(h2:look E 2=some (.int .u64 (acc:Int)))(h3:look E 3=some (.int .i64 (i:Int)))
 (hq:∀E' h',look E' 2=some (.int .u64 ((acc+m*128^i:Nat):Int))→Cu h' c X S l→Q .ret E' h'): WP ⟨Tryz.prog,told⟩ 38 (.loop WU) E h Q:=by
 refine WP.loop (WP.seq (WP.block ?_))
 refine AW hT (x:=m) (by omega) hi ha hc h0 h2 h3 (fun E1 h₁ q0 q2 q3 q4 c1 => ?_)
 rw[nL hm] at q2
 refine WP.seq (WP.region rfl ?_)
 refine zo rfl (bj q4) ?_
 refine ay.op rfl rfl rfl (aJ (v:=.int .u8 (m:Int)) (u:=.int .u8 128) (r:=.bool true) rfl rfl (by simp only[binV,ikBeq,ak,intV];congr 2<;>simp<;>omega)) (ay.nil ?_)
 refine WP.cond (t:=true) rfl (WP.seq (WP.region rfl ?_))
 refine zo rfl (bj q4) ?_
 by_cases J5:0<m
 ·refine ay.op rfl rfl rfl (aJ (v:=.int .u8 (m:Int)) (u:=.int .u8 0) (r:=.bool true) rfl rfl (by simp only[binV,ikBeq,ak,intV];congr 2<;>simp<;>omega)) ?_
  refine zk 4 rfl ?_
  refine zc rfl (mJ hT) (fun v I ⟨e2,J⟩=>ay.nil ?_)
  subst e2;subst J
  refine WP.seq (WP.region rfl ?_)
  exact zo rfl (bj q2) (ay.op rfl rfl rfl (fy rfl) (ay.nil (WP.ret (hq _ _ rfl c1))))
 ·have NU:i=0:=by omega
  have U:m=0:=by omega
  subst NU;subst U
  refine zo rfl (aJ (v:=.int .u8 0) (u:=.int .u8 0) (r:=.bool false) rfl rfl rfl) (zm rfl (zo rfl (bj q3) (zo rfl (aJ (v:=.int .i64 0) (u:=.int .i64 0) (r:=.bool true) rfl rfl rfl) (zp rfl ?_))))
  refine zc rfl (mJ hT) (fun v I ⟨e2,J⟩=>ay.nil ?_)
  subst e2;subst J
  refine WP.seq (WP.region rfl ?_)
  exact zo rfl (bj q2) (ay.op rfl rfl rfl (fy rfl) (ay.nil (WP.ret (hq _ _ rfl c1))))
set_option maxRecDepth 4000 in
theorem Jr (hT:W told): ∀(k m i acc:Nat) (h:H) (E:List (Nat×V)) (Q:Ex→List (Nat×V)→H→Prop),i+k≤8→m<128^(k+1)→(i=0∨0<m)→acc<128^i →
  Cu h c X S (digits k m++l)→look E 0=some (.ptr c 0)→look E 2=some (.int .u64 (acc:Int))→look E 3=some (.int .i64 (i:Int)) →
  (∀E' h',look E' 2=some (.int .u64 ((acc+m*128^i:Nat):Int))→Cu h' c X S l→Q .ret E' h')→WP ⟨Tryz.prog,told⟩ 38 (.loop WU) E h Q:=by
 intro k
 induction k with
 |zero =>
  intro m i acc h E Q hi hm hz ha U h0 h2 h3 hq
  have I:m<128:=by simpa using hm
  rw[jv I] at U
  exact CW hT (by omega) I hz ha U h0 h2 h3 hq
 |succ k ih =>
  intro m i acc h E Q hi hm hz ha U h0 h2 h3 hq
  by_cases I:m<128
  ·rw[jv I] at U
   exact CW hT (by omega) I hz ha U h0 h2 h3 hq
  ·have hd:m/128<128^(k+1):=by
    rw[Nat.div_lt_iff_lt_mul (by omega)]
    rw[vn] at hm
    exact hm
   rw[digits,ah I] at U
   refine WP.loop (WP.seq (WP.block ?_))
   refine AW hT (x:=m%128+128) (by omega) (by omega) ha U h0 h2 h3 (fun E1 h₁ q0 q2 q3 q4 c1 => ?_)
   refine WP.seq (WP.region rfl ?_)
   refine zo rfl (bj q4) ?_
   refine ay.op rfl rfl rfl (aJ (v:=.int .u8 ((m%128+128:Nat):Int)) (u:=.int .u8 128) (r:=.bool false) rfl rfl (by simp only[binV,ikBeq,ak,intV];congr 2<;>simp<;>omega)) (ay.nil ?_)
   refine WP.cond (t:=false) rfl (WP.skip ?_)
   refine zr rfl (zo rfl (bj q3) (zo rfl (aJ (v:=.int .i64 (i:Int)) (u:=.int .i64 1) (r:=.int .i64 ((i+1:Nat):Int)) rfl rfl (by exact bP (aV (by omega) (by omega)))) ?_))
   refine ay.op rfl rfl rfl (fy rfl) (ay.nil ?_)
   have e1:(m%128+128)%128=m%128:=by omega
   rw[e1] at q2
   have J:128^(i+1)=128^i*128:=vn 128 i
   refine ih (m/128) (i+1) (acc+m%128*128^i) h₁ _ Q (by omega) hd (.inr (by omega)) ?_ c1 q0 q2 rfl (fun E' h' p1 p3=>hq E' h' ?_ p3)
   ·have:m%128*128^i≤127*128^i:=qJ _ (by omega)
    rw[J];omega
   ·rw[p1]
    have:acc+m%128*128^i+m/128*128^(i+1)=acc+m*128^i:=by
     rw[J,vp (128^i) 128,←Nat.mul_assoc,nO,←pe]
     congr 2
     omega
    rw[this]
theorem uC (I:W told){n:Nat}(J:n<9223372036854775808)(U:Cu h c X S (digits 9 n++l)):
  Call ⟨Tryz.prog,told⟩ 248 [.ptr c 0] h fun v h'=>v=.int .u64 (n:Int)∧Cu h' c X S l:=by
 rw[Jn 8 n (by simpa using J)] at U
 refine Call.of_wp (I.free _ rfl) Tryz.func248 rfl rfl (zK 8 rfl (WP.block ?_))
 refine Jr I 8 n 0 0 h _ _ (by omega) (by simpa using J) (.inl rfl) (by simp) U rfl rfl rfl (fun E' h' q1 q2=>⟨aa,_,?_,rfl,q2⟩)
 have:0+n*128^0=n:=by simp
 rw[this] at q1
 show resLE _ E' h' [.tmp 2]=_
 simp only[resLE,mapO,resE,q1]
theorem wU (I:W told){n:Nat}(U:n≤1048576)(J:Cu h c X S (digits 9 n++l)):
  Call ⟨Tryz.prog,told⟩ 250 [.ptr c 0] h fun v h'=>v=.int .i64 (n:Int)∧Cu h' c X S l:=by
 refine Call.of_wp (I.free _ rfl) Tryz.func250 rfl rfl (zK 7 rfl (zc rfl (uC I (by omega) J) ?_))
 rintro v h' ⟨rfl,J⟩
 refine zk 5 rfl (zB rfl LC (by simp;omega) ?_)
 refine zc rfl (mJ I) ?_
 rintro v h' ⟨rfl,rfl⟩
 refine zk 4 rfl (zo rfl (cj rfl (HO (by omega))) ?_)
 exact zk 2 rfl (WP.ret ⟨aa,_,rfl,rfl,J⟩)
theorem HQ (hT:W told)(hm:m.length≤1048576)(hc:Cu h c X S (digits 9 m.length++m++l)):
  Call ⟨Tryz.prog,told⟩ 249 [.ptr c 0] h fun v h'=>Cu h' c X (bH v m::S) l:=by
 rw[cE] at hc
 refine Call.of_wp (hT.free _ rfl) Tryz.func249 rfl rfl (zK 7 rfl (zc rfl (wU hT hm hc) ?_))
 rintro v h ⟨rfl,v,I,s⟩
 have hv:=s.aL (k:=1) rfl I
 have J:=dr hv
 refine zk 7 rfl (zY s 0 lZ bL rfl (zo rfl (aY rfl rfl rfl (bk aW hv)) (zB rfl LC (by simp<;>omega) ?_)))
 refine zc rfl (mJ hT) ?_
 rintro r h' ⟨rfl,rfl⟩
 refine zk 2 rfl ?_
 have s0:=s
 have U:=iC hv (b:=m.length) (by simp)
 have EE:=dr U.2.1
 refine WP.drawn [none,none,some (0,2),some (0,2),some (0,2),some (0,2),some (0,2),some (0,2),none,none] rfl (by kernel_rfl) (by kernel_rfl) ?_
 refine zM rfl (au.any rfl rfl rfl rfl (OpR.vL rfl s rfl rfl rfl rfl (by omega)) ?_)
 intro v2 h s
 have s:=s.ae [1,1,0]
 have kB:=dr (s.buf (k:=2) rfl).view
 have s1:=s
 have U:=iC (s.aL (k:=1) rfl I) (b:=m.length) (by simp)
 refine zM rfl (zN rfl (zF rfl (lZ _ _) (zL rfl (s.ld (k:=0) rfl bL rfl) (zM rfl (zO rfl (cG (p:=none) (q:=some (.int .i64 (m.length:Int))) (m:=none) (p':=none) (q':=some m.length) (m':=none) rfl rfl rfl rfl rfl (by rw[gG (by omega)];rfl) rfl (iC (s.aL (k:=1) rfl I) (b:=m.length) (by simp)).1) ?_)))))
 refine au.any rfl rfl rfl rfl (OpR.oO rfl (s.ae [2,1]) (wF I (b:=m.length) (by simp)) rfl rfl rfl rfl (by rw[lQ rfl];simp only[dz];omega)) ?_
 intro v3 h s
 have s:=s.ae [2,1,0]
 rw[lQ rfl] at s
 have OG:=dr (s.buf (k:=2) rfl).view
 refine zA rfl ?_
 refine au.nil ⟨⟨aa,aa,fun _ _=>.inr ⟨rfl,⟨_,bj rfl⟩,aU _ rfl⟩,fun _ _=>.inr ⟨rfl,⟨_,jU rfl⟩,aU _ rfl⟩,fun _ _=>.inr ⟨rfl,⟨_,jg rfl (lZ _ _)⟩,aU _ rfl⟩,dR (.inr ⟨rfl,⟨_,aT rfl (s0.ld (k:=0) rfl bL rfl)⟩,J⟩) (.inr ⟨rfl,⟨_,aT rfl (s1.ld (k:=0) rfl bL rfl)⟩,J⟩),fun _ _=>.inr ⟨rfl,⟨_,bj rfl⟩,aU _ rfl⟩,dR (.inr ⟨rfl,⟨_,cG (p:=none) (q:=some (.int .i64 (m.length:Int))) (m:=none) (p':=none) (q':=some m.length) (m':=none) rfl rfl rfl rfl rfl (by rw[gG (by omega)];rfl) rfl (iC (s0.aL (k:=1) rfl I) (b:=m.length) (by simp)).1⟩,EE⟩) (.inr ⟨rfl,⟨_,cG (p:=none) (q:=some (.int .i64 (m.length:Int))) (m:=none) (p':=none) (q':=some m.length) (m':=none) rfl rfl rfl rfl rfl (by rw[gG (by omega)];rfl) rfl (iC (s1.aL (k:=1) rfl I) (b:=m.length) (by simp)).1⟩,EE⟩),aa,aa,aa⟩,?_⟩
 have lC:=eA (s.aL (k:=1) rfl I) (a:=m.length) (by simp)
 have hu:=lC.2.1.cells
 refine zK 5 rfl (zY s 0 lZ bL rfl (zm rfl (zo rfl (cG (p:=some (.int .i64 (m.length:Int))) (q:=none) (m:=none) (p':=some m.length) (q':=none) (m':=none) rfl rfl rfl rfl (by rw[gG (by omega)];rfl) rfl rfl lC.1) ?_)))
 refine zn rfl (zf rfl (lZ _ _) (zS rfl (s.dV (k:=0) rfl ju rfl (by decide) hu.1 hu.2) ?_))
 rintro h s
 refine zk 6 rfl (WP.ret ⟨aa,_,rfl,?_⟩)
 have hr:=nX I (a:=m.length) (by simp)
 rw[vk rfl] at hr
 exact⟨_,hr,s⟩
end
theorem SQ {t:Nat}{p v:V}(I:look E a=some p)(J:loadV P h t p=some v): resLE P E h [.cell a t]=some v:=by simp only[resLE,mapO,resE,I,J]
section
variable {told:dI} {v:V} {m:List Nat}
theorem Mc (J:W told){x:ct}(hx:x.Ok)(hc:Cu h c X S (m_ x++l)):
  Call ⟨Tryz.prog,told⟩ 252 [.ptr c 0] h fun r h'=>∃u,r=.agg [.int .i64 x.aO,.int .i64 x.pos,.bool x.whole,u]∧Cu h' c X (bH u x.b::S) l:=by
 obtain⟨x1,x2,x3,x4,x5,x6⟩:=hx
 obtain⟨pg,ps,wh,b⟩:=x
 dsimp only at x1 x2 x3 x4 x5 x6 hc
 obtain⟨pg,rfl⟩:=Int.eq_ofNat_of_zero_le x1
 obtain⟨ps,rfl⟩:=Int.eq_ofNat_of_zero_le x3
 simp only[m_,eD,cE,iU,eE] at hc
 generalize U:(if wh=true then 1 else 0)=wb at hc
 have Gs:wb≤1:=by rw[←U];cases wh<;>decide
 have HR:decide ((wb:Int)=1)=wh:=by rw[←U];cases wh<;>rfl
 obtain⟨v,I,s⟩:=hc
 refine Call.of_wp (J.free _ rfl) Tryz.func252 rfl rfl (zg rfl ?_)
 refine ay.cV s rfl rfl rfl (cK nV) (fun p2 h s => ?_)
 refine zk 4 rfl (zc rfl (wU J (by omega) ⟨v,I,s.ae [1,1,0]⟩) ?_)
 rintro v h ⟨rfl,v,I,s⟩
 refine zm rfl (zc rfl (wU J (by omega) ⟨v,I,s⟩) ?_)
 rintro v h ⟨rfl,v,I,s⟩
 refine zf rfl (nW _ _) ?_
 refine zS rfl (by exact s.dV (k:=2) rfl jt rfl (by decide) rfl rfl) (fun h s => ?_)
 refine zf rfl (pP _ _) ?_
 refine zS rfl (by exact s.dV (k:=2) rfl jt rfl (by decide) rfl rfl) (fun h s => ?_)
 refine zk 4 rfl (zc rfl (Eh J ⟨v,I,s⟩) ?_)
 rintro v h ⟨rfl,v,I,s⟩
 refine zk 5 rfl (zB rfl LC (by simp;omega) ?_)
 refine zc rfl (mJ J) ?_
 rintro r h' ⟨rfl,rfl⟩
 refine zk 4 rfl (zo rfl (aJ (r:=.bool wh) rfl rfl (by rw[←HR];exact bZ)) ?_)
 refine zf rfl (vK _ _) ?_
 refine zS rfl (by exact s.dV (k:=2) rfl xw rfl (by decide) rfl rfl) (fun h s => ?_)
 refine zk 4 rfl ?_
 rw[←cE] at I
 refine zc rfl (HQ J (by omega) ⟨v,I,s⟩) ?_
 rintro u h ⟨v,I,s⟩
 have hu:=(s.buf (k:=2) rfl).view.cells
 refine zf rfl (mY _ _) (zS rfl (s.dV (k:=3) rfl ju rfl (by decide) hu.1 hu.2) ?_)
 rintro h s
 dsimp only[V.cells,List.length_cons,List.length_nil,Nat.reduceAdd,aQ,bringA,getA,List.set,setA] at s
 refine zk 3 rfl (zl rfl (s.fN (k:=3) rfl FW oL) (zS rfl (s.iq (j:=3) rfl oL rfl (by simp only[jB,jC,hu.2];rfl)) ?_))
 rintro h s
 refine zv ?_
 refine WP.ret ⟨aa,_,SQ rfl (s.fN (k:=3) rfl FW oL),?_⟩
 exact⟨u,rfl,v,I,s.del 3⟩
structure wV (tx pv nx:Nat)(data:List Nat)(aR:List ct): Prop where
 tx:tx<9223372036854775808
 pv:pv<9223372036854775808
 nx:nx<9223372036854775808
 data:data.length≤1048576
 many:aR.length≤1048576
theorem Q_ (x:ct): 1≤(m_ x).length:=by simp only[m_,bT,bI];omega
theorem HS : ∀l:List ct,l.length≤(l.flatMap m_).length:=by
 intro l
 induction l with
 |nil=>simp
 |cons x l I=>have:=Q_ x;simp only[zu,bT,bI];omega
noncomputable def rdL : Code:=cC [1,1,1,1,1,1,1,1,0,1,0,0] ((Tryz.f221.body).getD .skip)
theorem Uy (hT:W told){kd:Nat}{p2:Nat}{aR:List ct}(ke:∀x∈aR,x.Ok)(hn:aR.length≤1048576): ∀(j i:Nat) (av:V) (cs:List V) (h:H) (E:List (Nat×V)) (Q:Ex→List (Nat×V)→H→Prop),
  i+j=aR.length→Cu h c X (pt p2 (.cells 6 (iH kd tx pv nx dt av) false)::.arr 4 av cs::cZ cs (aR.take i)::S) ((aR.drop i).flatMap m_)→Has E [(0,.ptr c 0),(2,.ptr p2 0),(41,.int .i64 aR.length),(42,.int .i64 i)] →
  (∀E' h' av cs,Has E' [(0,.ptr c 0),(2,.ptr p2 0)]→Cu h' c X (pt p2 (.cells 6 (iH kd tx pv nx dt av) false)::.arr 4 av cs::cZ cs aR::S) []→Q (.exit 2) E' h')→WP ⟨Tryz.prog,told⟩ 64 (.loop rdL) E h Q:=by
 intro j
 induction j with
 |zero =>
  intro i av cs h E Q hi hc hE hq
  refine WP.loop (WP.has hE (zg rfl (zC rfl bq (by simp;omega) ?_)))
  refine zk 3 rfl (WP.exit ?_)
  rw[jy (by omega),va (by omega)] at hc
  exact hq _ _ _ _ ⟨rfl,rfl,aa⟩ hc
 |succ j ih =>
  intro i av cs h E Q hi hc hE hq
  have hx:aR[i]?=some (aR[i]'(by omega)):=bn _
  generalize (aR[i]'(by omega))=x at hx
  have hxo:=ke x (bu hx)
  have I:aR.drop i=x::aR.drop (i+1):=by
   obtain⟨h1,rfl⟩:=List.getElem?_eq_some_iff.1 hx
   exact lJ h1
  have J:aR.take (i+1)=aR.take i++[x]:=by rw[y_,hx];rfl
  rw[I,zu] at hc
  obtain⟨v,hX,s⟩:=hc
  refine WP.loop (WP.has hE (zg rfl (zB rfl bq (by simp;omega) ?_)))
  refine zk 5 rfl (WP.block ?_)
  have s0:=s
  have U:=(s.jW (j:=3) rfl).2.2
  refine WP.drawn [some (0,3),some (0,3),af,af,af,af,af,af] rfl (by kernel_rfl) (by kernel_rfl) ?_
  refine zF rfl (kP _ _) (zL rfl (s.ld (k:=2) rfl qg rfl) (zM rfl (au.any rfl rfl rfl rfl (OpR.call rfl rfl rfl rfl (Mc hT hxo ⟨v,hX,s⟩)) ?_)))
  rintro w h ⟨u,rfl,v,hX,s⟩
  dsimp only[iH] at s
  have hu:=(s.buf (k:=2) rfl).view.cells
  have EW:=dr (s.buf (k:=2) rfl).view
  have s1:=s
  have s:=(s.ae [2]).fO
  dsimp only[bringA,getA,aQ] at s
  obtain⟨rv,h1,uy,s2⟩:=kr (P:=Tryz.prog) (k:=4) (x:=.agg [.int .i64 x.aO,.int .i64 x.pos,.bool x.whole,u]) s iQ nV oL rfl (by decide) (by decide) rfl (by simp only[V.cells,jB,jC,hu.2];rfl)
  dsimp only[V.cells] at s2
  refine au.any rfl rfl rfl rfl (OpR.of (R:=fun v h'=>v=rv∧h'=h1) (mE rfl uy) ⟨rfl,rfl⟩) ?_
  rintro v' h' ⟨rfl,rfl⟩
  obtain⟨i1,kI,jd,qj⟩:=tW
  have QY:cs.length=(aR.take i).length*4:=by
   obtain⟨a,b,q1,q2,q3⟩:=s2.at (k:=6) rfl
   exact oS q3
  rw[gv] at QY
  obtain⟨CK,h2,tR,s3⟩:=iN (s2.ae [5,0]) iQ kI nV jd (by omega) rfl (by decide) (by simp only[bI,dz];omega)
  dsimp only[bringA,getA,aQ] at s3
  refine au.any rfl rfl rfl rfl (OpR.of (R:=fun v h'=>v=CK∧h'=h2) (mD rfl rfl tR) ⟨rfl,rfl⟩) ?_
  rintro v' h' ⟨rfl,rfl⟩
  have s:=s3
  have CQ:=s.jW (j:=0) rfl
  refine zF rfl (kP _ _) (au.ik rfl rfl rfl (OpR.dg rfl rfl rfl (s.dV (k:=5) rfl FP rfl (by decide) CQ.1 CQ.2.1)) ?_)
  rintro v' h ⟨rfl,s⟩
  dsimp only[Nat.reduceAdd,List.set,setA] at s
  refine au.nil ⟨⟨fun _ _=>.inr ⟨rfl,⟨_,jg rfl (kP _ _)⟩,aU _ rfl⟩,rN (.inr ⟨rfl,⟨_,aT rfl (s0.ld (k:=2) rfl qg rfl)⟩,U⟩) (.inr ⟨rfl,⟨_,aT rfl (s1.ld (k:=3) rfl qg rfl)⟩,U⟩) (.inr ⟨rfl,⟨_,aT rfl (s2.ld (k:=4) rfl qg rfl)⟩,U⟩),aa,aa,aa,aa,aa,aa,aa⟩,?_⟩
  refine zr rfl (zb rfl (by exact bP (aV (by omega) (by omega))) ?_)
  refine zm rfl (zv ?_)
  have s4:Sat _ (cZ cs (aR.take i)::.cm u x.b::_):=s.ae [6,2]
  have s5:=s4.two (C:=cZ (cs++[.int .i64 x.aO,.int .i64 x.pos,.bool x.whole,u]) (aR.take i++[x])) (aF.lD _ _) (aF.cm _ _) fun a b q1 q2=>wN q1 ⟨⟨⟨rfl,rfl,rfl⟩,q2⟩,aa⟩
  rw[←J] at s5
  have s6:=(s5.ae [3,3,3,1,0]).del 5
  exact ih (i+1) _ _ h _ Q (by omega) ⟨v,hX,s6⟩ ⟨rfl,rfl,rfl,rfl,aa⟩ hq
theorem Uz (J:W told){kd:Nat}{aR:List ct}(hg:dY kd aR=true)(hk:kd<256)(hr:wV tx pv nx data aR)(hc:Cu h c X S (dF kd tx pv nx data aR)):
  Call ⟨Tryz.prog,told⟩ 221 [.ptr c 0] h fun r h'=>∃dt ch cs,r=.agg (iH kd tx pv nx dt ch)∧Sat h' (X::bH dt data::.arr 4 ch cs::cZ cs aR::S):=by
 simp only[dF,eD,cE,iU,eE] at hc
 obtain⟨v,I,s⟩:=hc
 refine Call.of_wp (J.free _ rfl) Tryz.func221 rfl rfl (zg rfl ?_)
 refine ay.cV s rfl rfl rfl (cK nT) (fun p2 h s => ?_)
 dsimp only[V.cells,List.length_cons,List.length_nil,Nat.reduceAdd] at s
 refine zk 4 rfl (zc rfl (Eh J ⟨v,I,s.ae [1,1,0]⟩) ?_)
 rintro v h ⟨rfl,v,I,s⟩
 dsimp only[aQ,bringA,getA] at s
 refine zo rfl (cj rfl (Jq (by omega))) ?_
 refine zf rfl (qR _ _) ?_
 refine zS rfl (by exact s.dV (k:=2) rfl jt rfl (by decide) rfl rfl) (fun h s => ?_)
 dsimp only[Nat.reduceAdd,List.set,setA] at s
 refine zk 4 rfl (zo rfl (Ac rfl rfl) (zk 5 rfl (zf rfl (J_ _ _) (zf rfl (Ka _ _) (zf rfl (Kb _ _) (zo rfl (dn rfl (by rw[Yh];rfl)) ?_))))))
 refine zk 2 rfl (WP.block (WP.loop (zg rfl (zB rfl bq (rfl) (zk 5 rfl (WP.block (zg rfl (zo rfl (DQ rfl rfl (r:=.ptr p2 (0+1)) (by simp only[indexV,Hp,LK,oI,LL];rfl)) ?_))))))))
 refine zk 5 rfl (zc rfl (uC J hr.tx ⟨v,I,s⟩) ?_)
 rintro v h ⟨rfl,v,I,s⟩
 refine zn rfl ?_
 refine zS rfl (by exact s.dV (k:=2) rfl ot rfl (by decide) rfl rfl) (fun h s => ?_)
 dsimp only[Nat.reduceAdd,List.set,setA] at s
 refine zv (zr rfl (zb rfl (by exact bP (aV (by omega) (by omega))) ?_))
 refine zm rfl (zv (WP.loop (zg rfl (zt rfl (aJ rfl rfl bq) (rfl) (zv (zw (zi rfl (WP.skip (zw (WP.block (zg rfl (zo rfl (DQ rfl rfl (r:=.ptr p2 (0+2)) (by simp only[indexV,Hp,LK,oI,LL];rfl)) ?_))))))))))))
 refine zk 5 rfl (zc rfl (uC J hr.pv ⟨v,I,s⟩) ?_)
 rintro v h ⟨rfl,v,I,s⟩
 refine zn rfl ?_
 refine zS rfl (by exact s.dV (k:=2) rfl ot rfl (by decide) rfl rfl) (fun h s => ?_)
 dsimp only[Nat.reduceAdd,List.set,setA] at s
 refine zv (zr rfl (zb rfl (by exact bP (aV (by omega) (by omega))) ?_))
 refine zk 2 rfl (WP.loop (zg rfl (zB rfl bq (rfl) (zk 5 rfl (WP.block (zg rfl (zo rfl (DQ rfl rfl (r:=.ptr p2 (0+3)) (by simp only[indexV,Hp,LK,oI,LL];rfl)) ?_)))))))
 refine zk 5 rfl (zc rfl (uC J hr.nx ⟨v,I,s⟩) ?_)
 rintro v h ⟨rfl,v,I,s⟩
 refine zn rfl ?_
 refine zS rfl (by exact s.dV (k:=2) rfl ot rfl (by decide) rfl rfl) (fun h s => ?_)
 dsimp only[Nat.reduceAdd,List.set,setA] at s
 refine zv (zr rfl (zb rfl (by exact bP (aV (by omega) (by omega))) ?_))
 refine zm rfl (zv (WP.loop (zg rfl (zh rfl (aJ rfl rfl bq) (rfl) (zv (zw (zj rfl (WP.exit (zg rfl (zm rfl ?_))))))))))
 rw[←cE] at I
 refine zc rfl (HQ J hr.data ⟨v,I,s⟩) ?_
 rintro dt h ⟨v,I,s⟩
 have U:=(s.buf (k:=2) rfl).view.cells
 refine zf rfl (vG _ _) (zS rfl (s.dV (k:=3) rfl ju rfl (by decide) U.1 U.2) ?_)
 rintro h s
 refine zk 4 rfl (zc rfl (wU J hr.many ⟨v,I,s⟩) ?_)
 rintro v h ⟨rfl,v,I,s⟩
 have hv:=s.aL (k:=1) rfl I
 refine zk 7 rfl (zY s 0 lZ bL rfl (zo rfl (aY rfl rfl rfl (bk aW hv)) (zB rfl LC (by have:=HS aR;simp only[gN];omega) ?_)))
 refine zc rfl (mJ J) ?_
 rintro r h' ⟨rfl,rfl⟩
 refine zk 4 rfl ?_
 obtain⟨i1,kI,jd,qj⟩:=tW
 have sP:=hr.many
 obtain⟨nv,JR,e1,s1⟩:=ur (P:=Tryz.prog) s iQ kI nV jd (by omega) rfl (by decide) (by decide) (n:=0) (c:=aR.length) (by omega) (by omega)
 dsimp only[repeatL] at s1
 refine ay.any rfl rfl rfl (OpR.of (R:=fun v h'=>v=nv∧h'=JR) (rC rfl rfl e1) ⟨rfl,rfl⟩) ?_
 rintro v h' ⟨rfl,rfl⟩
 have s:=s1.ae [1,1,2,0]
 have yK:=s.jW (j:=3) rfl
 refine zf rfl (kP _ _) (zS rfl (s.dV (k:=2) rfl FP rfl (by decide) yK.1 yK.2.1) ?_)
 rintro h s
 have ke:∀x∈aR,x.Ok:=fun x hx=>by
  simp only[dY,bS,qK,gN] at hg
  exact hg.2 x hx
 have s2:=((s.gB (φ:=True) aa).fR (B:=cZ [] []) fun _ _ h=>h).ae [1,1,1,1,0]
 refine zk 7 rfl (WP.block ?_)
 refine Uy J ke hr.many aR.length 0 _ [] h _ _ (by omega) ⟨_,I,s2⟩ ⟨rfl,rfl,rfl,rfl,aa⟩ (fun E h av cs hE hc => ?_)
 obtain⟨v,I,s⟩:=hc
 refine WP.has hE ?_
 have hv:=s.aL (k:=1) rfl I
 have U:=(s.buf (k:=5) rfl).view.cells
 have CQ:=s.jW (j:=3) rfl
 have fM:[V.int .i64 (kd:Int),V.int .u64 (tx:Int),V.int .u64 (pv:Int),V.int .u64 (nx:Int),dt,av].all storable=true:=mO U.2 CQ.2.1
 have lX:vO aR:=⟨by omega,fun x hx=>by have:=ke x hx;unfold ct.Ok at this;omega,fun x hx=>by have:=ke x hx;unfold ct.Ok at this;omega⟩
 refine zK 4 rfl (zY s 0 lZ bL rfl (zo rfl (aY rfl rfl rfl (bk aW hv)) (zB rfl bZ (rfl) (zm rfl (zl rfl (s.fN (k:=2) rfl kY fE) (zc rfl (G_ J (s.ae [3,3]) U.2 lX) ?_))))))
 rintro r h ⟨rfl,s⟩
 rw[hg]
 refine zq rfl (zc rfl (mJ J) ?_)
 rintro r h' ⟨rfl,rfl⟩
 refine zk 3 rfl (zl rfl (s.fN (k:=4) rfl kY fE) (zS rfl (s.iq (j:=4) rfl fE rfl fM) ?_))
 rintro h s
 refine zv ?_
 refine WP.ret ⟨aa,_,SQ rfl (s.fN (k:=4) rfl kY fE),?_⟩
 exact⟨dt,av,cs,rfl,((s.ae [3,4,0,0]).del 4).del 4⟩
end
end Go.Proofs.YtiojppeahfoiaaaGreat.Am
