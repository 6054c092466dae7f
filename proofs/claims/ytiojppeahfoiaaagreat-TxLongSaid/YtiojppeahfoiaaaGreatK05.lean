/- TxLong: a part of its proof; conditions: its statement's. -/
import Derived.Test.YtiojppeahfoiaaaGreatK04
set_option linter.defProp false
namespace Go.Proofs.YtiojppeahfoiaaaGreat.Am
open Go
def ot:=@Tryz.underlying78
def vZ:=@Tryz.func59
def yQ:=@Tryz.func117
def HJ:=@Tryz.func118
def HK:=@Tryz.func66
variable {X Y:aP} {C:eO} {δ Mj:Dk} {ε ai:bq} {es:cn} {Q:Ex→List (Nat×V)→H→Prop} {f:Fm} {cl:Go.Call} {h h₁ h' h₀:H} {e n pg:Int} {κ:IntKind} {R:LD→Prop} {μ:Lg} {d:List (Int×(Nat×Bool))} {now dw:List (Int×List Nat)} {E:List (Nat×V)} {S:List aP} {ks:List Int} {seen b l data ff cM:List Nat} {args cs:List V} {c r mid clock k id off i a q cG it im N j g aE aD z tx pv nx low lo K B link extra:Nat} {o:Oper} {y:Operand} {π bU:Pl} {P:Program} {α:Type} {t kt et:TypeId} {x wh di u kv dt t1:V}
theorem jf (l:List Nat)(b x:Nat): inL (l++[b]) x=(inL l x||Nat.beq b x):=by
 induction l with
 |nil=>simp only[dY,inL,z8];cases Nat.beq b x<;>rfl
 |cons y l I=>simp only[ie,inL,I];cases Nat.beq y x<;>simp
theorem OS : ∀ {l:List (V×V×Nat)} {e:V×V×Nat},e∈leftV seen l→e∈l∧inL seen e.2.2=false:=by
 intro l
 induction l with
 |nil=>intro e h;cases h
 |cons y l I =>
  intro e h
  simp only[leftV] at h
  cases J:inL seen y.2.2 with
  |true=>rw[J,ah] at h;exact⟨cU _ (I h).1,(I h).2⟩
  |false =>
   rw[J,aL] at h
   rcases List.mem_cons.1 h with rfl|h
   ·exact⟨c8,J⟩
   ·exact⟨cU _ (I h).1,(I h).2⟩
theorem OT : ∀ {l:List (V×V×Nat)},leftV seen l=[]→∀e∈l,inL seen e.2.2=true:=by
 intro l
 induction l with
 |nil=>intro _ e he;cases he
 |cons y l J =>
  intro h e he
  simp only[leftV] at h
  cases I:inL seen y.2.2 with
  |false=>rw[I,aL] at h;cases h
  |true =>
   rw[I,ah] at h
   rcases List.mem_cons.1 he with rfl|he
   ·exact I
   ·exact J h e he
theorem HL {b:Nat}: ∀ {l:List (V×V×Nat)},(leftV (seen++[b]) l).length≤(leftV seen l).length:=by
 intro l
 induction l with
 |nil=>exact aQ _
 |cons y l I =>
  simp only[leftV,jf]
  cases inL seen y.2.2<;>cases Nat.beq b y.2.2<;>simp<;>omega
theorem RK : ∀ {l:List (V×V×Nat)} {e:V×V×Nat},e∈leftV seen l→(leftV (seen++[e.2.2]) l).length<(leftV seen l).length:=by
 intro l
 induction l with
 |nil=>intro e h;cases h
 |cons y l J =>
  intro e h
  simp only[leftV] at h
  cases I:inL seen y.2.2 with
  |true =>
   rw[I,ah] at h
   simp only[leftV,jf,I,Bool.true_or,ah]
   exact J h
  |false =>
   rw[I,aL] at h
   simp only[leftV,jf,I,z8,aL]
   rcases List.mem_cons.1 h with rfl|h
   ·rw[eV,ah]
    have:=HL (seen:=seen) (b:=e.2.2) (l:=l)
    simp;omega
   ·cases Nat.beq e.2.2 y.2.2
    ·simp only[aL,bn];have:=J h;omega
    ·simp only[ah,bn];have:=HL (seen:=seen) (b:=e.2.2) (l:=l);omega
theorem OU : ∀ {l:cn} {b:Nat},fO c b l→rq c (l.map (iS κ))=true:=by
 intro l
 induction l with
 |nil=>intro b _;rfl
 |cons e l I =>
  intro b h
  simp only[dQ,iS,rq]
  rw[gF.2 h.2.1,ah]
  exact I h.2.2
theorem JC : ∀ {l:cn} {b:Nat},fO c b l→bornRise b (l.map (iS κ))=true:=by
 intro l
 induction l with
 |nil=>intro b _;rfl
 |cons e l I =>
  intro b h
  simp only[dQ,iS,bornRise]
  rw[aG.2 h.1,ah]
  exact I h.2.2
theorem lW : ∀ {l:cn} {b:Nat},fO c b l→∀e∈l,b≤e.2.2:=by
 intro l
 induction l with
 |nil=>intro b _ e he;cases he
 |cons y l I =>
  intro b h e he
  rcases List.mem_cons.1 he with rfl|he
  ·exact h.1
  ·have:=I h.2.2 e he;have:=h.1;omega
theorem pX : ∀ {l:cn} {b:Nat} {e:Int×V×Nat},fO c b l→e∈l→sQ e.2.2 (l.map (iS κ))=some (iS κ e):=by
 intro l
 induction l with
 |nil=>intro b e _ he;cases he
 |cons y l I =>
  intro b e h he
  simp only[dQ,iS,sQ]
  rcases List.mem_cons.1 he with rfl|he
  ·show cond (Nat.beq e.2.2 e.2.2) _ _=_
   rw[eV,ah]
  ·have:=lW h.2.2 e he
   show cond (Nat.beq y.2.2 e.2.2) _ _=_
   rw[eD (by omega),aL]
   exact I h.2.2 he
theorem OV : ∀(l:List Nat) (b:Nat),lastN (l++[b])=some b:=by
 intro l b
 induction l with
 |nil=>rfl
 |cons x l I =>
  cases l with
  |nil=>rfl
  |cons y l=>simpa[lastN] using I
section
variable {since b:Nat}
theorem BB {e:Int×V×Nat}(J:T.get h.tr r=some (.iter mid since clock (seen++[e.2.2])))(hm:T.get h.tr mid=some (.map (es.map (iS κ)) clock))(I:fO clock 0 es)(he:e∈es):
  vD h (.ptr r 0)=some (.aO [.int κ e.1,e.2.1]):=by
 simp only[vD,eV,ah,J,hm,JC I,iX,OV,pX I he]
 rfl
theorem next_at (I:T.get h.tr r=some (.iter mid since clock seen))(hs:since≤clock)(hm:T.get h.tr mid=some (.map (es.map (iS κ)) clock))(J:fO since 0 es):
  nextAll h r=some (match leftV seen (es.map (iS κ)) with
   |[]=>[(.aO [.bool false],h)]
   |l=>l.map fun e=>(.aO [.bool true,e.1,e.2.1],h.put r (some (.iter mid since clock (seen++[e.2.2]))))):=by
 simp only[nextAll,I,hm,OU J,aG.2 hs,iX,ah]
 cases leftV seen (es.map (iS κ))<;>rfl
theorem BC {L:List (V×H)}(hg:T.get h.tr r=some (.iter mid since clock seen))(hs:since≤clock)(hm:T.get h.tr mid=some (.map (es.map (iS κ)) clock))(hb:fO since 0 es)(hL:nextAll h r=some L):
  ∀q∈L,(q=(.aO [.bool false],h)∧∀e∈es,inL seen e.2.2=true) ∨
   ∃e∈es,inL seen e.2.2=false∧(leftV (seen++[e.2.2]) (es.map (iS κ))).length<(leftV seen (es.map (iS κ))).length∧q=(.aO [.bool true,.int κ e.1,e.2.1],h.put r (some (.iter mid since clock (seen++[e.2.2])))):=by
 rw[next_at hg hs hm hb] at hL
 simp only[ay] at hL
 subst hL
 intro q hq
 cases J:leftV seen (es.map (iS κ)) with
 |nil =>
  rw[J] at hq
  refine .inl ⟨List.mem_singleton.1 hq,fun e he => ?_⟩
  exact OT J (iS κ e) (vk he)
 |cons y l =>
  rw[J] at hq
  obtain⟨e',I,rfl⟩:=List.mem_map.1 hq
  rw[←J] at I
  obtain⟨h1,h2⟩:=OS I
  obtain⟨e,he,rfl⟩:=List.mem_map.1 h1
  have h3:=RK I
  rw[J] at h3
  exact .inr ⟨e,he,h2,h3,rfl⟩
end
open Classical in
noncomputable def iA (P:Program)(f:FuncId)(jG:List V→H→V×H→Prop)(args:List V)(h:H): Option (V×H) :=
 if I:∃r,jG args h r∧∀(c:Ctx) (w:World),Rel c h w→(∀x∈args,wf c x)→eo P f args c w r.1 r.2 then some I.choose else none
theorem OW {f : FuncId} {jG : List V → H → V × H → Prop} (J : ∃ fn, P.funcs[f]? = some fn ∧ fn.body.isSome = true ∧ (fn.name == "runtime.NumGoroutine") = false) : J5 P f (iA P f jG) := by
 refine .inl ⟨J, fun args σ v cV I c w h hw => ?_⟩
 unfold iA at I
 split at I
 ·rename_i hx
  have := hx.choose_spec.2 c w h hw
  injection I with I
  rw [I] at this
  exact this
 ·cases I
theorem m5 {f:FuncId}{jG:List V→H→V×H→Prop}{r:V×H}(J:jG args h r)(h2:∀(c:Ctx) (w:World),Rel c h w→(∀x∈args,wf c x)→eo P f args c w r.1 r.2):
  ∃r,iA P f jG args h=some r∧jG args h r:=by
 have I:∃r,jG args h r∧∀(c:Ctx) (w:World),Rel c h w→(∀x∈args,wf c x)→eo P f args c w r.1 r.2:=⟨r,J,h2⟩
 refine⟨I.choose,?_,I.choose_spec.1⟩
 unfold iA
 rw[dif_pos I]
noncomputable def oA (f:Nat): Option (List V→H→Option (V×H)) :=
 cond (Nat.beq f 106) (some (toldSorted AG)) (cond (Nat.beq f 217) (some toldMore) none)
noncomputable abbrev CB : eO:=⟨Tryz.prog,oA⟩
theorem ew : Tryz.prog.follows .mixedOrders=true:=by kernel_rfl
theorem c6 : ep CB:=by
 intro f g I
 simp only[CB,oA] at I ⊢
 by_cases h1:f=106
 ·subst h1
  rw[rV rfl,ah] at I
  simp only[ay] at I
  subst I
  exact .inl ⟨⟨_,Tryz.func106,rfl,by decide⟩,fun args σ v cV J c w h _=>FY bF On J h⟩
 ·rw[eD h1,aL] at I
  by_cases h2:f=217
  ·subst h2
   rw[rV rfl,ah] at I
   simp only[ay] at I
   subst I
   exact .inl ⟨⟨_,Cc,rfl,by decide⟩,fun args σ v cV J c w h hw=>Jn (C:=CB) rfl ew J h hw⟩
  ·rw[eD h2,aL] at I
   cases I
theorem W.base : W oA:=by
 refine⟨fun f I => ?_,rfl,rfl⟩
 have J:f≠106:=fun e=>by subst e;revert I;decide
 have h2:f≠217:=fun e=>by subst e;revert I;decide
 simp only[oA,eD J,eD h2,aL]
theorem fL.det {f:FuncId}{v v':V}{I:H}(a:fL C f args h v h₁)(b:fL C f args h v' I): v=v'∧h₁=I:=by
 obtain⟨N,hN⟩:=a
 obtain⟨M,hM⟩:=b
 have e1:=lQ (dI (oN N M)) hN
 have J:=lQ (dI (oM N M)) hM
 rw[e1] at J
 simp only[ay,bz] at J
 exact J
section
variable {n:Nat} {st:Bool} {v:V}
theorem Sat.XU (s:Sat h S)(hk:getA S k=some (pt id (.cells n cs false)))(hs:bB P t=some 1)(hl:cs.length=n)(ho:off<n)(hv:v.cells=[v])(I:storable v=true):
  fB P h t (.ptr id off) v=some (h.put id (some (.cells n (cs.set off v) false))):=by
 simp only[fB,hs,hv,bn,cr,jJ,jK,I,z_]
 rw[show Nat.beq (0+1) 1=true from rfl,ah]
 simp only[wrN,s.row hk,bn,cr]
 rw[aG.2 (show off+(0+1)≤n by omega),ah]
 congr 3
 rw[Dq,aC (by omega)]
 cases J:(Nat.beq off 0&&Nat.beq (0+1) n) with
 |true =>
  simp only[bK,beq_iff] at J
  obtain⟨rfl,hn⟩:=J
  rw[ah]
  have:cs.drop (0+1)=[]:=jH (by omega)
  simp[this]
 |false=>rw[aL];rfl
end
theorem OpR.entry {x:Operand}{v r:V}(I:o.op=.entry x)(J:bf E x=some v)(hf:vD h v=some r): OpR C E h o fun w h'=>w=r∧h'=h :=
 ⟨r,h,⟨rfl,rfl⟩,fun env hE=>⟨0,by simp only[evOp,I,bN hE J,hf,bD]⟩⟩
theorem OpR.range {x:Operand}{v r:V}(I:o.op=.range t x)(J:bf E x=some v)(hf:rangeV C.P h t v=some (r,h₁)): OpR C E h o fun w h'=>w=r∧h'=h₁ :=
 ⟨r,h₁,⟨rfl,rfl⟩,fun env hE=>⟨0,by simp only[evOp,I,bN hE J,hf]⟩⟩
def doneRow (seen:List Nat): cn→List V→List V
 |[],row=>row
 |e::l,row=>doneRow seen l (cond (inL seen e.2.2) (row.set e.1.toNat e.2.1) row)
def m6 : cn→List V→List V
 |[],row=>row
 |e::l,row=>m6 l (row.set e.1.toNat e.2.1)
theorem JD : ∀ {l:cn} {row:List V},(∀e∈l,inL seen e.2.2=true)→doneRow seen l row=m6 l row:=by
 intro l
 induction l with
 |nil=>intro row _;rfl
 |cons e l J =>
  intro row h
  simp only[doneRow,m6,h e c8,ah]
  exact J fun e' I=>h e' (cU _ I)
theorem JE : ∀ {l:cn} {row:List V},doneRow [] l row=row:=by
 intro l
 induction l with
 |nil=>intro row;rfl
 |cons e l I=>intro row;simp only[doneRow,inL,aL];exact I
theorem JF : ∀ {l:cn} {row:List V},(doneRow seen l row).length=row.length:=by
 intro l
 induction l with
 |nil=>intro row;rfl
 |cons e l I=>intro row;simp only[doneRow];rw[I];cases inL seen e.2.2<;>simp
theorem JG {v:V}: ∀ {l:cn} {row:List V},(∀e∈l,e.1.toNat≠i)→doneRow seen l (row.set i v)=(doneRow seen l row).set i v:=by
 intro l
 induction l with
 |nil=>intro row _;rfl
 |cons e l ih =>
  intro row h
  simp only[doneRow]
  have h1:=h e c8
  cases inL seen e.2.2 with
  |true=>rw[ah,ah,List.set_comm _ _ (jL h1)];exact ih fun J I=>h J (cU _ I)
  |false=>exact ih fun J I=>h J (cU _ I)
theorem F2 {b:Nat}: ∀ {l:cn} {row:List V},(∀e∈l,e.2.2≠b)→doneRow (seen++[b]) l row=doneRow seen l row:=by
 intro l
 induction l with
 |nil=>intro row _;rfl
 |cons e l J =>
  intro row h
  simp only[doneRow,jf,eD (jL (h e c8)),Aa]
  exact J fun e' I=>h e' (cU _ I)
theorem HM : ∀ {l:cn} {b:Nat} {row:List V} {e:Int×V×Nat},fO c b l→(l.map fun e=>e.1.toNat).Nodup→e∈l→inL seen e.2.2=false →
  doneRow (seen++[e.2.2]) l row=(doneRow seen l row).set e.1.toNat e.2.1:=by
 intro l
 induction l with
 |nil=>intro b row e _ _ he;cases he
 |cons y l ih =>
  intro b row e J hn he hs
  simp only[dQ,sN] at hn
  rcases List.mem_cons.1 he with rfl|he
  ·simp only[doneRow,jf,hs,eV,Bool.or_true,ah,aL]
   rw[F2 fun e' I=>by have:=lW J.2.2 e' I;omega]
   exact JG fun e' I hq=>hn.1 (hq ▸ vk (f:=fun e:Int×V×Nat=>e.1.toNat) I)
  ·have:=lW J.2.2 e he
   simp only[doneRow,jf,eD (show e.2.2≠y.2.2 by omega),Aa]
   exact ih J.2.2 hn.2 he hs
def laidP : List (Int×List Nat)→List (Option (List Nat))→List (Option (List Nat))
 |[],m=>m
 |e::l,m=>laidP l (m.set e.1.toNat (some e.2))
theorem yR : ∀ {l:List (Int×List Nat)} {m:List (Option (List Nat))},(laidP l m).length=m.length:=by
 intro l
 induction l with
 |nil=>intro row;rfl
 |cons e l I=>intro row;simp only[laidP];rw[I];simp
theorem JH {a b:PM}: ∀ {es:cn} {m:List (Int×List Nat)} {row:List V} {pg:List (Option (List Nat))},(eW (fun v x=>.c9 v x) es m).p a b→(∀e∈m,e.2≠[])→(each qh row pg).p a b→(each qh (m6 es row) (laidP m pg)).p a b:=by
 intro es
 induction es with
 |nil=>intro m row pg h _ hr;cases m with
  |nil=>exact hr
  |cons x m=>exact h.elim
 |cons e es ih=>intro m row pg h I hr;cases m with
  |nil=>exact h.elim
  |cons x m =>
   obtain⟨⟨h1,h2⟩,h3⟩:=h
   simp only[m6,laidP]
   have hk:e.1=x.1:=h1
   refine ih h3 (fun e he=>I e (cU _ he)) ?_
   rw[hk]
   refine Rj hr ⟨?_,h2⟩
   rintro hv
   have J:ViewM b e.2.1 x.2:=h2
   rw[hv] at J
   rcases J.2 with⟨_,h4⟩|h4
   ·exact I x c8 h4
   ·obtain⟨_,_,_,_,_,_,h4,_⟩:=h4
    cases h4
def Dk.sync (δ:Dk): Dk:={ δ with aM:=laidP δ.now δ.aM,waiting:=[],now:=[] }
section
variable {told:cC} {p:Nat} {v:V} {m:List Fm}
noncomputable def CV (h:H)(p:Nat)(cs:List V)(im N:Nat)(row:List V)(mid:Nat)(es:cn)(clock:Nat): H :=
 ((((h.new (.iter mid clock clock [])).put im (some (.cells N (m6 es row) false))).put p (some (.cells 12 (cs.set 2 .aV) false))).put mid (some (.map [] clock))).put h.next none
def El (args:List V)(h:H)(r:V×H): Prop:=∃p cs,args=[.ptr p 0]∧T.get h.tr p=some (.cells 12 cs false) ∧
 ((nth cs 9=some (.bool true)∧r=(.int .i64 9,h))∨(nth cs 9=some (.bool false)∧∃v1 I,fL CB 188 [.ptr p 0] h v1 I ∧
  ((v1=.bool false∧r=(.int .i64 9,I))∨(v1=.bool true∧∃cs im N row mid es clock,T.get I.tr p=some (.cells 12 cs false)∧nth cs 1=some (.sl im 0 N (.exact N))∧nth cs 3=some (.map mid) ∧
   T.get I.tr im=some (.cells N row false)∧T.get I.tr mid=some (.map (es.map kU) clock)∧r=(.int .i64 0,CV I p cs im N row mid es clock)))))
structure Em (h h':H)(X:List Nat): Prop where
 next:h'.next=h.next
 get:∀i,i∉X→T.get h'.tr i=T.get h.tr i
theorem Em.put {X:List Nat}(s:Em h h' X){o:Option Obj}(hi:i∈X): Em h (h'.put i o) X :=
 ⟨s.next,fun j I=>by rw[cN,aj (fun(e:j=i)=>I (e ▸ hi))];exact s.get j I⟩
theorem yS {f:V→α→aP}{a b:PM}: ∀ {l:cn} {m:List (Int×α)},(eW f l m).p a b→∀e∈l,∃x,(e.1,x)∈m∧(f e.2.1 x).p a b:=by
 intro l
 induction l with
 |nil=>intro m _ e he;cases he
 |cons y l I=>intro m h e he;cases m with
  |nil=>exact h.elim
  |cons x m =>
   obtain⟨⟨J,h2⟩,h3⟩:=h
   rcases List.mem_cons.1 he with rfl|he
   ·exact⟨x.2,by rw[show e.1=x.1 from J];exact c8,h2⟩
   ·obtain⟨z,k1,k2⟩:=I h3 e he
    exact⟨z,cU _ k1,k2⟩
noncomputable def syA : Code:=cm [0] ((Tryz.f117.body).getD .skip)
noncomputable def syB : Code:=cm [1,0] ((Tryz.f117.body).getD .skip)
noncomputable def syC : Code:=cm [1,1,0,0] ((Tryz.f117.body).getD .skip)
noncomputable def XV : Code:=cm [1,1,0,1,0,0,0] ((Tryz.f117.body).getD .skip)
noncomputable def syD : Code:=cm [1,1,0,1,0,0,1,1,0] ((Tryz.f117.body).getD .skip)
noncomputable def syE : Code:=cm [1,1,1] ((Tryz.f117.body).getD .skip)
theorem BD : Tryz.f117.body=some (.seq syA (.seq syB (.seq (.seq syC (.block 0 (.loop (.seq XV (.seq (.cond (.tmp 20) .skip (.exit 0)) (.block 1 syD)))))) syE))):=rfl
theorem U8 : ∃id I J,XV=.region id #[I,J] false∧I.guard=none∧J.guard=none∧I.op=.next (.tmp 18) false∧I.dst=some 19∧J.op=.extract (.tmp 19) 0∧J.dst=some 20:=⟨_,_,_,rfl,rfl,rfl,rfl,rfl,rfl,rfl⟩
def syJ (h₀:H)(p it im N mid clock:Nat)(cs row:List V)(es:cn)(S:List aP)(j:Nat)(E:List (Nat×V))(h:H): Prop :=
 ∃seen,Has E [(0,.ptr p 0),(18,.ptr it 0)]∧j=(leftV seen (es.map kU)).length∧Em h₀ h [it,im] ∧
  Sat h (pt it (.iter mid clock clock seen)::pt p (.cells 12 cs false)::pt im (.cells N (doneRow seen es row) false)::qK mid es clock::S)
theorem OX {row:List V}(GH:nth cs 1=some (.sl im 0 N (.exact N)))(hl:row.length=N)(J:fO clock 0 es)(hn:(es.map fun e=>e.1.toNat).Nodup)
 (hk:∀e∈es,0≤e.1∧e.1<N)(hv:∀e∈es,e.2.1.cells=[e.2.1]∧storable e.2.1=true)(h0:syJ h₀ p it im N mid clock cs row es S j E h):
  WPO CB 38 (.loop (.seq XV (.seq (.cond (.tmp 20) .skip (.exit 0)) (.block 1 syD)))) E h fun ex E' h'=>ex=.exit 0∧Has E' [(0,.ptr p 0)]∧Em h₀ h' [it,im] ∧
   ∃seen,Sat h' (pt it (.iter mid clock clock seen)::pt p (.cells 12 cs false)::pt im (.cells N (m6 es row) false)::qK mid es clock::S):=by
 refine WPO.loop (syJ h₀ p it im N mid clock cs row es S) ?_ h0
 rintro j E h ⟨seen,hE,rfl,hs,s⟩
 have g1:=s.row (k:=0) rfl
 have g2:=s.row (k:=3) rfl
 obtain⟨id,I8,Gy,q0,q1,q2,q3,q4,q5,q6⟩:=U8
 refine WPO.seq ?_
 rw[q0]
 have hL:=next_at g1 (aQ _) g2 J
 refine WPO.next ew c6 q1 q2 q3 q4 q5 rfl q6 rfl rfl (r:=it) ?_ hL fun q hq => ?_
 ·exact hE.2.1
 ·rcases BC g1 (aQ _) g2 J hL q hq with⟨rfl,I⟩|⟨e,he,HN,cJ,rfl⟩
  ·refine⟨.bool false,[],rfl,?_⟩
   refine WPO.seq (WPO.cond (t:=false) rfl ?_)
   refine WPO.of ew c6 (WP.exit ?_)
   refine⟨rfl,⟨hE.1,aa⟩,hs,seen,?_⟩
   rw[←JD I]
   exact s
  ·refine⟨.bool true,_,rfl,?_⟩
   refine WPO.seq (WPO.cond (t:=true) rfl ?_)
   refine WPO.of ew c6 (WP.skip ?_)
   refine WPO.block (WPO.of ew c6 ?_)
   have s:=s.put (o':=.iter mid clock clock (seen++[e.2.2])) (k:=0) rfl
   have hs:=hs.put (i:=it) (o:=some (.iter mid clock clock (seen++[e.2.2]))) c8
   generalize h.put it (some (.iter mid clock clock (seen++[e.2.2])))=h' at s hs
   have g1:=s.row (k:=0) rfl
   have g2:=s.row (k:=3) rfl
   refine WP.has (F:=[(0,.ptr p 0),(18,.ptr it 0),(20,.bool true)]) ⟨hE.1,hE.2.1,rfl,aa⟩ (zg rfl (au.any rfl rfl rfl (OpR.entry rfl rfl (BB g1 g2 J he)) ?_))
   rintro v h ⟨rfl,rfl⟩
   refine zk 8 rfl (zf rfl (As _ _) (zl rfl (s.ld (k:=1) rfl Gf GH) (zk 2 rfl ?_)))
   obtain⟨k1,k2⟩:=hk e he
   refine zo rfl (cZ (r:=.ptr im e.1.toNat) rfl rfl (by rw[TD,show(decide (0≤e.1)&&decide (e.1<(N:Int)))=true by simp;omega,ah];simp)) ?_
   have e1:=s.XU (P:=Tryz.prog) (k:=2) (t:=23) (off:=e.1.toNat) rfl iF (by rw[JF];exact hl) (by omega) (hv e he).1 (hv e he).2
   have s1:=s.put (o':=.cells N ((doneRow seen es row).set e.1.toNat e.2.1) false) (k:=2) rfl
   refine au.NP rfl rfl (sX rfl rfl e1) (zv ?_)
   refine⟨_,cJ,seen++[e.2.2],⟨rfl,rfl,aa⟩,rfl,hs.put (by simp),?_⟩
   rw[HM J hn he HN]
   exact s1
theorem RL {row:List V}(hs:Em (h₁.new (.iter mid clock clock [])) h' [h₁.next,im])(hi:T.get h'.tr im=some (.cells N (m6 es row) false))(hp:p≠im)(hm:mid≠im):
  (CV h₁ p cs im N row mid es clock).next=((h'.put p (some (.cells 12 (cs.set 2 .aV) false))).put mid (some (.map [] clock))).next ∧
  ∀id o,T.get (CV h₁ p cs im N row mid es clock).tr id=some o→T.get ((h'.put p (some (.cells 12 (cs.set 2 .aV) false))).put mid (some (.map [] clock))).tr id=some o:=by
 refine⟨hs.next.symm,fun id o ho => ?_⟩
 unfold CV at ho
 rw[cN] at ho
 by_cases J:id=h₁.next
 ·rw[aC J] at ho;cases ho
 ·rw[aj J,cN] at ho
  rw[cN]
  by_cases h2:id=mid
  ·rw[aC h2] at ho ⊢;exact ho
  ·rw[aj h2,cN] at ho
   rw[aj h2,cN]
   by_cases h3:id=p
   ·rw[aC h3] at ho ⊢;exact ho
   ·rw[aj h3,cN] at ho
    rw[aj h3]
    by_cases I:id=im
    ·rw[aC I] at ho;rw[I,hi];exact ho
    ·rw[aj I] at ho
     rw[hs.get id (by simp[J,I])]
     exact ho
theorem RM {es:List (V×V×Nat)}(I:T.get h.tr mid=some (.map es c))(hu:P.underlying t=some (.map kt et)):
  ∃v h₁,builtinV P h .clear #[t] [.map mid]=some (v,h₁)∧(fun(_:V) (h₁:H)=>h₁=h.put mid (some (.map [] c))) v h₁ :=
 ⟨bW,_,by simp only[builtinV,clearV,hu,I];rfl,rfl⟩
theorem OY (s:Sat h (aJ p δ::S))(w5:δ.Ok)(hk:∀e∈δ.now,0≤e.1∧e.1<δ.aM.length):
  ∃r,El [.ptr p 0] h r∧∀(c:Ctx) (w:World),Rel c h w→(∀x∈[V.ptr p 0],wf c x)→eo Tryz.prog 117 [.ptr p 0] c w r.1 r.2:=by
 obtain⟨pg,wt,nw,lg,mk,tn,tl,ops,s1⟩:=bT.1 s
 have gp:=s1.row (k:=0) rfl
 cases hd:δ.dead with
 |true =>
  refine⟨(.int .i64 9,h),⟨p,_,rfl,gp,.inl ⟨by rw[hd];rfl,rfl⟩⟩,fun c w hr ha => ?_⟩
  refine eo.yP (C:=CB) (args:=[.ptr p 0]) yQ BD (show 1≤Tryz.f117.ntmps by decide) ?_ hr ha
  refine WPO.seq (WPO.of ew c6 ?_)
  have s:=s1
  refine zr rfl (za rfl (zv ?_))
  refine WPO.seq (WPO.of ew c6 ?_)
  exact zK 4 rfl (zf rfl (jM _ _) (zt rfl (aH rfl (s.ld (k:=0) rfl lK rfl)) (hd) (zk 11 rfl (WP.ret ⟨aa,lR rfl,rfl,fun _ _ h=>h⟩))))
 |false =>
  obtain⟨v1,J,yo,hR⟩:=mW W.base s w5.aU
  have I:Call CB 188 [.ptr p 0] h (fun v' h'=>v'=v1∧h'=J):=⟨v1,J,yo,rfl,rfl⟩
  rcases hR with⟨h0,rfl,s2⟩|⟨h0,rfl,s2⟩
  ·refine⟨(.int .i64 9,J),⟨p,_,rfl,gp,.inr ⟨by rw[hd];rfl,_,J,yo,.inl ⟨rfl,rfl⟩⟩⟩,fun c w hr ha => ?_⟩
   refine eo.yP (C:=CB) (args:=[.ptr p 0]) yQ BD (show 1≤Tryz.f117.ntmps by decide) ?_ hr ha
   refine WPO.seq (WPO.of ew c6 ?_)
   have s:=s1
   refine zr rfl (za rfl (zv ?_))
   refine WPO.seq (WPO.of ew c6 ?_)
   refine zK 4 rfl (zf rfl (jM _ _) (zh rfl (aH rfl (s.ld (k:=0) rfl lK rfl)) (hd) (zk 2 rfl (zc rfl (I) ?_))))
   rintro v h ⟨rfl,rfl⟩
   exact zo rfl (dM rfl rfl) (zk 7 rfl (WP.ret ⟨aa,lR rfl,rfl,fun _ _ h=>h⟩))
  ·obtain⟨pg,wt,nw,lg,mk,tn,tl,ops,s3⟩:=bT.1 s2
   obtain⟨im,row,rfl,s4⟩:=kF.1 (s3.ae [1])
   obtain⟨mid,es,clock,rfl,hb,hn,s5⟩:=iT.1 (s4.ae [4])
   dsimp only[bringA,getA,aK] at s5
   have s6:=s5.ae [4,2,0,0,0,0]
   dsimp only[bringA,getA,aK] at s6
   have gp1:=s6.row (k:=0) rfl
   have gi:=s6.row (k:=1) rfl
   have gm:=s6.row (k:=2) rfl
   obtain⟨a,b,_,_,q3⟩:=s6.at (k:=3) rfl
   obtain⟨a',b',_,_,q4⟩:=s6.at (k:=4) rfl
   have qw:row.length=δ.dc.aM.length:=Bw q4
   have Qv:=nE q3
   have XW:∀e∈es,0≤e.1∧e.1<(δ.dc.aM.length:Int):=fun e he=>by
    obtain⟨x,k1,_⟩:=yS q3 e he
    exact hk _ k1
   have fW:∀e∈es,e.2.1.cells=[e.2.1]∧storable e.2.1=true:=fun e he=>by
    obtain⟨x,_,k2⟩:=yS q3 e he
    have k3:ViewM b e.2.1 x:=k2
    rcases k3.2 with⟨k4|⟨_,k4⟩,_⟩|⟨_,_,_,_,_,_,k4,_⟩
    ·rw[k4];exact⟨rfl,rfl⟩
    ·rw[k4];exact⟨rfl,rfl⟩
    ·rw[k4];exact⟨rfl,rfl⟩
   have nX:(es.map fun e=>e.1.toNat).Nodup:=by
    have J:(es.map (·.1)).Nodup:=by rw[Qv];exact hn
    rw[List.nodup_iff_pairwise_ne,List.pairwise_map] at J ⊢
    refine(List.pairwise_iff_forall_sublist.2 fun {x y} XX => ?_)
    have h2:=(List.pairwise_iff_forall_sublist.1 J) XX
    have hx:=(XW x (XX.subset c8)).1
    have hy:=(XW y (XX.subset (cU _ c8))).1
    omega
   refine⟨(.int .i64 0,CV J p _ im δ.dc.aM.length row mid es clock),⟨p,_,rfl,gp,.inr ⟨by rw[hd];rfl,_,J,yo,.inr ⟨rfl,_,im,_,row,mid,es,clock,gp1,rfl,rfl,gi,gm,rfl⟩⟩⟩,fun c w hr ha => ?_⟩
   refine eo.yP (C:=CB) (args:=[.ptr p 0]) yQ BD (show 1≤Tryz.f117.ntmps by decide) ?_ hr ha
   refine WPO.seq (WPO.of ew c6 ?_)
   have s:=s1
   refine zr rfl (za rfl (zv ?_))
   refine WPO.seq (WPO.of ew c6 ?_)
   refine zK 4 rfl (zf rfl (jM _ _) (zh rfl (aH rfl (s.ld (k:=0) rfl lK rfl)) (hd) (zk 2 rfl (zc rfl (I) ?_))))
   rintro v h ⟨rfl,rfl⟩
   refine zo rfl (dM rfl rfl) (zp rfl (zv (zj rfl (WP.skip ?_))))
   refine WPO.seq (WPO.seq (WPO.of ew c6 ?_))
   have s:=s6
   refine zK 3 rfl (zY s 0 Av mH rfl (au.any rfl rfl rfl (OpR.range rfl rfl (show rangeV Tryz.prog h 108 (.map mid)=some (.ptr h.next 0,h.new (.iter mid clock clock [])) by simp only[rangeV,od,gm])) ?_))
   rintro v h' ⟨rfl,rfl⟩
   refine zv ?_
   have s7:=s.new (.iter mid clock clock [])
   refine WPO.block ((OX (row:=row) (es:=es) (S:=_) rfl qw hb nX XW fW ⟨[],⟨rfl,rfl,aa⟩,rfl,⟨rfl,fun _ _=>rfl⟩,by rw[JE];exact s7⟩).mono ?_)
   rintro ex E' h' ⟨rfl,eS,hs,seen,s⟩
   refine WPO.of ew c6 (WP.has eS ?_)
   have e1:=s.XU (P:=Tryz.prog) (k:=1) (t:=107) (off:=2) (v:=.aV) rfl TE rfl (by decide) rfl rfl
   have s8:=s.put (o':=.cells 12 (List.set (CF δ.dc.room (.sl im 0 δ.dc.aM.length (.exact δ.dc.aM.length)) wt (.map mid) lg δ.dc.bL mk δ.dc.aU ops δ.dc.dead tn tl) 2 .aV) false) (k:=1) rfl
   have nM:p≠im:=(s.ae [1,1]).ne
   have hnm:mid≠im:=(s.ae [3,2]).ne
   have gi:=s.row (k:=2) rfl
   have XY:=RL (p:=p) (cs:=(CF δ.dc.room (.sl im 0 δ.dc.aM.length (.exact δ.dc.aM.length)) wt (.map mid) lg δ.dc.bL mk δ.dc.aU ops δ.dc.dead tn tl)) hs gi nM hnm
   refine zK 4 rfl (zf rfl (Au _ _) (au.NP rfl rfl (sX rfl rfl e1) ?_))
   have s:=s8
   have gm8:=s.row (k:=3) rfl
   refine zk 5 rfl (zY s 1 Av mH rfl (au.gY rfl rfl (OpR.builtin rfl rfl rfl (RM gm8 od)) ?_))
   rintro v h'' rfl
   exact zk 5 rfl (WP.ret ⟨aa,lR rfl,XY.1,XY.2⟩)
end
def nJ : V→Bool
 |.agg [_,.bool b]=>b
 |_=>true
def mJ (seen:List Nat)(e:Int×V×Nat): Bool := !inL seen e.2.2||nJ e.2.1
theorem Mk : ∀ {l:cn},leftV seen ((l.filter (mJ seen)).map kU)=leftV seen (l.map kU):=by
 intro l
 induction l<;>grind[iS,mJ,leftV]
theorem Ml {b:Nat}: ∀ {l:cn},(∀e∈l,e.2.2≠b)→leftV (seen++[b]) (l.map kU)=leftV seen (l.map kU):=by
 intro l
 induction l<;>grind[iS,leftV,jf,eD]
theorem Mm : ∀ {l:cn} {b:Nat} {e:Int×V×Nat},fO c b l→e∈l→inL seen e.2.2=false→(leftV (seen++[e.2.2]) (l.map kU)).length+1=(leftV seen (l.map kU)).length:=by
 intro l
 induction l with
 |nil=>simp
 |cons y l ih =>
  intro b e I he hs
  have hm:(kU y).2.2=y.2.2:=rfl
  rcases List.mem_cons.1 he with rfl|he
  ·simp only[dQ,leftV,hm,jf,hs,eV,Bool.or_true,ah,aL,bn]
   rw[Ml fun e' J=>by have:=lW I.2.2 e' J;omega]
  ·have:=lW I.2.2 e he
   have:=ih I.2.2 he hs
   grind[leftV,jf,eD]
theorem RN : ∀ {l:cn},(∀e∈l,inL seen e.2.2=true)→l.filter (mJ seen)=l.filter (fun e=>nJ e.2.1):=by
 grind[List.filter_congr,mJ]
theorem RO {l:cn}: l.filter (mJ [])=l:=List.filter_eq_self.2 fun e _=>rfl
theorem RP {l:cn}{e:Int×V×Nat}{b:Nat}(hb:fO c b l)(he:e∈l)(hf:nJ e.2.1=true): l.filter (mJ (seen++[e.2.2]))=l.filter (mJ seen):=by
 refine List.filter_congr fun e' J => ?_
 simp only[mJ,jf]
 by_cases h:e.2.2=e'.2.2
 ·have I:=pX (κ:=.i64) hb he
  have h2:=pX (κ:=.i64) hb J
  rw[h,h2] at I
  have h3:e'.2.1=e.2.1:=by injection I with I;injection I with _ I;rw[I]
  rw[h3,hf];simp
 ·rw[eD h,Aa]
theorem U9 : ∀ {l:cn},(l.map (·.1)).Nodup→mD n l=l.filter (fun e=>decide (e.1≠n)):=by
 intro l
 induction l<;>grind[mD,List.filter_eq_self]
theorem U_ {l:cn}{e:Int×V×Nat}{b:Nat}(hb:fO c b l)(hn:(l.map (·.1)).Nodup)(he:e∈l)(hf:nJ e.2.1=false)(hs:inL seen e.2.2=false):
  l.filter (mJ (seen++[e.2.2]))=mD e.1 (l.filter (mJ seen)):=by
 rw[U9 (hn.sublist ((List.filter_sublist).map _)),List.filter_filter]
 refine List.filter_congr fun I Ca => ?_
 simp only[mJ,jf]
 have ab7:e.1=I.1↔e.2.2=I.2.2:=by
  have key:∀ {l:cn} {b:Nat},fO c b l→(l.map (·.1)).Nodup→e∈l→I∈l→(e.1=I.1↔e.2.2=I.2.2):=by
   intro l
   induction l with
   |nil=>simp
   |cons y l ih =>
    intro b hb hn J h2
    simp only[dQ,sN] at hn
    rcases List.mem_cons.1 J with q1|h3<;>rcases List.mem_cons.1 h2 with q2|h4
    ·grind
    ·have:=lW hb.2.2 I h4
     grind
    ·have:=lW hb.2.2 e h3
     grind
    ·exact ih hb.2.2 hn.2 h3 h4
  exact key hb hn he Ca
 by_cases h:e.2.2=I.2.2
 ·have J:=pX (κ:=.i64) hb he
  have h2:=pX (κ:=.i64) hb Ca
  rw[h,h2] at J
  have h3:I.2.1=e.2.1:=by injection J with J;injection J with _ J;rw[J]
  grind[Nat.beq_refl]
 ·grind[eD]
theorem yT {f:Int×V×Nat→Bool}: ∀ {l:cn} {b:Nat},fO c b l→fO c b (l.filter f):=by
 intro l
 induction l with
 |nil=>simp
 |cons e l I =>
  intro b h
  simp only[Dz]
  split
  ·exact⟨h.1,h.2.1,I h.2.2⟩
  ·exact Cy (by have:=h.1;omega) (I h.2.2)
section
variable {told:cC} {p:Nat} {v:V} {m:List Fm}
theorem TV {n:Nat}{l:List V}(J:T.get h.tr id=some (.cells n cs false))(hs:bB P t=some l.length)(hl:cs.length=n)(hn:l.length=n)(I:l.all storable=true):
  fB P h t (.ptr id 0) (.agg l)=some (h.put id (some (.cells n l false))):=by
 grind[fB,V.cells,Nat.beq_refl,wrN,aG]
theorem Va {k:IntKind}{l:cn}{u:TypeId}(s:Sat h S)(hj:getA S j=some (qK id l c))(hu:P.underlying t=some (.map kt et))(hk:P.underlying kt=some (.int k)):
  ∃v h',builtinV P h .delete #[t,u] [.map id,.int .i64 n]=some (v,h')∧(fun(_:V) (h':H)=>h'.next=h.next∧(∀i,i≠id→T.get h'.tr i=T.get h.tr i)∧Sat h' (setA S j (qK id (mD n l) c))) v h':=by
 have hg:=s.row hj
 have key:∃h',mq P h t (.map id) (.int .i64 n)=some h'∧h'.next=h.next∧(∀i,i≠id→T.get h'.tr i=T.get h.tr i)∧Sat h' (setA S j (qK id (mD n l) c)):=by
  obtain⟨h',I,J⟩:=s.delete (n:=n) hj hu hk
  refine⟨h',I,?_⟩
  simp only[mq,hu,hk,hg,keyBeq,dR,ah,s_] at I
  cases hq:idxE n l 0 with
  |none =>
   grind
  |some q =>
   rw[hq] at I
   simp only[ay] at I
   subst I
   exact⟨rfl,fun i hi=>by rw[cN,aj hi],J⟩
 obtain⟨h',I,J⟩:=key
 refine⟨.aO [],h',?_,J⟩<;>grind[builtinV]
theorem RQ (I:W told){a:Int}{b:Bool}: Call ⟨Tryz.prog,told⟩ 119 [.int .i64 n,.agg [.int .u64 a,.bool b]] h fun v h'=>v=.bool (!b)∧h'=newRow h [.int .u64 a,.bool b]:=by
 refine Call.of_wp (I.free _ rfl) Tryz.func119 rfl rfl (zg rfl (zo rfl (dG rfl rfl) (zk 4 rfl (zf rfl (D_ _ _) (zl rfl (N6 (off:=1) (n:=2) (cs:=[.int .u64 a,.bool b]) (st:=false) lK (by grind[newRow,V.cells,fo]) rfl) ?_)))))
 exact zo rfl (dM rfl rfl) (zk 2 rfl (WP.ret ⟨aa,_,rfl,rfl,rfl⟩))
noncomputable def dfA : Code:=cm [0] ((Tryz.f118.body).getD .skip)
noncomputable def XZ : Code:=cm [1,0,0,0] ((Tryz.f118.body).getD .skip)
noncomputable def dfD : Code:=cm [1,0,0,1,1,0] ((Tryz.f118.body).getD .skip)
theorem RR : Tryz.f118.body=some (.seq dfA (.block 0 (.loop (.seq XZ (.seq (.cond (.tmp 9) .skip (.exit 0)) (.block 1 dfD)))))):=rfl
theorem Vb : ∃id I J,XZ=.region id #[I,J] false∧I.guard=none∧J.guard=none∧I.op=.next (.tmp 7) false∧I.dst=some 8∧J.op=.extract (.tmp 8) 0∧J.dst=some 9:=⟨_,_,_,rfl,rfl,rfl,rfl,rfl,rfl,rfl⟩
abbrev rM : V:=.fn (.func 119) [] []
def dfJ (h₀:H)(it mid clock:Nat)(es:cn)(S:List aP)(j:Nat)(E:List (Nat×V))(h:H): Prop :=
 ∃seen,Has E [(0,.map mid),(1,rM),(7,.ptr it 0)]∧j=(leftV seen (es.map kU)).length∧h.next+2*j=h₀.next+1+2*es.length∧(∀i,i<h₀.next→i≠mid→i≠it→T.get h.tr i=T.get h₀.tr i) ∧
  Sat h (pt it (.iter mid clock clock seen)::qK mid (es.filter (mJ seen)) clock::S)
theorem RS (Bd:it<h₀.next+1)(hb:fO clock 0 es)(hn:(es.map (·.1)).Nodup)(hv:∀e∈es,∃a b,e.2.1=.agg [.int .u64 a,.bool b])(h0:dfJ h₀ it mid clock es S j E h):
  WPO CB 19 (.loop (.seq XZ (.seq (.cond (.tmp 9) .skip (.exit 0)) (.block 1 dfD)))) E h fun ex E' h'=>ex=.exit 0∧h'.next=h₀.next+1+2*es.length∧(∀i,i<h₀.next→i≠mid→i≠it→T.get h'.tr i=T.get h₀.tr i) ∧
   ∃seen,Sat h' (pt it (.iter mid clock clock seen)::qK mid (es.filter (fun e=>nJ e.2.1)) clock::S):=by
 refine WPO.loop (dfJ h₀ it mid clock es S) ?_ h0
 rintro j E h ⟨seen,hE,rfl,nQ,hs,s⟩
 have g1:=s.row (k:=0) rfl
 have g2:=s.row (k:=1) rfl
 have nN:=yT (f:=mJ seen) hb
 obtain⟨id,I8,Gy,q0,q1,q2,q3,q4,q5,q6⟩:=Vb
 refine WPO.seq ?_
 rw[q0]
 have hL:=next_at g1 (aQ _) g2 nN
 refine WPO.next ew c6 q1 q2 q3 q4 q5 rfl q6 rfl rfl (r:=it) ?_ hL fun q hq => ?_
 ·exact hE.2.2.1
 ·rcases BC g1 (aQ _) g2 nN hL q hq with⟨rfl,pL⟩|⟨e,he,HN,_,rfl⟩
  ·have ab8:∀e∈es,inL seen e.2.2=true:=fun e he=>by
    grind[mJ]
   have GN:leftV seen (es.map kU)=[]:=by
    grind[Mk]
   refine⟨.bool false,[],rfl,?_⟩
   refine WPO.seq (WPO.cond (t:=false) rfl ?_)<;>grind[WPO.of,ew,c6,WP.exit,RN]
  ·refine⟨.bool true,_,rfl,?_⟩
   refine WPO.seq (WPO.cond (t:=true) rfl ?_)
   refine WPO.of ew c6 (WP.skip ?_)
   refine WPO.block (WPO.of ew c6 ?_)
   have I:=(List.mem_filter.1 he).1
   have sr:=Mm hb I HN
   have s:=s.put (o':=.iter mid clock clock (seen++[e.2.2])) (k:=0) rfl
   have hs:∀i,i<h₀.next→i≠mid→i≠it→T.get (h.put it (some (.iter mid clock clock (seen++[e.2.2])))).tr i=T.get h₀.tr i:=fun i h1 h2 h3=>by grind[cN]
   have nQ:(h.put it (some (.iter mid clock clock (seen++[e.2.2])))).next+2*(leftV seen (es.map kU)).length=h₀.next+1+2*es.length:=nQ
   have hle:h₀.next≤(h.put it (some (.iter mid clock clock (seen++[e.2.2])))).next:=by
    have:(leftV seen (es.map kU)).length≤(es.map kU).length:=by
     have:∀l:List (V×V×Nat),(leftV seen l).length≤l.length:=by
      intro l
      induction l<;>grind[leftV]
     exact this _
    grind
   generalize h.put it (some (.iter mid clock clock (seen++[e.2.2])))=h' at s hs nQ hle
   have g1:=s.row (k:=0) rfl
   have g2:=s.row (k:=1) rfl
   obtain⟨a,b,oT⟩:=hv e I
   have J:=BB g1 g2 nN he
   rw[oT] at J
   refine WP.has (F:=[(0,.map mid),(1,rM),(7,.ptr it 0),(9,.bool true)]) ⟨hE.1,hE.2.1,hE.2.2.1,rfl,aa⟩ (zg rfl (au.any rfl rfl rfl (OpR.entry rfl rfl J) ?_))
   rintro v h ⟨rfl,rfl⟩
   refine zk 2 rfl (zo rfl (bR wR) ?_)
   have s1:=s.new (.cells 2 [.int .u64 0,.bool false] false)
   have e1:=TV (P:=Tryz.prog) (t:=220) (l:=[.int .u64 a,.bool b]) (s1.row (k:=0) rfl) um rfl rfl rfl
   have s2:=s1.put (o':=.cells 2 [.int .u64 a,.bool b] false) (k:=0) rfl
   refine za rfl (au.NP rfl rfl (sX rfl rfl e1) (zk 5 rfl (zl rfl (s2.cK (k:=0) rfl LV um) (zc rfl (RQ W.base (n:=e.1) (a:=a) (b:=b)) ?_))))
   rintro v h'' ⟨rfl,rfl⟩
   have s3:=s2.new (.cells 2 [.int .u64 a,.bool b] false)
   have kH:∀i,i<h₀.next→i≠mid→i≠it→T.get (newRow ((h.new (.cells 2 [.int .u64 0,.bool false] false)).put h.next (some (.cells 2 [.int .u64 a,.bool b] false))) [.int .u64 a,.bool b]).tr i=T.get h₀.tr i:=fun i h1 h2 h3=>by
    rw[newRow,fo,aj (by show i≠h.next+1;omega),cN,aj (by omega),fo,aj (by omega)]
    exact hs i h1 h2 h3
   refine zv ?_
   refine WP.split rfl ?_ ?_
   ·intro hq
    have r7:b=false:=by grind
    subst r7
    have s4:=(s3.ae [2,2])
    refine zK 3 rfl (au.gY rfl rfl (OpR.builtin rfl rfl rfl (Va (n:=e.1) s4 (j:=1) rfl rJ bF)) ?_)
    rintro v h5 ⟨k1,k2,k3⟩
    refine zv ?_
    refine⟨_,?_,seen++[e.2.2],⟨rfl,rfl,rfl,aa⟩,rfl,?_,?_,?_⟩
    ·omega
    ·rw[k1]
     show h.next+1+1+_=_
     omega
    ·grind
    ·rw[U_ hb hn I (by rw[oT];rfl) HN]
     exact(k3.del 3).del 2
   ·intro hq
    have r7:b=true:=by grind
    subst r7
    refine WP.skip ?_
    refine⟨_,?_,seen++[e.2.2],⟨rfl,rfl,rfl,aa⟩,rfl,?_,kH,?_⟩
    ·omega
    ·show h.next+1+1+_=_
     omega
    ·rw[RP hb I (by rw[oT];rfl)]
     exact(s3.del 1).del 0
end
def HO (args:List V)(h:H)(r:V×H): Prop:=∃(mid:Nat) (es:cn) (clock:Nat),args=[.map mid,rM]∧T.get h.tr mid=some (.map (es.map kU) clock) ∧
 r=(.aO [],⟨h.next+1+2*es.length,(h.put mid (some (.map ((es.filter (fun e=>nJ e.2.1)).map kU) clock))).tr⟩)
structure W2 (told:cC): Prop where
 w:W told
 sync:told 117=some (iA Tryz.prog 117 El)
 del:told 118=some (iA Tryz.prog 118 HO)
theorem KC : ∀ {l m:cn},l.map kU=m.map kU→l=m:=by
 intro l
 induction l with
 |nil=>intro m h;cases m with
  |nil=>rfl
  |cons _ _=>cases h
 |cons e l J=>intro m h;cases m with
  |nil=>cases h
  |cons x m =>
   simp only[dQ,DG] at h
   obtain⟨I,h2⟩:=h
   rw[J h2]
   obtain⟨e1,e2⟩:=e
   obtain⟨x1,x2⟩:=x
   simp only[kU,iS,bz,V.int.injEq,true_and] at I
   rw[I.1,I.2]
theorem Mn {a b:PM}: ∀ {l:cn} {m:List (Int×(Nat×Bool))},(eW (fun v x=>.pu (v=.agg [.int .u64 (x.1:Int),.bool x.2])) l m).p a b →
  (eW (fun v x=>.pu (v=.agg [.int .u64 (x.1:Int),.bool x.2])) (l.filter fun e=>nJ e.2.1) (m.filter fun e=>e.2.2)).p a b:=by
 intro l
 induction l with
 |nil=>intro m h;cases m with
  |nil=>exact h
  |cons _ _=>exact h.elim
 |cons e l I=>intro m h;cases m with
  |nil=>exact h.elim
  |cons x m =>
   obtain⟨⟨h1,J⟩,h3⟩:=h
   have h4:e.2.1=.agg [.int .u64 (x.2.1:Int),.bool x.2.2]:=J
   have hf:nJ e.2.1=x.2.2:=by rw[h4];rfl
   simp only[Dz,hf]
   split
   ·exact⟨⟨h1,J⟩,I h3⟩
   ·exact I h3
def Dk.jy (δ:Dk): Int×Dk:=if δ.dead=true then(9,δ) else if δ.aU=0 then(9,δ.die) else(0,δ.dc.sync)
section
variable {told:cC} {p:Nat} {v:V} {m:List (Int×(Nat×Bool))}
theorem oG {a b:Obj}(J:T.get h.tr id=some a)(I:T.get h.tr id=some b): a=b:=by rw[J] at I;exact b6 I
theorem Vc (hT:W2 told)(s:Sat h (aJ p δ::S))(w5:δ.Ok)(hk:∀e∈δ.now,0≤e.1∧e.1<δ.aM.length): Call ⟨Tryz.prog,told⟩ 117 [.ptr p 0] h fun v h'=>v=.int .i64 δ.jy.1∧Sat h' (aJ p δ.jy.2::S):=by
 obtain⟨r,h1,h2⟩:=OY s w5 hk
 obtain⟨r,h3,h4⟩:=m5 h1 h2
 refine⟨r.1,r.2,fL.told hT.sync yQ rfl h3,?_⟩
 clear h1 h2 h3
 obtain⟨p',cs,e1,gp',h4⟩:=h4
 injection e1 with e1 _
 injection e1 with e1 _
 subst e1
 obtain⟨pg,wt,nw,lg,mk,tn,tl,ops,s1⟩:=bT.1 s
 have gp:=s1.row (k:=0) rfl
 have e2:=oG gp gp'
 injection e2 with _ e2 _
 subst e2
 rcases h4 with⟨hd,rfl⟩|⟨hd,v1,h1,yo,h4⟩
 ·have hd:δ.dead=true:=by injection (b6 hd)
  simp only[Dk.jy,aC hd]
  exact⟨aa,s⟩
 ·have hd:δ.dead=false:=by injection (b6 hd)
  obtain⟨v2,h2,aa2,hR⟩:=mW W.base s w5.aU
  obtain⟨rfl,rfl⟩:=fL.det yo aa2
  simp only[Dk.jy,hd,kf,fb]
  rcases hR with⟨h0,rfl,s2⟩|⟨h0,rfl,s2⟩
  ·rcases h4 with⟨_,rfl⟩|⟨hv,_⟩
   ·rw[aC h0];exact⟨rfl,s2⟩
   ·cases hv
  ·rcases h4 with⟨hv,_⟩|⟨_,cs,im,N,row,mid,es,clock,g0,c1,c3,g1,g2,rfl⟩
   ·cases hv
   ·rw[aj h0]
    refine⟨rfl,?_⟩
    obtain⟨pg,wt,nw,lg,mk,tn,tl,ops,s3⟩:=bT.1 s2
    obtain⟨im',row',rfl,s4⟩:=kF.1 (s3.ae [1])
    obtain⟨J,es',I,rfl,hb,hn,s5⟩:=iT.1 (s4.ae [4])
    have s6:=s5.ae [4,2,0,0,0,0]
    have e3:=oG (s6.row (k:=0) rfl) g0
    injection e3 with _ e3 _
    subst e3
    have c1:=b6 c1
    injection c1 with c1 _ c2 _
    subst c1;subst c2
    have c3:=b6 c3
    injection c3 with c3
    subst c3
    have e4:=oG (s6.row (k:=1) rfl) g1
    injection e4 with _ e4 _
    subst e4
    have e5:=oG (s6.row (k:=2) rfl) g2
    injection e5 with e5 e6
    have e5:=KC e5
    subst e5;subst e6
    have s7:=s6.new (.iter J I I [])
    have s8:=s7.put (o':=.cells δ.dc.aM.length (m6 es' row') false) (k:=2) rfl
    have s9:=s8.put (o':=.cells 12 (List.set (CF δ.dc.room (.sl im' 0 δ.dc.aM.length (.exact δ.dc.aM.length)) wt (.map J) lg δ.dc.bL mk δ.dc.aU ops δ.dc.dead tn tl) 2 .aV) false) (k:=1) rfl
    have s10:=s9.put (o':=.map [] I) (k:=3) rfl
    have s11:=s10.kill
    have s12:Sat _ (each qh row' δ.dc.aM::eW (fun v b=>.c9 v b) es' δ.dc.now::_):=s11.ae [4,3]
    have s13:=s12.two (C:=each qh (m6 es' row') (laidP δ.dc.now δ.dc.aM)) (bC.each bC.qh _ _) (bC.L4 (fun _ _=>bC.c9 _ _) _ _) fun a b q1 q2=>JH q2 (fun e he=>by
     have:=w5.now e he
     rintro hq;rw[hq] at this;simp at this) q1
    have s14:=(iT (f:=fun v b=>.c9 v b) (v:=.map J) (m:=([]:List (Int×List Nat)))).2 ⟨J,[],I,rfl,aa,oP,((s13.ae [3]).gh aa).ae [1,0]⟩
    have hlen:(laidP δ.dc.now δ.dc.aM).length=δ.dc.aM.length:=yR
    have s15:=kF.2 ⟨im',m6 es' row',rfl,by rw[hlen];exact s14.ae [3,1]⟩
    rw[hlen] at s15
    have s16:=(uw (v:=.aV) (m:=[])).2 ⟨[],((s15.del 3).gh aa).mU⟩
    exact bT.2 ⟨_,_,_,_,_,_,_,ops,s16.ae [3,1,0,0]⟩
theorem RT (s:Sat h (CQ di m::S)): ∃r,HO [di,rM] h r∧∀(c:Ctx) (w:World),Rel c h w→(∀x∈[di,rM],wf c x)→eo Tryz.prog 118 [di,rM] c w r.1 r.2:=by
 obtain⟨mid,es,clock,rfl,hb,hn,s1⟩:=iT.1 s
 have gm:=s1.row (k:=0) rfl
 obtain⟨a,b,_,_,q3⟩:=s1.at (k:=1) rfl
 have I:=nE q3
 have hv:∀e∈es,∃a b,e.2.1=.agg [.int .u64 a,.bool b]:=fun e he=>by
  obtain⟨x,_,k2⟩:=yS q3 e he
  exact⟨_,_,k2⟩
 refine⟨_,⟨mid,es,clock,rfl,gm,rfl⟩,fun c w hr ha => ?_⟩
 refine eo.yP (C:=CB) (args:=[.map mid,rM]) HJ RR (show 2≤Tryz.f118.ntmps by decide) ?_ hr ha
 refine WPO.seq (WPO.of ew c6 ?_)
 have s:=s1
 refine zK 2 rfl (au.any rfl rfl rfl (OpR.range rfl rfl (show rangeV Tryz.prog h 215 (.map mid)=some (.ptr h.next 0,h.new (.iter mid clock clock [])) by simp only[rangeV,rJ,gm])) ?_)
 rintro v h' ⟨rfl,rfl⟩
 refine zv ?_
 have s7:=s.new (.iter mid clock clock [])
 refine WPO.block ((RS (h₀:=h) (es:=es) (it:=h.next) (mid:=mid) (clock:=clock) (S:=eW (fun v (x:Nat×Bool)=>.pu (v=.agg [.int .u64 (x.1:Int),.bool x.2])) es m::S) (by omega) hb (by rw[I];exact hn) hv ⟨[],⟨rfl,rfl,rfl,aa⟩,rfl,?_,?_,?_⟩).mono ?_)
 ·have:(leftV [] (es.map kU)).length=es.length:=by
   have:∀l:List (V×V×Nat),leftV [] l=l:=by
    intro l
    induction l with
    |nil=>rfl
    |cons y l ih=>simp only[leftV,inL,aL,ih]
   rw[this,eL]
  rw[this]
  rfl
 ·intro i J h2 h3
  rw[fo,aj h3]
 ·rw[RO];exact s7
 ·rintro ex E' h' ⟨rfl,nQ,hs,seen,s'⟩
  refine⟨aa,rfl,nQ.symm,fun id o ho => ?_⟩
  rw[cN] at ho
  by_cases J:id=mid
  ·rw[aC J] at ho;rw[J,s'.row (k:=1) rfl];exact ho
  ·rw[aj J] at ho
   have:=s.wf id o ho
   rw[hs id this J (by omega)]
   exact ho
theorem X0 (hT:W2 told)(s:Sat h (CQ di m::S)): Call ⟨Tryz.prog,told⟩ 118 [di,rM] h fun v h'=>v=.aO []∧Sat h' (CQ di (m.filter fun e=>e.2.2)::S):=by
 obtain⟨r,h1,h2⟩:=RT s
 obtain⟨r,h3,h4⟩:=m5 h1 h2
 refine⟨r.1,r.2,fL.told hT.del HJ rfl h3,?_⟩
 clear h1 h2 h3
 obtain⟨mid,es,clock,e1,g1,rfl⟩:=h4
 injection e1 with e1 _
 subst e1
 refine⟨rfl,?_⟩
 obtain⟨aa3,es',I,e2,hb,hn,s1⟩:=iT.1 s
 injection e2 with e2
 subst e2
 have J:=oG (s1.row (k:=0) rfl) g1
 injection J with J e4
 have J:=KC J
 subst J;subst e4
 have s2:Sat h (eW _ es' m::qK mid es' I::S):=s1.ae [1]
 have s3:=s2.j5 (B:=eW (fun v x=>.pu (v=.agg [.int .u64 (x.1:Int),.bool x.2])) (es'.filter fun e=>nJ e.2.1) (m.filter fun e=>e.2.2)) fun a b q=>Mn q
 have s4:=s3.put (o':=.map ((es'.filter fun e=>nJ e.2.1).map kU) I) (k:=1) rfl
 have s5:=s4.jP (k:=1+2*es'.length) (h':=⟨h.next+1+2*es'.length,(h.put mid (some (.map ((es'.filter fun e=>nJ e.2.1).map kU) I))).tr⟩)
  ⟨fun id o ho=>by have h1:=s4.wf id o ho;have h2:(h.put mid (some (.map ((es'.filter fun e=>nJ e.2.1).map kU) I))).next=h.next:=rfl;show id<h.next+1+2*es'.length;omega,
   by show h.next≤h.next+1+2*es'.length;omega,by show h.next+1+2*es'.length≤h.next+(1+2*es'.length);omega,fun _ _ _=>rfl⟩
 exact iT.2 ⟨mid,es'.filter (fun e=>nJ e.2.1),I,rfl,yT hb,hn.sublist ((List.filter_sublist).map _),s5.ae [1,0]⟩
def fh (π:Pl)(δ:Dk): Int×Pl×Dk:=if δ.jy.1≠0 then(δ.jy.1,π,δ.jy.2) else(0,{ π with bu:=π.bu.filter fun e=>e.2.2 },δ.jy.2)
theorem RU (I:W2 told)(s:Sat h (cL r p q π::aJ p δ::S))(J:δ.Ok)(hk:∀e∈δ.now,0≤e.1∧e.1<δ.aM.length):
  Call ⟨Tryz.prog,told⟩ 57 [.ptr r 0] h fun v h'=>v=.int .i64 (fh π δ).1∧Sat h' (cL r p q (fh π δ).2.1::aJ p (fh π δ).2.2::S):=by
 obtain⟨cG,wh,di,s⟩:=cT.1 s
 refine Call.of_wp (I.w.free _ rfl) Tryz.func57 rfl rfl (zK 9 rfl (zY s 0 vW jt rfl (zc rfl (Vc I (s.ae [4]) J hk) ?_)))
 rintro v h ⟨rfl,s⟩
 refine zk 5 rfl ?_
 by_cases he:δ.jy.1=0
 ·skip
  refine zC rfl aA (by simp;exact he) ?_
  refine zk 7 rfl (zY s 1 mz qY rfl (zc rfl (X0 I (s.ae [4])) ?_))
  rintro v h ⟨rfl,s⟩
  refine zk 5 rfl (WP.ret ⟨aa,_,rfl,?_⟩)
  rw[fh,aj (by simpa using he)]
  exact⟨rfl,(cT.2 ⟨cG,wh,di,s.ae [2,2,2,0,0]⟩)⟩
 ·skip
  refine zB rfl aA (by simp;exact he) ?_
  refine zk 7 rfl (WP.ret ⟨aa,_,rfl,?_⟩)
  rw[fh,aC he]
  exact⟨rfl,(cT.2 ⟨cG,wh,di,s.ae [1,1,1,1,0]⟩)⟩
end
theorem fH.ag (I:fH π bU): ∀g∈bU.ag,∃f∈π.ag,∃t,g={ f with fA:=t }:=by
 intro g hg
 obtain⟨i,hi,rfl⟩:=List.mem_iff_getElem.1 hg
 have hf:π.ag[i]?=some (π.ag[i]'(by rw[←I.len];exact hi)):=bw _
 obtain⟨t,J⟩:=I.get i _ hf
 rw[bw hi] at J
 exact⟨_,vr _,t,b6 J⟩
theorem fH.ok (I:fH π bU)(h:π.Ok)(hh:bU.hand<bU.ag.length): bU.Ok:=by
 refine⟨hh,by rw[I.len];exact h.many,by rw[I.aF,I.len];exact h.aF,fun g J => ?_,fun g J => ?_⟩
 ·obtain⟨f,hf,t,rfl⟩:=I.ag g J
  exact h.len f hf
 ·obtain⟨f,hf,t,rfl⟩:=I.ag g J
  exact h.pins f hf
theorem Pl.Ok.set {w:List (Int×Int)}(h:π.Ok)(hw:∀e∈w,0≤e.2∧e.2<π.ag.length)(J:f.b.length≤512)(hp:0≤f.pins∧f.pins≤4294967296): Pl.Ok { π with ag:=π.ag.set i f,aF:=w,bu:=d }:=by
 refine⟨by simp only[dD];exact h.hand,by simp only[dD];exact h.many,fun e he=>by simp only[dD];exact hw e he,fun g I => ?_,fun g I => ?_⟩
 ·rcases oL I with I|rfl
  ·exact h.len g I
  ·exact J
 ·rcases oL I with I|rfl
  ·exact h.pins g I
  ·exact hp
theorem Vd : ∀ {l:List (Int×α)} {e:Int×α},e∈lE n l→e∈l:=by
 intro l
 induction l with
 |nil=>intro e h;exact h
 |cons x l I =>
  intro e h
  simp only[lE] at h
  split at h
  ·exact cU _ h
  ·rcases List.mem_cons.1 h with rfl|h
   ·exact c8
   ·exact cU _ (I h)
theorem Ve {x:α}: ∀ {l:List (Int×α)} {e:Int×α},e∈cW n x l→e=(n,x)∨e∈l:=by
 intro l
 induction l with
 |nil=>intro e h;simp only[cW,List.mem_singleton] at h;exact .inl h
 |cons y l I =>
  intro e h
  simp only[cW] at h
  split at h
  ·rcases List.mem_cons.1 h with rfl|h
   ·exact .inl rfl
   ·exact .inr (cU _ h)
  ·rcases List.mem_cons.1 h with rfl|h
   ·exact .inr c8
   ·rcases I h with h|h
    ·exact .inl h
    ·exact .inr (cU _ h)
theorem BE (h:π.Ok): (dz π i f).Ok:=by
 unfold dz
 refine h.set (fun e he => ?_) (by simp[eR]) (by simp[eR])
 split at he
 ·exact h.aF e he
 ·exact h.aF e (Vd he)
theorem fI.ok (hr:fI ε n e b ai)(h:oF ε)(hp:∀f∈ε.1.ag,f.pins=0): oF ai:=by
 cases hr with
 |arg _=>exact h
 |Bd i f h1 h2 hl hf =>
  have hm:=bJ hf
  exact⟨h.pl.set h.pl.aF (h.pl.len f hm) (by have:=hp f hm;simp only;omega),h.lg,h.dk⟩
 |out bU i f h1 h2 hl I hf J he=>exact qQ (ε:=(bU,ε.2)) ⟨I.ok h.pl J,h.lg,h.dk⟩
 |read bU i f h1 h2 hl I hf J he hr =>
  have:=qQ (i:=i) (ε:=(bU,ε.2)) ⟨I.ok h.pl J,h.lg,h.dk⟩
  exact⟨BE this.pl,this.lg,this.dk⟩
 |bad bU i f h1 h2 hl I hf J he hr hc =>
  have:=qQ (i:=i) (ε:=(bU,ε.2)) ⟨I.ok h.pl J,h.lg,h.dk⟩
  exact⟨BE this.pl,this.lg,this.dk⟩
 |load bU i f h1 h2 hl I hf J he hr hc =>
  have:=qQ (i:=i) (ε:=(bU,ε.2)) ⟨I.ok h.pl J,h.lg,h.dk⟩
  have h3:=BE (i:=i) (f:=f) this.pl
  have hlen:i<(dz (outF (bU,ε.2) i).2.1 i f).ag.length:=by
   obtain⟨c,hc⟩:=nI (ε:=(bU,ε.2)) hf
   have:=(List.getElem?_eq_some_iff.1 hc).1
   simpa[dz] using this
  refine⟨h3.set (fun e he => ?_) (by simp only;rw[this.dk.at];omega) (by simp),this.lg,this.dk⟩
  rcases Ve he with rfl|he
  ·simp only;omega
  ·exact h3.aF e he
theorem Fx (h:π.Ok): (unpinF π n).2.Ok:=by
 unfold unpinF
 split
 ·exact h
 ·rename_i i hi
  split
  ·exact h
  ·rename_i f I
   have hm:=bJ I
   refine h.set h.aF (h.len f hm) ?_
   have:=h.pins f hm
   have J:f.pins≠0:=by
    unfold heldI at hi
    split at hi
    ·cases hi
    ·split at hi
     ·cases hi
     ·rename_i g hg
      split at hi
      ·cases hi
      ·rename_i hp
       have:=b6 hi
       subst this
       rw[hg] at I
       have:=b6 I
       subst this
       exact hp
   simp only;omega
inductive mK (ε:bq)(n:Int): Int→List Nat→bq→Prop where
 |dead (h:ε.2.2.dead=true):mK ε n 9 [] ε
 |jG (e:Int) (b:List Nat) (ai:bq) (h:ε.2.2.dead=false) (hr:fI ε n e b ai) (he:e≠0):mK ε n e [] ai
 |w6 (b:List Nat) (ai:bq) (h:ε.2.2.dead=false) (hr:fI ε n 0 b ai) (he:(unpinF ai.1 n).1≠0):mK ε n (unpinF ai.1 n).1 [] ((unpinF ai.1 n).2,ai.2)
 |read (b:List Nat) (ai:bq) (h:ε.2.2.dead=false) (hr:fI ε n 0 b ai) (he:(unpinF ai.1 n).1=0):mK ε n 0 b ((unpinF ai.1 n).2,ai.2)
theorem mK.ok (I:mK ε n e b ai)(h:oF ε)(J:∀f∈ε.1.ag,f.pins=0): oF ai:=by
 cases I with
 |dead _=>exact h
 |jG e b ai hd I he=>exact I.ok h J
 |w6 b ai hd I he=>have:=I.ok h J;exact⟨Fx this.pl,this.lg,this.dk⟩
 |read b ai hd I he=>have:=I.ok h J;exact⟨Fx this.pl,this.lg,this.dk⟩
def CW (a p q r:Nat)(op dv:V)(aE:Nat): List V:=[.ptr p 0,.ptr q 0,.ptr r 0,op,dv,.int .u64 (aE:Int)]
def c7 (a p q r:Nat)(op:V)(data:List Nat)(aE:Nat): aP:=xs fun dv:V=>star [pt a (.cells 6 (CW a p q r op dv aE) false),.c9 dv data]
def eE (g a:Nat)(now:List (Int×List Nat))(bX:Bool): aP:=xs fun I:V=>star [pt g (.cells 3 [.ptr a 0,I,.bool bX] false),qL (fun v b=>.c9 v b) I now]
section
variable {told:cC} {p:Nat} {op v:V} {m:List Fm} {bX:Bool}
theorem bQ : Sat h (c7 a p q r op data aE::S)↔∃dv,Sat h (pt a (.cells 6 (CW a p q r op dv aE) false)::.c9 dv data::S):=by
 simp only[c7,lz,bg,ie,dY]
theorem eF : Sat h (eE g a now bX::S)↔∃I,Sat h (pt g (.cells 3 [.ptr a 0,I,.bool bX] false)::qL (fun v b=>.c9 v b) I now::S):=by
 simp only[eE,lz,bg,ie,dY]
theorem BF (hT:W told)(s:Sat h (c7 a p q r op data aE::cL r p q π::bx q p μ::aJ p δ::S))(I:oF (π,μ,δ))(J:∀f∈π.ag,f.pins=0)(hw:δ.waiting.length≤268435456):
  Call ⟨Tryz.prog,told⟩ 44 [.ptr a 0,.int .i64 n] h fun v h'=>∃(e:Int) (b:List Nat) (ε:bq),mK (π,μ,δ) n e b ε ∧
   ((e≠0∧v=.aO [.aV,.int .i64 e]∧Sat h' (c7 a p q r op data aE::cL r p q ε.1::bx q p ε.2.1::aJ p ε.2.2::S)) ∨
    (e=0∧∃u,v=.aO [u,.int .i64 0]∧Sat h' (bp u b::c7 a p q r op data aE::cL r p q ε.1::bx q p ε.2.1::aJ p ε.2.2::S))):=by
 have s0:=s
 obtain⟨dv,s⟩:=bQ.1 s
 refine Call.of_wp (hT.free _ rfl) Tryz.func44 rfl rfl (zK 10 rfl (zY s 0 qz jt rfl (zc rfl (wU hT (s.ae [4])) ?_)))
 rintro v h ⟨rfl,rfl⟩
 refine zv ?_
 cases hd:δ.dead with
 |true =>
  exact zK 6 rfl (WP.ret ⟨aa,_,rfl,9,[],_,.dead hd,.inl ⟨by decide,rfl,s0⟩⟩)
 |false =>
  refine zK 6 rfl (zY s 0 nu sD rfl (zm rfl (zc rfl (OM (n:=n) hT (s.ae [2,2,2]) I.pl J I.lg I.dk hw) ?_)))
  rintro v h ⟨e,b,ε,hr,(⟨he,rfl,s⟩|⟨rfl,u,rfl,s⟩)⟩
  ·dsimp only[bringA,getA,aK] at s
   refine zk 10 rfl (zB rfl aA (by simp;exact he) ?_)
   exact zk 8 rfl (WP.ret ⟨aa,_,rfl,e,[],ε,.jG e b ε hd hr he,.inl ⟨he,rfl,bQ.2 ⟨dv,s.ae [3,3,0,0,0]⟩⟩⟩)
  ·dsimp only[bringA,getA,aK] at s
   refine zk 10 rfl (zC rfl aA (rfl) ?_)
   have s:=s.ae [4,4,0,0,0,0]
   refine zk 8 rfl (zY s 0 nu sD rfl (zm rfl ?_))
   have jD:=hr.ok I J
   refine zc rfl (HG (n:=n) hT (s.ae [3]) jD.pl) ?_
   rintro v h ⟨rfl,s⟩
   refine zk 5 rfl ?_
   by_cases he:(unpinF ε.1 n).1=0
   ·skip
    refine zC rfl aA (by simp;exact he) ?_
    exact zk 9 rfl (WP.ret ⟨aa,_,rfl,0,b,_,.read b ε hd hr he,.inr ⟨rfl,u,rfl,(bQ.2 ⟨dv,s.ae [1,1,0,1,1,0]⟩).ae [4,0,0,0,0]⟩⟩)
   ·skip
    refine zB rfl aA (by simp;exact he) ?_
    exact zk 8 rfl (WP.ret ⟨aa,_,rfl,_,[],_,.w6 b ε hd hr he,.inl ⟨he,rfl,(bQ.2 ⟨dv,(s.ae [1,1,0,1,1,0]).del 5⟩)⟩⟩)
end
structure Pl.Full (π:Pl): Prop where
 nodup:(π.aF.map (·.1)).Nodup
 jZ:∀n i,lookL n π.aF=some i→0≤n∧∃f,π.ag[i.toNat]?=some f∧f.bj=n∧f.b.length=512
structure gP (ε:bq): Prop where
 ok:oF ε
 pins:∀f∈ε.1.ag,f.pins=0
 full:ε.1.Full
theorem Pl.Full.set {g:Fm}(h:π.Full)(hf:π.ag[i]?=some f)(hp:g.bj=f.bj)(hl:f.b.length=512→g.b.length=512): Pl.Full { π with ag:=π.ag.set i g,bu:=d }:=by
 refine⟨h.nodup,fun n j hj => ?_⟩
 obtain⟨h1,f',J,h3,h4⟩:=h.jZ n j hj
 refine⟨h1,?_⟩
 by_cases I:i=j.toNat
 ·subst I
  rw[hf] at J
  have:=b6 J
  subst this
  exact⟨g,ke (List.getElem?_eq_some_iff.1 hf).1,hp.trans h3,hl h4⟩
 ·exact⟨f',by simp only[qo I];exact J,h3,h4⟩
theorem fH.full (I:fH π bU)(h:π.Full): bU.Full:=by
 refine⟨by rw[I.aF];exact h.nodup,fun n j J => ?_⟩
 rw[I.aF] at J
 obtain⟨h1,f',h2,h3,h4⟩:=h.jZ n j J
 obtain⟨t,ht⟩:=I.get _ _ h2
 exact⟨h1,_,ht,h3,h4⟩
theorem rN (h:ε.1.Full): (outF ε i).2.1.Full:=by
 unfold outF
 split
 ·exact h
 ·rename_i f I
  split
  ·exact h
  ·split
   ·exact h
   ·split
    ·exact h
    ·split
     ·exact h
     ·exact h.set I rfl fun J=>J
theorem w8 {g:Fm}(h:π.Full)(hg:π.ag[i]?=some g)(hp:g.bj=f.bj): (dz π i f).Full∧∀n j,lookL n (dz π i f).aF=some j→j.toNat≠i:=by
 have key:∀n j,lookL n (dz π i f).aF=some j→lookL n π.aF=some j∧j.toNat≠i:=by
  intro n j I
  by_cases hf:f.bj<0
  ·have hw:(dz π i f).aF=π.aF:=by simp only[dz,aC hf]
   rw[hw] at I
   refine⟨I,fun hi => ?_⟩
   obtain⟨h1,f',J,h3,_⟩:=h.jZ n j I
   rw[hi,hg] at J
   have:=b6 J
   subst this
   omega
  ·have hw:(dz π i f).aF=lE f.bj π.aF:=by simp only[dz,aj hf]
   rw[hw,Ff h.nodup] at I
   by_cases hn:f.bj=n
   ·rw[aC hn] at I;cases I
   ·rw[aj hn] at I
    refine⟨I,fun hi => ?_⟩
    obtain⟨h1,f',J,h3,_⟩:=h.jZ n j I
    rw[hi,hg] at J
    have:=b6 J
    subst this
    omega
 refine⟨⟨?_,fun n j I => ?_⟩,fun n j I=>(key n j I).2⟩
 ·unfold dz
  simp only
  split
  ·exact h.nodup
  ·exact wS h.nodup
 ·obtain⟨h1,J⟩:=key n j I
  obtain⟨h3,f',h4,h5,h6⟩:=h.jZ n j h1
  exact⟨h3,f',by simp only[dz,qo (jL J)];exact h4,h5,h6⟩
theorem JI (h:π.Full)(hi:i<π.ag.length)(J:∀n j,lookL n π.aF=some j→j.toNat≠i)(hn:0≤n)(hb:b.length=512): (iV π i n b).Full:=by
 refine⟨lT h.nodup,fun m j I => ?_⟩
 simp only[iV,kD] at I
 by_cases hm:n=m
 ·rw[aC hm] at I
  have:=b6 I
  subst this;subst hm
  exact⟨hn,⟨n,b,1,true,false⟩,ke hi,rfl,hb⟩
 ·rw[aj hm] at I
  obtain⟨h3,f',h4,h5,h6⟩:=h.jZ m j I
  exact⟨h3,f',by simp only[iV,qo (jL (J m j I))];exact h4,h5,h6⟩
theorem fI.full (hr:fI ε n e b ai)(hd:ε.2.2.Ok)(h:ε.1.Full): ai.1.Full∧(e=0→b.length=512):=by
 cases hr with
 |arg _=>exact⟨h,fun h=>(by cases h)⟩
 |Bd i f h1 h2 hl J =>
  refine⟨h.set J rfl fun hl=>hl,fun _ => ?_⟩
  obtain⟨_,f',h4,_,h6⟩:=h.jZ n i hl
  rw[b7,J] at h4
  have:=b6 h4
  subst this
  exact h6
 |out bU i f h1 h2 hl hn J hh he=>exact⟨rN (ε:=(bU,ε.2)) (hn.full h),fun h=>absurd h he⟩
 |read bU i f h1 h2 hl hn J hh he hr =>
  obtain⟨c,I⟩:=nI (ε:=(bU,ε.2)) J
  exact⟨(w8 (f:=f) (rN (ε:=(bU,ε.2)) (hn.full h)) I rfl).1,fun h=>absurd h hr⟩
 |bad bU i f h1 h2 hl hn J hh he hr hc =>
  obtain⟨c,I⟩:=nI (ε:=(bU,ε.2)) J
  exact⟨(w8 (f:=f) (rN (ε:=(bU,ε.2)) (hn.full h)) I rfl).1,fun h=>absurd h hc⟩
 |load bU i f h1 h2 hl hn J hh he hr hc =>
  obtain⟨c,I⟩:=nI (ε:=(bU,ε.2)) J
  have hi:=(List.getElem?_eq_some_iff.1 I).1
  obtain⟨k1,k2⟩:=w8 (f:=f) (rN (ε:=(bU,ε.2)) (hn.full h)) I rfl
  have v7:=(BA (ε:=(bU,ε.2)) (i:=i) hd).at n
  exact⟨JI k1 (by simp only[dz,dD];exact hi) k2 h1 v7,fun _=>v7⟩
theorem Bf (h:π.Full): (unpinF π n).2.Full:=by
 unfold unpinF
 split
 ·exact h
 ·split
  ·exact h
  ·rename_i f I
   exact h.set I rfl fun J=>J
theorem fH.pins (I:fH π bU)(h:∀f∈π.ag,f.pins=0): ∀f∈bU.ag,f.pins=0:=fun g J=>by
 obtain⟨f,hf,t,rfl⟩:=I.ag g J
 exact h f hf
theorem rO {ε:bq}{i:Nat}(h:∀f∈ε.1.ag,f.pins=0): ∀f∈(outF ε i).2.1.ag,f.pins=0:=by
 unfold outF
 split
 ·exact h
 ·rename_i f J
  have hm:=bJ J
  split
  ·exact h
  ·split
   ·exact h
   ·split
    ·exact h
    ·split
     ·exact h
     ·intro g I
      rcases oL I with I|rfl
      ·exact h g I
      ·exact h f hm
theorem w9 {π:Pl}{i:Nat}{f:Fm}(h:∀f∈π.ag,f.pins=0): ∀f∈(dz π i f).ag,f.pins=0:=by
 intro g I
 rcases oL I with I|rfl
 ·exact h g I
 ·rfl
theorem fI.KD {ε ai:bq}{n e:Int}{b:List Nat}(J:fI ε n e b ai)(he:e≠0)(hp:∀f∈ε.1.ag,f.pins=0): ∀f∈ai.1.ag,f.pins=0:=by
 cases J with
 |arg _=>exact hp
 |Bd i f h1 h2 hl hf=>exact absurd rfl he
 |out bU i f h1 h2 hl I hf hh he=>exact rO (ε:=(bU,ε.2)) (I.pins hp)
 |read bU i f h1 h2 hl I hf hh he J=>exact w9 (f:=f) (rO (ε:=(bU,ε.2)) (I.pins hp))
 |bad bU i f h1 h2 hl I hf hh he J hc=>exact w9 (f:=f) (rO (ε:=(bU,ε.2)) (I.pins hp))
 |load bU i f h1 h2 hl I hf hh he J hc=>exact absurd rfl he
theorem HP {m:List Fm}{i:Nat}{f g:Fm}(h:∀f∈m,f.pins=0)(J:g.pins=0): ∀x∈(m.set i f).set i g,x.pins=0:=by
 intro x I
 rw[List.set_set] at I
 rcases oL I with I|rfl
 ·exact h x I
 ·exact J
theorem tR (hl:lookL n π.aF=some (i:Int))(I:π.ag[i]?=some f)(J:f.pins=1): heldI π n=some i∧unpinF π n=(0,{ π with ag:=π.ag.set i { f with pins:=0 } }):=by
 have h1:heldI π n=some i:=by
  simp only[heldI,hl,b7,I,J]
  rfl
 refine⟨h1,?_⟩
 simp only[unpinF,h1,I,J]
 rfl
theorem RV {α:Type}{n:Int}{x:α}{l:List (Int×α)}: lookL n (cW n x l)=some x:=by rw[kD,aC rfl]
theorem fI.at {ε ai:bq}{n:Int}{b:List Nat}(hr:fI ε n 0 b ai)(hp:∀f∈ε.1.ag,f.pins=0):
  ∃(i:Nat) (f:Fm),lookL n ai.1.aF=some (i:Int)∧ai.1.ag[i]?=some f∧f.pins=1∧f.b=b∧∀g:Fm,g.pins=0→∀x∈ai.1.ag.set i g,x.pins=0:=by
 generalize I:(0:Int)=e at hr
 cases hr with
 |arg _=>cases I
 |Bd i f h1 h2 hl J =>
  have hi:=(List.getElem?_eq_some_iff.1 J).1
  refine⟨i,{ f with fA:=true,pins:=f.pins+1 },hl,by simp[hi],by have:=hp f (bJ J);show f.pins+1=1;omega,rfl,fun g hg=>HP hp hg⟩
 |out bU i f h1 h2 hl hn J hh he=>exact absurd I.symm he
 |read bU i f h1 h2 hl hn J hh he hr=>exact absurd I.symm hr
 |bad bU i f h1 h2 hl hn J hh he hr hc=>exact absurd I.symm hc
 |load bU i f h1 h2 hl hn J hh he hr hc =>
  obtain⟨c,hc'⟩:=nI (ε:=(bU,ε.2)) J
  have hi:=(List.getElem?_eq_some_iff.1 hc').1
  refine⟨i,⟨n,_,1,true,false⟩,RV,ke (by show i<(List.set _ i _).length;rw[dD];exact hi),rfl,rfl,fun g hg=>HP (w9 (f:=f) (rO (ε:=(bU,ε.2)) (hn.pins hp))) hg⟩
theorem fI.BG (I:fI ε n 0 b ai)(J:∀f∈ε.1.ag,f.pins=0): (unpinF ai.1 n).1=0∧∀f∈(unpinF ai.1 n).2.ag,f.pins=0:=by
 obtain⟨i,f,h1,h2,h3,h4,h5⟩:=I.at J
 rw[(tR h1 h2 h3).2]
 exact⟨rfl,h5 _ rfl⟩
theorem mK.kI (I:mK ε n e b ai)(h:gP ε): gP ai:=by
 refine⟨I.ok h.ok h.pins,?_,?_⟩
 ·cases I with
  |dead _=>exact h.pins
  |jG e b ai hd I he=>exact I.KD he h.pins
  |w6 b ai hd I he=>exact(I.BG h.pins).2
  |read b ai hd I he=>exact(I.BG h.pins).2
 ·cases I with
  |dead _=>exact h.full
  |jG e b ai hd I he=>exact(I.full h.ok.dk h.full).1
  |w6 b ai hd I he=>exact Bf (I.full h.ok.dk h.full).1
  |read b ai hd I he=>exact Bf (I.full h.ok.dk h.full).1
theorem mK.len (J:mK ε n 0 b ai)(h:gP ε): b.length=512:=by
 generalize I:(0:Int)=e at J
 cases J with
 |dead _=>cases I
 |jG e b ai hd J he=>exact absurd I.symm he
 |w6 b ai hd J he=>exact absurd I.symm he
 |read b ai hd J he=>exact(J.full h.ok.dk h.full).2 rfl
inductive GRd (ε:bq)(now:List (Int×List Nat))(bX:Bool)(n:Int): Int→List Nat→bq→Prop where
 |arg (h:¬(0≤n∧n<ε.2.2.aM.length)):GRd ε now bX n 1 [] ε
 |bX (h1:0≤n) (h2:n<ε.2.2.aM.length) (h:bX=true):GRd ε now bX n 18 [] ε
 |own (b:List Nat) (h1:0≤n) (h2:n<ε.2.2.aM.length) (h:bX=false) (hl:lookL n now=some b):GRd ε now bX n 0 b ε
 |read (e:Int) (b:List Nat) (ai:bq) (h1:0≤n) (h2:n<ε.2.2.aM.length) (h:bX=false) (hl:lookL n now=none) (hr:mK ε n e b ai):GRd ε now bX n e b ai
theorem GRd.kI {bX:Bool}(I:GRd ε now bX n e b ai)(h:gP ε): gP ai:=by
 cases I with
 |arg _=>exact h
 |bX _ _ _=>exact h
 |own _ _ _ _ _=>exact h
 |read e b ai J h2 h3 hl I=>exact I.kI h
theorem OpR.invoke {x:Operand}{m:String}{k:FuncId}{R:V→H→Prop}(J:o.op=.call cl)(hc:cl.callee=.invoke x m)
 (hx:bf E x=some (.iface t u))(hm:methV C.P t m=some k)(ha:lookArgs E cl.args.toList=some args)(I:Am.Call C k (u::args) h R): OpR C E h o R:=by
 obtain⟨v,h₁,⟨N,hN⟩,hr⟩:=I
 exact⟨v,h₁,hr,fun env hE=>⟨N,by simp only[evOp,J,evCall,mu hE ha,hc,bN hE hx,hm];exact hN⟩⟩
theorem En : methV Tryz.prog 78 "Read" = some 207 := by kernel_rfl
theorem Vf : methV Tryz.prog 26 "Read" = some 44 := by kernel_rfl
theorem Mp {e:TypeId}{x:Operand}(hu:Tryz.prog.underlying t=some (.pointer e)): binV Tryz.prog h .neq t x y .aZ .aZ=some (.bool false):=by simp only[binV,eqV,hu];rfl
theorem uB {e:TypeId}{x:Operand}{o:Nat}(hu:Tryz.prog.underlying t=some (.pointer e)): binV Tryz.prog h .eql t x y (.ptr i o) .aZ=some (.bool false):=by simp only[binV,eqV,hu];rfl
theorem Z2 {e:TypeId}{x:Operand}{o:Nat}(hu:Tryz.prog.underlying t=some (.pointer e)): binV Tryz.prog h .eql t x y .aZ (.ptr i o)=some (.bool false):=by simp only[binV,eqV,hu];rfl
theorem Z3 {e k:TypeId}{x:Operand}{n m:Nat}{ds:List V}(hu:Tryz.prog.underlying t=some (.pointer e))(I:bB Tryz.prog e=some k)(J:1≤k)(hi:T.get h.tr i=some (.cells n cs false))(hj:T.get h.tr j=some (.cells m ds false))(hn:1≤n)(hm:1≤m):
  binV Tryz.prog h .eql t x y (.ptr i 0) (.ptr j 0)=some (.bool (Nat.beq i j)):=by
 simp only[binV,eqV,hu,I,aG.2 J,ah,hi,hj,aG.2 hn,aG.2 hm,iX,eV,z_,ng]
section
variable {told:cC} {p:Nat} {op v:V} {m:List Fm} {bX:Bool}
theorem rP (I:W told)(s:Sat h (c7 a p q r .aZ data aE::S)): Call ⟨Tryz.prog,told⟩ 38 [.ptr a 0] h fun v h'=>∃g,v=.aO [.ptr g 0,.int .i64 0]∧Sat h' (eE g a [] false::c7 a p q r (.ptr g 0) data aE::S):=by
 obtain⟨dv,s⟩:=bQ.1 s
 refine Call.of_wp (I.free _ rfl) Tryz.func38 rfl rfl (zK 10 rfl (zY s 0 oX D2 rfl (zC rfl (Mp ot) (rfl) (zk 7 rfl ?_))))
 refine au.yC s rfl rfl rfl rfl (fun J h s => ?_)
 refine zo rfl (cx rfl (by rw[ZB];rfl)) ?_
 refine au.bP s rfl rfl rfl (dG rfl rfl) (fun p13 h s => ?_)
 refine zn rfl (zf rfl (oX _ _) ?_)
 refine zS rfl (by exact s.dO (k:=2) rfl Xu rfl (by decide) rfl rfl) (fun h s => ?_)
 refine zk 5 rfl (zY s 2 oX D2 rfl (zk 3 rfl (WP.ret ⟨aa,_,rfl,?_⟩)))
 have s1:=qM (f:=fun v (b:List Nat)=>.c9 v b) (s.ae [1])
 have s:=eF.2 ⟨_,s1.ae [1]⟩
 exact⟨_,rfl,(bQ.2 ⟨dv,s.ae [1,1,0]⟩).ae [1]⟩
theorem HQ (hT:W told)(s:Sat h (eE g a now bX::c7 a p q r op data aE::cL r p q π::bx q p μ::aJ p δ::S))(iI:gP (π,μ,δ))(hw:δ.waiting.length≤268435456)(uU:∀e∈now,e.2.length=512):
  Call ⟨Tryz.prog,told⟩ 207 [.ptr g 0,.int .i64 n] h fun v h'=>∃(e:Int) (b:List Nat) (ε:bq),GRd (π,μ,δ) now bX n e b ε ∧
   ((e≠0∧v=.aO [.aV,.int .i64 e]∧Sat h' (eE g a now bX::c7 a p q r op data aE::cL r p q ε.1::bx q p ε.2.1::aJ p ε.2.2::S)) ∨
    (e=0∧∃u,v=.aO [u,.int .i64 0]∧Sat h' (bp u b::eE g a now bX::c7 a p q r op data aE::cL r p q ε.1::bx q p ε.2.1::aJ p ε.2.2::S))):=by
 have s0:=s
 obtain⟨nv,s⟩:=eF.1 s
 obtain⟨dv,s⟩:=bQ.1 (s.ae [2])
 dsimp only[bringA,getA,aK] at s
 refine Call.of_wp (hT.free _ rfl) Tryz.func207 rfl rfl (zK 6 rfl (WP.block (zK 3 rfl ?_)))
 refine zd rfl (aq rfl rfl aT) ?_ ?_
 ·intro J
  have J:n<0:=by simpa using J
  exact zk 20 rfl (WP.ret ⟨aa,_,rfl,1,[],_,.arg (by simp only;omega),.inl ⟨by decide,rfl,s0⟩⟩)
 ·intro J
  have J:0≤n:=by simp at J;omega
  refine zk 4 rfl (zY s 2 oZ lB rfl (zn rfl (zY s 0 qz jt rfl (zc rfl (By hT (s.ae [6])) ?_))))
  rintro v h ⟨rfl,rfl⟩
  refine zd rfl (aq rfl rfl jj) ?_ ?_
  ·intro I
   have I:(δ.aM.length:Int)≤n:=by simpa using I
   exact zk 9 rfl (WP.ret ⟨aa,_,rfl,1,[],_,.arg (by simp only;omega),.inl ⟨by decide,rfl,s0⟩⟩)
  ·intro I
   have I:n<(δ.aM.length:Int):=by simp at I;omega
   refine zk 8 rfl (zf rfl (AA _ _) ?_)
   cases bX with
   |true =>
    exact zt rfl (aH rfl (s.ld (k:=2) rfl lK rfl)) (rfl) (zk 8 rfl (WP.ret ⟨aa,_,rfl,18,[],_,.bX J I rfl,.inl ⟨by decide,rfl,s0⟩⟩))
   |false =>
    refine zh rfl (aH rfl (by exact s.ld (k:=2) rfl lK rfl)) (rfl) ?_
    refine za rfl (zv (zj rfl (WP.skip (zw (zg rfl (zk 2 rfl (zf rfl (qE _ _) (zl rfl (by exact s.ld (k:=2) rfl mH rfl) ?_))))))))
    refine zm rfl ?_
    rcases kE (n:=n) (fun _ _=>bC.c9 _ _) (s.ae [3]) od bF rX with⟨g1,g2,_⟩|⟨u,b,g1,g2,_,s2⟩
    ·refine au.op rfl rfl rfl (fY rfl rfl g2) ?_
     refine zk 5 rfl (zv (zg rfl (zm rfl (zv (zj rfl (WP.skip (zg rfl (zk 2 rfl (zf rfl (oZ _ _) (zl rfl (by exact s.ld (k:=2) rfl lB rfl) ?_))))))))))
     refine zm rfl (zc rfl (BF (n:=n) hT (s0.ae [1,1,1,1]) iI.ok iI.pins hw) ?_)
     rintro v h ⟨e,b,ε,hr,(⟨he,rfl,s⟩|⟨rfl,u,rfl,s⟩)⟩
     ·dsimp only[bringA,getA,aK] at s
      exact zk 5 rfl (WP.ret ⟨aa,_,rfl,e,b,ε,.read e b ε J I rfl g1 hr,.inl ⟨he,rfl,s.ae [4]⟩⟩)
     ·dsimp only[bringA,getA,aK] at s
      exact zk 5 rfl (WP.ret ⟨aa,_,rfl,0,b,ε,.read 0 b ε J I rfl g1 hr,.inr ⟨rfl,u,rfl,s.ae [0,4]⟩⟩)
    ·dsimp only[bringA,getA,aK] at s2
     refine zo rfl (fY rfl rfl g2) (zk 14 rfl ?_)
     have hb:=uU _ (jE g1)
     refine zc rfl (nF hT s2 (eZ _ _) (by simp only at hb;omega)) ?_
     intro v h s
     refine zk 3 rfl (WP.ret ⟨aa,_,rfl,?_⟩)
     have s:=bQ.2 ⟨dv,s.ae [3,3,0,0,0,0,0,0,0]⟩
     have s:=eF.2 ⟨nv,s.ae [4,3]⟩
     exact⟨0,b,_,.own b J I rfl g1,.inr ⟨rfl,v,rfl,((s.ae [2,0,0,1,1,1]).del 6)⟩⟩
end
inductive tS (ε:bq)(now:List (Int×List Nat))(bX:Bool)(n:Int)(b:List Nat): Int→List (Int×List Nat)→bq→Prop where
 |may (e:Int) (c:List Nat) (ai:bq) (hr:GRd ε now bX n e c ai) (he:e≠0):tS ε now bX n b e now ai
 |bad (c:List Nat) (ai:bq) (hr:GRd ε now bX n 0 c ai) (hg:cg b=false):tS ε now bX n b 4 now ai
 |done (c:List Nat) (ai:bq) (hr:GRd ε now bX n 0 c ai) (hg:cg b=true):tS ε now bX n b 0 (cW n b now) ai
theorem tS.kI {bX:Bool}(I:tS ε now bX n b e dw ai)(h:gP ε): gP ai:=by
 cases I with
 |may e c ai I he=>exact I.kI h
 |bad c ai I J=>exact I.kI h
 |done c ai I J=>exact I.kI h
section
variable {told:cC} {p:Nat} {op v:V} {m:List Fm} {bX:Bool}
theorem X1 (hT:W told)(s:Sat h (eE g a now bX::c7 a p q r op data aE::cL r p q π::bx q p μ::aJ p δ::S))(J:gP (π,μ,δ))(hw:δ.waiting.length≤268435456)(I:∀e∈now,e.2.length=512):
  Call ⟨Tryz.prog,told⟩ 89 [.iface 78 (.ptr g 0),.int .i64 n] h fun v h'=>∃(e:Int) (b:List Nat) (ε:bq),GRd (π,μ,δ) now bX n e b ε∧v=.int .i64 e ∧
   Sat h' (eE g a now bX::c7 a p q r op data aE::cL r p q ε.1::bx q p ε.2.1::aJ p ε.2.2::S):=by
 refine Call.of_wp (hT.free _ rfl) Tryz.func89 rfl rfl (zK 8 rfl (au.any rfl rfl rfl (OpR.invoke rfl rfl rfl En rfl (HQ (n:=n) hT s J hw I)) ?_))
 rintro v h ⟨e,b,ε,hr,(⟨he,rfl,s⟩|⟨rfl,u,rfl,s⟩)⟩
 ·refine au.op rfl rfl rfl (aS rfl) ?_
  exact zk 10 rfl (WP.ret ⟨aa,_,rfl,e,b,ε,hr,rfl,s⟩)
 ·skip
  exact zk 11 rfl (WP.ret ⟨aa,_,rfl,0,b,ε,hr,rfl,s.drop⟩)
theorem OZ (hT:W told)(s:Sat h (eE g a now bX::c7 a p q r op data aE::cL r p q π::bx q p μ::aJ p δ::X::S))(hX:cD X (cE x b))(hb:b.length<9223372036854775808)(iI:gP (π,μ,δ))(hw:δ.waiting.length≤268435456)(J:∀e∈now,e.2.length=512):
  Call ⟨Tryz.prog,told⟩ 40 [.ptr g 0,.int .i64 n,x] h fun v h'=>∃(e:Int) (dw:List (Int×List Nat)) (ε:bq),tS (π,μ,δ) now bX n b e dw ε∧v=.int .i64 e ∧
   Sat h' (eE g a dw bX::c7 a p q r op data aE::cL r p q ε.1::bx q p ε.2.1::aJ p ε.2.2::X::S):=by
 refine Call.of_wp (hT.free _ rfl) Tryz.func40 rfl rfl (zK 8 rfl (zo rfl (qW rfl (mki_of ot rfl)) (zm rfl (zc rfl (X1 (n:=n) hT s iI hw J) ?_))))
 rintro v h ⟨e,c,ε,hr,rfl,s⟩
 refine zk 5 rfl ?_
 by_cases he:e=0
 ·skip
  subst he
  refine zC rfl aA (rfl) (zk 7 rfl (zc rfl (Kx hT (s.ae [5]) hX hb) ?_))
  rintro v h ⟨rfl,s⟩
  refine zo rfl (dM rfl rfl) (zv ?_)
  by_cases I:cg b=true
  ·skip
   refine WP.Ty rfl (by rw[I];rfl) ?_
   have aaT:=gI I
   obtain⟨nv,s⟩:=eF.1 (s.ae [1])
   have s:=s.ae [2,0,0]
   obtain⟨v8,rfl⟩:=yF s (j:=2) rfl
   refine zK 2 rfl ?_
   have s0:=s
   refine WP.drawn [some (0,2),some (0,2),some (0,2),some (0,2),some (0,2),af,af,af] rfl (by kernel_rfl) (by kernel_rfl) ?_
   refine zM rfl (zN rfl (zF rfl (qE _ _) (zL rfl (s.ld (k:=1) rfl mH rfl) (zM rfl (zM rfl (ax.any rfl rfl rfl rfl (OpR.call rfl rfl rfl rfl (nF hT s hX (by omega))) ?_))))))
   intro u h s
   obtain⟨lM,_,cap,_,rfl,_⟩:=s.fF (by omega)
   have s:=s.fX
   have s1:=s
   refine ax.gY rfl rfl rfl (OpR.mapUpdate rfl rfl rfl rfl (lU (f:=fun v b=>aP.c9 v b) (x:=b) (fun _ _=>bC.c9 _ _) (s.ae [0,2]) od bF)) ?_
   intro w h s
   refine ax.nil ⟨⟨fun _ _=>.inr ⟨rfl,⟨_,aS rfl⟩,aB _ rfl⟩,fun _ _=>.inr ⟨rfl,⟨_,iL rfl⟩,aB _ rfl⟩,fun _ _=>.inr ⟨rfl,⟨_,g8 rfl (qE _ _)⟩,aB _ rfl⟩,dJ (.inr ⟨rfl,⟨_,aH rfl (s0.ld (k:=1) rfl mH rfl)⟩,aB _ rfl⟩) (.inr ⟨rfl,⟨_,aH rfl (s1.ld (k:=2) rfl mH rfl)⟩,aB _ rfl⟩),fun _ _=>.inr ⟨rfl,⟨_,aS rfl⟩,aB _ rfl⟩,aa,aa,aa,aa⟩,?_⟩
   exact zK 4 rfl (WP.ret ⟨aa,_,rfl,0,_,ε,.done c ε hr I,rfl,eF.2 ⟨.map v8,s.ae [2,0,1,1,1,1,0]⟩⟩)
  ·have I:cg b=false:=by simpa using I
   refine WP.LN rfl (by rw[I];rfl) ?_
   exact zK 4 rfl (WP.ret ⟨aa,_,rfl,4,_,ε,.bad c ε hr I,rfl,s.ae [1,1,1,1,1,0]⟩)
 ·skip
  refine zB rfl aA (by simp;exact he) ?_
  exact zk 7 rfl (WP.ret ⟨aa,_,rfl,e,_,ε,.may e c ε hr he,rfl,s⟩)
theorem O0 (I:W told)(s:Sat h (eE g a now bX::c7 a p q r (.ptr g 0) data aE::S)): Call ⟨Tryz.prog,told⟩ 105 [.ptr g 0] h fun v h'=>v=.aO []∧Sat h' (eE g a now true::c7 a p q r .aZ data aE::S):=by
 obtain⟨J,s⟩:=eF.1 s
 obtain⟨dv,s⟩:=bQ.1 (s.ae [2])
 refine Call.of_wp (I.free _ rfl) Tryz.func105 rfl rfl (zK 4 rfl (zf rfl (AA _ _) ?_))
 refine zS rfl (by exact s.dO (k:=2) rfl xJ rfl (by decide) rfl rfl) (fun h s => ?_)
 refine zk 5 rfl (zY s 2 oZ lB rfl (zn rfl (zY s 0 oX D2 rfl (zm rfl (zB rfl (Z3 ot ZA (by decide) (s.row (k:=2) rfl) (s.row (k:=2) rfl) (by decide) (by decide)) (eV g) ?_)))))
 refine zk 5 rfl (zY s 2 oZ lB rfl (zn rfl (zf rfl (oX _ _) ?_)))
 refine zS rfl (by exact s.dO (k:=0) rfl Xu rfl (by decide) rfl rfl) (fun h s => ?_)
 refine zv ?_
 have s:=eF.2 ⟨J,(bQ.2 ⟨dv,s⟩).ae [1,1]⟩
 exact⟨aa,_,rfl,rfl,s⟩
theorem JJ (I:W told)(s:Sat h (eE g a now bX::c7 a p q r .aZ data aE::S)): Call ⟨Tryz.prog,told⟩ 105 [.ptr g 0] h fun v h'=>v=.aO []∧Sat h' (eE g a now true::c7 a p q r .aZ data aE::S):=by
 obtain⟨J,s⟩:=eF.1 s
 obtain⟨dv,s⟩:=bQ.1 (s.ae [2])
 dsimp only[bringA,getA,aK] at s
 refine Call.of_wp (I.free _ rfl) Tryz.func105 rfl rfl (zK 4 rfl (zf rfl (AA _ _) ?_))
 refine zS rfl (by exact s.dO (k:=2) rfl xJ rfl (by decide) rfl rfl) (fun h s => ?_)
 dsimp only[CW,Nat.reduceAdd,List.set,setA] at s
 refine zv (zg rfl (zk 2 rfl (zf rfl (oZ _ _) (zl rfl (by exact s.ld (k:=2) rfl lB rfl) ?_))))
 refine zn rfl (zf rfl (oX _ _) (zl rfl (by exact s.ld (k:=0) rfl D2 rfl) ?_))
 refine zm rfl (zh rfl (aq rfl rfl (Z2 ot)) (rfl) (zv (zj rfl (WP.skip ?_))))
 have s:=eF.2 ⟨J,(bQ.2 ⟨dv,s⟩).ae [1,1]⟩
 exact⟨aa,_,rfl,rfl,s⟩
theorem pY (I:W told)(s:Sat h (eE g a now bX::c7 a p q r .aZ data aE::S)): Call ⟨Tryz.prog,told⟩ 59 [.ptr g 0] h fun v h'=>v=.aO []∧Sat h' (eE g a now true::c7 a p q r .aZ data aE::S):=by
 refine Call.of_wp (I.free _ rfl) vZ rfl rfl (zK 2 rfl (zc rfl (JJ I s) ?_))
 rintro v h ⟨rfl,s⟩
 exact zv ⟨aa,_,rfl,rfl,s⟩
end
inductive xM (bj:Int)(ff now:List Nat): Nat→List cO→Prop where
 |done (i:Nat) (h:now.length≤i):xM bj ff now i []
 |skip (i:Nat) (l:List cO) (h:i<now.length) (he:ff[i]?=now[i]?) (hr:xM bj ff now (i+1) l):xM bj ff now i l
 |take (i e:Nat) (l:List cO) (h1:i<e) (h2:e≤now.length) (h3:ff[i]?≠now[i]?) (h4:∀k,e≤k→k<e+8→ff[k]?=now[k]?) (hr:xM bj ff now e l):xM bj ff now i (⟨bj,i,false,(now.take e).drop i⟩::l)
def O1 (bj:Int)(ff now:List Nat)(c:List cO): Prop:=∃l,xM bj ff now 12 l∧c=if l=[] then[⟨bj,0,false,[]⟩] else l
theorem tT : ∃i,Tryz.prog.info? 237=some i∧i.size=4∧i.bytes=48 :=
 ⟨_,(show Tryz.prog.info? 237=some ((Tryz.prog.info? 237).getD default) by kernel_rfl),by kernel_rfl,by kernel_rfl⟩
section
variable {told:cC} {p:Nat} {op v:V} {now:List Nat}
noncomputable def rgO : Code:=cm [1,1,0,1,0,0] ((Tryz.f173.body).getD .skip)
noncomputable def rgI : Code:=cm [1,1,0,1,0,0,1,0,1,1,0,1,0,0] ((Tryz.f173.body).getD .skip)
theorem RW {I:Nat}{t7:V}{k1 k2:Nat}(s:Sat h S)(xA:getA S k1=some X)(hX:cD X (cE u ff))(Fg:getA S k2=some Y)(hY:cD Y (cE v now))(Fj:ff.length=512)(iQ:now.length=512): ∀(j i e:Nat) (E:List (Nat×V)) (Q:Ex→List (Nat×V)→H→Prop),i+j=512→I<e→e≤i→(∀k,e≤k→k<i→ff[k]?=now[k]?) →
  Has E [(0,.int .i64 pg),(1,u),(2,v),(7,t7),(8,.int .i64 (I:Int)),(9,.int .i64 (e:Int)),(10,.int .i64 (i:Int))] →
  (∀J E',I<J→J≤512→(∀k,J≤k→k<J+8→ff[k]?=now[k]?)→Has E' [(0,.int .i64 pg),(1,u),(2,v),(7,t7),(8,.int .i64 (I:Int)),(9,.int .i64 (J:Int))]→Q (.exit 2) E' h) →
  WP ⟨Tryz.prog,told⟩ 71 (.loop rgI) E h Q:=by
 have hv:=s.aI Fg hY
 have hu:=s.aI xA hX
 have hlen:lenV Tryz.prog h 23 v=some (.int .i64 now.length):=bA aN hv
 intro j
 induction j with
 |zero =>
  intro i e E Q hi h1 h2 hg hE hq
  refine WP.loop (WP.has hE (zK 5 rfl (zo rfl (a_ rfl rfl rfl hlen) (zC rfl aT (by grind) ?_))))
  refine zk 8 rfl (WP.exit ?_)
  refine hq e _ h1 (by omega) (fun k k1 _ => ?_) ⟨rfl,rfl,rfl,rfl,rfl,rfl,aa⟩
  by_cases hk:k<i
  ·grind
  ·grind
 |succ j ih =>
  intro i e E Q hi h1 h2 hg hE hq
  have hb:now[i]?=some (now[i]'(by omega)):=bw _
  generalize (now[i]'(by omega))=b at hb
  have hc:ff[i]?=some (ff[i]'(by omega)):=bw _
  generalize (ff[i]'(by omega))=c at hc
  obtain⟨id,off,e1,e2⟩:=fy hv hb
  obtain⟨B4,off',e3,e4⟩:=fy hu hc
  refine WP.loop (WP.has hE (zK 5 rfl (zo rfl (a_ rfl rfl rfl hlen) (zB rfl aT (by grind) ?_))))
  refine zk 3 rfl (zb rfl (by exact aW (az (by omega) (by omega))) ?_)
  by_cases hd:i<e+8
  ·skip
   refine zB rfl aT (by grind) ?_
   refine zk 5 rfl (WP.block (zw ?_))
   have s0:=s
   refine WP.drawn [af,af,af,af,af,af,af,af,af] rfl (by kernel_rfl) (by kernel_rfl) ?_
   refine zM rfl (zM rfl (zO rfl (cZ (r:=.ptr B4 off') rfl rfl e3) (zL rfl e4 (zM rfl (zM rfl (zO rfl (cZ (r:=.ptr id off) rfl rfl e1) (zL rfl e2 ?_)))))))
   by_cases hbc:c=b
   ·skip
    refine ax.mG rfl rfl rfl rfl (aq rfl rfl aA) (by grind) ?_
    refine ax.nil ⟨⟨aa,aa,aa,aa,aa,aa,aa,aa,aa,aa⟩,?_⟩
    refine zj rfl (WP.skip (zr rfl (zm rfl (zb rfl (by exact aW (az (by omega) (by omega))) ?_))))
    refine za rfl (zv ?_)
    exact ih (i+1) e _ Q (by omega) h1 (by omega) (fun k k1 k2=>(by
     grind)) ⟨rfl,rfl,rfl,rfl,rfl,rfl,rfl,aa⟩ hq
   ·skip
    refine ax.vT rfl rfl rfl rfl (aq rfl rfl aA) (by grind) ?_
    refine ax.nil ⟨⟨aa,aa,aa,aa,aa,aa,aa,aa,aa,aa⟩,?_⟩
    refine zK 3 rfl (zb rfl (by exact aW (az (by omega) (by omega))) ?_)
    refine za rfl (zv (zr rfl (zm rfl (zb rfl (by exact aW (az (by omega) (by omega))) ?_))))
    refine za rfl (zv ?_)
    exact ih (i+1) (i+1) _ Q (by omega) (by omega) (by omega) (fun k k1 k2=>absurd k2 (by omega)) ⟨rfl,rfl,rfl,rfl,rfl,rfl,rfl,aa⟩ hq
  ·skip
   refine zC rfl aT (by grind) ?_
   exact zk 3 rfl (WP.exit (hq e _ h1 (by omega) (fun k k1 k2=>hg k k1 (by omega)) ⟨rfl,rfl,rfl,rfl,rfl,rfl,aa⟩))
theorem RX (hT:W told)(hX:cD X (cE u ff))(hY:cD Y (cE v now))(Fj:ff.length=512)(iQ:now.length=512): ∀(j i:Nat) (acc:List cO) (av:V) (cs:List V) (h:H) (E:List (Nat×V)) (Q:Ex→List (Nat×V)→H→Prop),512≤i+j→i≤512→acc.length≤i →
  Sat h (.arr 4 av cs::cP cs acc::X::Y::S)→(∀l,xM pg ff now i l→xM pg ff now 12 (acc++l)) →
  Has E [(0,.int .i64 pg),(1,u),(2,v),(7,av),(8,.int .i64 (i:Int))] →
  (∀nR cs' l E' h',xM pg ff now 12 l→l.length≤512→Sat h' (.arr 4 nR cs'::cP cs' l::X::Y::S)→Has E' [(0,.int .i64 pg),(7,nR)]→Q (.exit 0) E' h') →
  WP ⟨Tryz.prog,told⟩ 71 (.loop rgO) E h Q:=by
 intro j
 induction j with
 |zero =>
  intro i acc av cs h E Q hj hi X2 s I hE hq
  have hlen:lenV Tryz.prog h 23 v=some (.int .i64 now.length):=bA aN (s.aI (k:=3) rfl hY)
  refine WP.loop (WP.has hE (zK 5 rfl (zo rfl (a_ rfl rfl rfl hlen) (zC rfl aT (by grind) ?_))))
  refine zk 2 rfl (WP.exit ?_)
  have:=I [] (.done _ (by omega))
  rw[iW] at this
  exact hq av cs acc _ _ this (by omega) s ⟨rfl,rfl,aa⟩
 |succ j ih =>
  intro i acc av cs h E Q hj hi X2 s I hE hq
  have hv:=s.aI (k:=3) rfl hY
  have hu:=s.aI (k:=2) rfl hX
  have hlen:lenV Tryz.prog h 23 v=some (.int .i64 now.length):=bA aN hv
  by_cases cJ:i<512
  ·have hb:now[i]?=some (now[i]'(by omega)):=bw _
   generalize (now[i]'(by omega))=b at hb
   have hc:ff[i]?=some (ff[i]'(by omega)):=bw _
   generalize (ff[i]'(by omega))=c at hc
   obtain⟨id,off,e1,e2⟩:=fy hv hb
   obtain⟨B4,off',e3,e4⟩:=fy hu hc
   refine WP.loop (WP.has hE (zK 5 rfl (zo rfl (a_ rfl rfl rfl hlen) (zB rfl aT (by grind) ?_))))
   refine zk 3 rfl (WP.block (zK 2 rfl ?_))
   have s0:=s
   refine WP.drawn [af,af,af,af,af,af,af,af,af] rfl (by kernel_rfl) (by kernel_rfl) ?_
   refine zM rfl (zM rfl (zO rfl (cZ (r:=.ptr B4 off') rfl rfl e3) (zL rfl e4 (zM rfl (zM rfl (zO rfl (cZ (r:=.ptr id off) rfl rfl e1) (zL rfl e2 ?_)))))))
   by_cases hbc:c=b
   ·skip
    refine ax.vT rfl rfl rfl rfl (aq rfl rfl dh) (by grind) ?_
    refine ax.nil ⟨⟨aa,aa,aa,aa,aa,aa,aa,aa,aa,aa⟩,?_⟩
    refine zK 4 rfl (zb rfl (by exact aW (az (by omega) (by omega))) ?_)
    exact zk 2 rfl (WP.exit (ih (i+1) acc av cs h _ Q (by omega) (by omega) (by omega) s (fun l hl=>I l (.skip i l (by omega) (by grind) hl)) ⟨rfl,rfl,rfl,rfl,rfl,aa⟩ hq))
   ·skip
    refine ax.mG rfl rfl rfl rfl (aq rfl rfl dh) (by grind) ?_
    refine ax.nil ⟨⟨aa,aa,aa,aa,aa,aa,aa,aa,aa,aa⟩,?_⟩
    refine zK 5 rfl (zb rfl (by exact aW (az (by omega) (by omega))) ?_)
    refine zk 8 rfl (WP.block ?_)
    refine RW s (k1:=2) (k2:=3) rfl hX rfl hY Fj iQ (512-(i+1)) (i+1) (i+1) _ _ (by omega) (Dy i) (aQ _) (fun k k1 k2=>absurd k2 (by omega)) ⟨rfl,rfl,rfl,rfl,rfl,rfl,rfl,aa⟩ (fun e' E' he1 uC HR eS => ?_)
    refine WP.has eS ?_
    have HS:=cR hv (a:=i) (b:=e') (by omega) (by omega)
    refine zK 8 rfl (zo rfl (cj (p:=some (.int .i64 (i:Int))) (q:=some (.int .i64 (e':Int))) (m:=none) (p':=some i) (q':=some e') (m':=none) rfl rfl rfl rfl (by rfl) (by rfl) rfl HS.1) ?_)
    refine zc rfl (nF hT (s.ae [3]) (jW hY (a:=i) (b:=e') (by omega) (by omega)) (by grind)) ?_
    intro w h s
    dsimp only[bringA,getA,aK] at s
    obtain⟨wid,_,J,_,rfl,_⟩:=s.fF (by grind)
    have s:=s.fX
    generalize EZ:(now.take e').drop i=bs at s
    refine zo rfl (cx rfl (by rw[LX];rfl)) ?_
    obtain⟨rv,h1,tQ,s1⟩:=kj (P:=Tryz.prog) (k:=4) (x:=.agg [.int .i64 pg,.int .i64 (i:Int),.bool false,.sl wid 0 bs.length J]) s hG nC pR rfl (by decide) (by decide) rfl rfl
    dsimp only[V.cells] at s1
    refine au.any rfl rfl rfl (OpR.of (R:=fun v h'=>v=rv∧h'=h1) (mC rfl tQ) ⟨rfl,rfl⟩) ?_
    rintro v' h' ⟨rfl,rfl⟩
    obtain⟨i1,jX,jd,tK⟩:=tT
    have jC:cs.length=acc.length*4:=by
     obtain⟨a,b,q1,q2,q3⟩:=s1.at (k:=4) rfl
     exact mX q3
    obtain⟨nR,h2,om,s2⟩:=g_ (s1.ae [3,0]) hG jX nC jd (by omega) rfl (by decide) (by grind)
    dsimp only[bringA,getA,aK] at s2
    refine au.any rfl rfl rfl (OpR.of (R:=fun v h'=>v=nR∧h'=h2) (ox rfl rfl om) ⟨rfl,rfl⟩) ?_
    rintro v' h' ⟨rfl,rfl⟩
    refine za rfl (zv (zr rfl (zk 2 rfl (zv ?_))))
    have s3:Sat _ (cP cs acc::.c9 (.sl wid 0 bs.length J) bs::_):=s2.ae [4,2]
    have s4:=s3.two (C:=cP (cs++[.int .i64 pg,.int .i64 (i:Int),.bool false,.sl wid 0 bs.length J]) (acc++[⟨pg,i,false,bs⟩])) (bC.nP _ _) (bC.c9 _ _) fun a b q1 q2=>wZ q1 ⟨⟨⟨rfl,rfl,rfl⟩,q2⟩,aa⟩
    have s5:=(s4.ae [1,0,2,1]).del 4
    dsimp only[bringA,getA,aK] at s5
    refine ih e' (acc++[⟨pg,(i:Int),false,bs⟩]) _ _ _ _ Q (by omega) uC (by grind) s5 (fun l hl => ?_) ⟨rfl,rfl,rfl,rfl,rfl,aa⟩ hq
    have:=I _ (.take i e' l he1 (by omega) (fun hx=>by grind) HR hl)
    rw[EZ] at this
    rwa [dB]
  ·have hi5:i=512:=by omega
   refine WP.loop (WP.has hE (zK 5 rfl (zo rfl (a_ rfl rfl rfl hlen) (zC rfl aT (by simp<;>omega) ?_))))
   refine zk 2 rfl (WP.exit ?_)
   have:=I [] (.done _ (by omega))
   rw[iW] at this
   exact hq av cs acc _ _ this (by omega) s ⟨rfl,rfl,aa⟩
theorem O2 (hT:W told)(s:Sat h (X::Y::S))(hX:cD X (cE u ff))(hY:cD Y (cE v now))(I:ff.length=512)(J:now.length=512):
  Call ⟨Tryz.prog,told⟩ 173 [.int .i64 pg,u,v] h fun w h'=>∃cs l,O1 pg ff now l∧l.length≤512∧Sat h' (.arr 4 w cs::cP cs l::X::Y::S):=by
 refine Call.of_wp (hT.free _ rfl) Tryz.func173 rfl rfl (zK 13 rfl (WP.block ?_))
 refine RX hT (pg:=pg) hX hY I J 500 12 [] .aV [] _ _ _ (by omega) (by omega) (by simp) ((s.gh aa).mU) (fun l hl=>hl) ⟨rfl,rfl,rfl,rfl,rfl,aa⟩ (fun nR cs' l E' h' hr TW s' eS => ?_)
 have s:=s'
 have hlen:=s.yK (j1:=0) (j2:=1) rfl rfl hG
 have xN:=s.jk (j:=0) rfl
 refine WP.has eS (zK 4 rfl (zo rfl (a_ rfl rfl rfl hlen) ?_))
 by_cases GN:l=[]
 ·skip
  refine zB rfl dh (by grind) ?_
  refine zk 5 rfl (zo rfl (cx rfl (by rw[LX];rfl)) ?_)
  obtain⟨rv,h1,tQ,s1⟩:=kj (P:=Tryz.prog) (k:=4) (x:=.agg [.int .i64 pg,.int .i64 0,.bool false,.aV]) s hG nC pR rfl (by decide) (by decide) rfl rfl
  dsimp only[V.cells] at s1
  refine au.any rfl rfl rfl (OpR.of (R:=fun v h'=>v=rv∧h'=h1) (mC rfl tQ) ⟨rfl,rfl⟩) ?_
  rintro v' h' ⟨rfl,rfl⟩
  refine zk 2 rfl (WP.ret ⟨aa,_,rfl,?_⟩)
  refine⟨[.int .i64 pg,.int .i64 0,.bool false,.aV],[⟨pg,0,false,[]⟩],⟨l,hr,by grind⟩,by simp,?_⟩
  have s2:=(s1.del 2).del 1
  have s3:Sat _ (.c9 .aV []::.arr 4 v' _::X::Y::S):=s2.ur
  have s4:=s3.j5 (B:=cP [.int .i64 pg,.int .i64 0,.bool false,.aV] [⟨pg,0,false,[]⟩]) fun a b q=>⟨⟨⟨rfl,rfl,rfl⟩,q⟩,aa⟩
  exact s4.ae [1,0]
 ·skip
  refine zC rfl dh (by simp_all) ?_
  exact zk 8 rfl (WP.ret ⟨aa,_,rfl,_,l,⟨l,hr,by grind⟩,TW,s⟩)
end
def gq (m:List Fm): Nat:=(m.map (·.changed)).count true
theorem mA {g:Fm}: ∀ {m:List Fm} {i:Nat},m[i]?=some f→gq (m.set i g)+f.changed.toNat=gq m+g.changed.toNat:=by
 intro m
 induction m with
 |nil=>simp
 |cons x m I =>
  intro i h
  cases i<;>grind[gq]
theorem CX {g:Fm}(I:g.changed=false): ∀ {m:List Fm} {i:Nat},gq (m.set i g)≤gq m:=by
 intro m i
 cases h:m[i]? with
 |none =>
  grind[List.set_eq_of_length_le]
 |some f =>
  have:=mA (g:=g) h
  grind
def bV (ε:bq): Nat:=ε.2.2.waiting.length+gq ε.1.ag
theorem qR : ε.2.2.waiting.length≤bV ε:=vt _ _
theorem fH.count (I:fH π bU): gq bU.ag=gq π.ag:=by
 have:bU.ag.map (·.changed)=π.ag.map (·.changed):=by
  refine sL fun i => ?_
  rw[qp,qp]
  cases h:π.ag[i]? with
  |none =>
   have J:π.ag.length≤i:=by grind
   have:bU.ag[i]?=none:=by simp[I.len,J]
   rw[this]
  |some f =>
   obtain⟨t,ht⟩:=I.get i f h
   rw[ht];rfl
 simp only[gq,this]
theorem HT (h:(δ.dx n b).1≠0): (δ.dx n b).2.waiting=δ.waiting:=by
 unfold Dk.dx at h ⊢
 split
 ·rfl
 ·rename_i I
  split
  ·rfl
  ·rename_i J
   split
   ·rfl
   grind
theorem HU : bV (outF ε i).2≤bV ε:=by
 grind[outF,bV,mZ,HT,Be,mA]
theorem yU : gq (dz π i f).ag≤gq π.ag:=CX rfl
theorem fI.bV (J:fI ε n e b ai): Am.bV ai≤Am.bV ε:=by
 have rY:∀ {bU:Pl},fH ε.1 bU→∀i,Am.bV (outF (bU,ε.2) i).2≤Am.bV ε:=fun {bU} I i=>by
  have:=HU (ε:=(bU,ε.2)) (i:=i)
  refine cu this ?_
  simp only[Am.bV,I.count]
  exact aQ _
 cases J with
 |arg _=>simp
 |Bd i f h1 h2 hl hf =>
  grind[mA,Am.bV]
 |out bU i f h1 h2 hl I hf hh he=>grind
 |read bU i f h1 h2 hl I hf hh he J=>exact cu (sJ yU _) (rY I i)
 |bad bU i f h1 h2 hl I hf hh he J hc=>exact cu (sJ yU _) (rY I i)
 |load bU i f h1 h2 hl I hf hh he J hc=>exact cu (sJ (cu (CX rfl) yU) _) (rY I i)
theorem CZ : gq (unpinF π n).2.ag=gq π.ag:=by
 grind[unpinF,mA]
theorem mK.bV (I:mK ε n e b ai): Am.bV ai≤Am.bV ε:=by
 cases I with
 |dead _=>simp
 |jG e b ai hd I he=>exact I.bV
 |w6 b ai hd I he=>have:=I.bV;grind[Am.bV,CZ]
 |read b ai hd I he=>have:=I.bV;grind[Am.bV,CZ]
theorem GRd.bV {bX:Bool}(I:GRd ε now bX n e b ai): Am.bV ai≤Am.bV ε:=by
 cases I with
 |arg _=>simp
 |bX _ _ _=>simp
 |own _ _ _ _ _=>simp
 |read e b ai J h2 h3 hl I=>exact I.bV
theorem tS.bV {bX:Bool}(I:tS ε now bX n b e dw ai): Am.bV ai≤Am.bV ε:=by
 cases I with
 |may e c ai I he=>exact I.bV
 |bad c ai I J=>exact I.bV
 |done c ai I J=>exact I.bV
inductive jg (now:List (Int×List Nat)): List Int→bq→Int→List cO→bq→Prop where
 |nil (ε:bq):jg now [] ε 0 [] ε
 |err (n:Int) (l:List Int) (ε:bq) (e:Int) (b:List Nat) (ai:bq) (hr:mK ε n e b ai) (he:e≠0):jg now (n::l) ε e [] ai
 |part (n:Int) (l:List Int) (ε:bq) (ff b:List Nat) (ai:bq) (c:List cO) (e:Int) (cs:List cO) (lN:bq) (hr:mK ε n 0 ff ai) (hb:lookL n now=some b) (hd:(lookL n ai.1.bu).isSome=true) (hc:O1 n ff b c) (hl:c.length≤512) (ht:jg now l ai e cs lN):jg now (n::l) ε e (c++cs) lN
 |whole (n:Int) (l:List Int) (ε:bq) (ff b:List Nat) (ai:bq) (e:Int) (cs:List cO) (lN:bq) (hr:mK ε n 0 ff ai) (hb:lookL n now=some b) (hd:(lookL n ai.1.bu).isSome=false) (ht:jg now l ai e cs lN):jg now (n::l) ε e (⟨n,0,true,b⟩::cs) lN
theorem jg.kI {l:List Int}{cs:List cO}(I:jg now l ε e cs ai)(h:gP ε): gP ai:=by
 induction I with
 |nil ε=>exact h
 |err n l ε e b ai I he=>exact I.kI h
 |part n l ε ff b ai c e cs J I hb hd hc hl ht ih=>exact ih (I.kI h)
 |whole n l ε ff b ai e cs J I hb hd ht ih=>exact ih (I.kI h)
theorem jg.bV {l:List Int}{cs:List cO}(I:jg now l ε e cs ai): Am.bV ai≤Am.bV ε:=by
 induction I with
 |nil ε=>simp
 |err n l ε e b ai I he=>exact I.bV
 |part n l ε ff b ai c e cs J I hb hd hc hl ht ih=>exact cu ih I.bV
 |whole n l ε ff b ai e cs J I hb hd ht ih=>exact cu ih I.bV
theorem Mq {b:Nat}{v w:V}(I:look E a=some v)(J:look E b=some w): resLE P E h [.tmp a,.tmp b]=some (.aO [v,w]):=by grind[resLE,mapO,resE]
section
variable {told:cC} {p:Nat} {op v:V} {bX:Bool}
theorem BH (I:W told)(s:Sat h S): Call ⟨Tryz.prog,told⟩ 107 [.map id] h fun v h'=>∃b,v=.fn (.func 177) [] [.ptr b 0]∧Sat h' (pt b (.cells 1 [.map id] false)::S):=by
 refine Call.of_wp (I.free _ rfl) Tryz.func107 rfl rfl (zg rfl ?_)
 refine au.bP s rfl rfl rfl (dG rfl rfl) (fun p1 h s => ?_)
 exact zk 4 rfl (zo rfl (sB rfl rfl) (zk 2 rfl (WP.ret ⟨aa,_,rfl,_,rfl,s⟩)))
theorem yV (I:W told)(s:Sat h (eE g a now bX::S))(hm:now.length≤1048576)(hk:∀n∈now.map (·.1),(Lit.int .i64 n).wf=true):
  Call ⟨Tryz.prog,told⟩ 92 [.ptr g 0] h fun v h'=>Sat h' (.arr 1 v (dy (aX now))::eE g a now bX::S):=by
 obtain⟨nv,s⟩:=eF.1 s
 obtain⟨J,rfl⟩:=yF s (j:=1) rfl
 refine Call.of_wp (I.free _ rfl) Tryz.func92 rfl rfl (zK 8 rfl (zY s 0 qE mH rfl (zc rfl (BH I s) ?_)))
 rintro v h ⟨b,rfl,s⟩
 refine zc rfl (rL I (s.ae [0,1]) (by decide) hm hk) ?_
 intro kv h s
 exact zk 2 rfl (WP.ret ⟨aa,_,rfl,(eF.2 ⟨.map J,(s.ae [3,2,0]).del 3⟩).ae [1]⟩)
noncomputable def cgL : Code:=cm [1,1,0,1,0,0] ((Tryz.f103.body).getD .skip)
theorem HV (hT:W told)(Fu:ks.length≤65536)(O3:∀n∈ks,(lookL n now).isSome=true)(uU:∀e∈now,e.2.length=512): ∀(j i:Nat) (acc:List cO) (av:V) (cs:List V) (ε:bq) (h:H) (E:List (Nat×V)) (Q:Ex→List (Nat×V)→H→Prop),i+j=ks.length →
  gP ε→bV ε≤268435456→acc.length≤512*i →
  Sat h (.arr 4 av cs::cP cs acc::eE g a now bX::c7 a p q r op data aE::cL r p q ε.1::bx q p ε.2.1::aJ p ε.2.2::.arr 1 kv (dy ks)::S) →
  Has E [(0,.ptr g 0),(4,av),(13,kv),(14,.int .i64 ks.length),(15,.int .i64 i)] →
  (∀e c ai E' h',jg now (ks.drop i) ε e c ai→e≠0→look E' 2=some .aV→look E' 3=some (.int .i64 e)→Sat h' (eE g a now bX::c7 a p q r op data aE::cL r p q ai.1::bx q p ai.2.1::aJ p ai.2.2::S)→Q .ret E' h') →
  (∀c ai E' h' nR cs',jg now (ks.drop i) ε 0 c ai→acc.length+c.length≤512*ks.length→Has E' [(4,nR)]→Sat h' (.arr 4 nR cs'::cP cs' (acc++c)::eE g a now bX::c7 a p q r op data aE::cL r p q ai.1::bx q p ai.2.1::aJ p ai.2.2::S)→Q (.exit 0) E' h') →
  WP ⟨Tryz.prog,told⟩ 65 (.loop cgL) E h Q:=by
 intro j
 induction j with
 |zero =>
  intro i acc av cs ε h E Q hj iI hw X2 s hE hr hx
  refine WP.loop (WP.has hE (zg rfl (zC rfl aT (by grind) ?_)))
  refine zk 3 rfl (WP.exit ?_)
  rw[jH (by omega)] at hx
  have s1:=s.del 7
  dsimp only[aK] at s1
  refine hx [] ε _ _ av cs (.nil ε) (by grind) ⟨rfl,aa⟩ ?_
  rw[iW]
  exact s1
 |succ j ih =>
  intro i acc av cs ε h E Q hj iI hw X2 s hE hr hx
  have hn:ks[i]?=some (ks[i]'(by omega)):=bw _
  have DT:ks[i]'(by omega)∈ks:=vr _
  have mI:ks.drop i=ks[i]'(by omega)::ks.drop (i+1):=oK (by omega)
  generalize (ks[i]'(by omega))=n at hn DT mI
  have hc:(dy ks)[i]?=some (.int .i64 n):=by simp[dy,hn]
  obtain⟨b,hb⟩:=Option.isSome_iff_exists.1 (O3 n DT)
  have Gk:=uU _ (jE hb)
  simp only at Gk
  rw[mI] at hr hx
  obtain⟨id,off,e1,e2⟩:=iH (P:=Tryz.prog) s (k:=7) rfl hc dW j6
  refine WP.loop (WP.has hE (zg rfl (zB rfl aT (by grind) ?_)))
  refine zk 5 rfl (WP.block (zg rfl (zo rfl (cZ (r:=.ptr id off) rfl rfl e1) (zl rfl (e2 _ dV) ?_))))
  obtain⟨nv,s⟩:=eF.1 (s.ae [2])
  dsimp only[bringA,getA,aK] at s
  refine zk 6 rfl (zY s 0 oZ lB rfl (zm rfl (zc rfl (BF (n:=n) hT (s.ae [4,4,4,4]) iI.ok iI.pins (cu qR hw)) ?_)))
  rintro v h ⟨e,w,ai,J,(⟨he,rfl,s⟩|⟨rfl,u,rfl,s⟩)⟩
  ·dsimp only[bringA,getA,aK] at s
   refine zk 10 rfl (zB rfl aA (by grind) ?_)
   refine zk 8 rfl (WP.ret (hr e [] ai _ _ (.err n _ ε e w ai J he) he rfl rfl ?_))
   have s:=eF.2 ⟨nv,s.ae [4,4]⟩
   dsimp only[bringA,getA,aK] at s
   exact((s.del 7).del 6).del 5
  ·dsimp only[bringA,getA,aK] at s
   have KE:=J.kI iI
   have tE:=cu J.bV hw
   have hlen:=J.len iI
   refine zk 10 rfl (zC rfl aA (rfl) ?_)
   have s:=s.fX
   have s:=s.ae [5,5,1,1,1,1,1,1,1,0]
   dsimp only[bringA,getA,aK] at s
   rcases kE (n:=n) (fun _ _=>bC.c9 _ _) (s.ae [1]) od bF rX with⟨g1,g2,_⟩|⟨nw,b',g1,_,g2,s2⟩
   ·grind
   rw[hb] at g1
   have:=b6 g1
   subst this
   refine zk 7 rfl (zY s 0 qE mH rfl (zm rfl (zo rfl (fY rfl rfl g2) ?_)))
   obtain⟨dv,s⟩:=bQ.1 (s2.ae [3])
   dsimp only[bringA,getA,aK] at s
   have s:=s.ae [4]
   dsimp only[bringA,getA,aK] at s
   refine zk 6 rfl (zY s 0 oZ lB rfl (zn rfl (zY s 1 nu sD rfl (zm rfl (zc rfl (XS (n:=n) hT (s.ae [5])) ?_)))))
   rintro v h ⟨rfl,s⟩
   dsimp only[bringA,getA,aK] at s
   refine zk 10 rfl ?_
   cases hd:(lookL n ai.1.bu).isSome with
   |true =>
    refine zK 6 rfl (zc rfl (O2 hT (u:=u) (v:=nw) (pg:=n) (s.ae [11,4]) (eZ _ _) (eZ _ _) hlen Gk) ?_)
    rintro rv h ⟨X3,c,hc,jC,s⟩
    dsimp only[bringA,getA,aK] at s
    obtain⟨i1,jX,jd,tK⟩:=tT
    have RY:cs.length=acc.length*4:=by
     obtain⟨a,b,q1,q2,q3⟩:=s.at (k:=12) rfl
     exact mX q3
    have acu:X3.length=c.length*4:=by
     obtain⟨a,b,q1,q2,q3⟩:=s.at (k:=1) rfl
     exact mX q3
    obtain⟨nR,h2,om,s2⟩:=g_ (s.ae [11,0]) hG jX nC jd (by omega) rfl (by decide) (by omega)
    dsimp only[bringA,getA,aK] at s2
    refine au.any rfl rfl rfl (OpR.of (R:=fun v h'=>v=nR∧h'=h2) (ox rfl rfl om) ⟨rfl,rfl⟩) ?_
    rintro v' h' ⟨rfl,rfl⟩
    refine za rfl (zv (zr rfl (zb rfl (by exact aW (az (by omega) (by omega))) ?_)))
    refine zm rfl (zv ?_)
    have s3:Sat _ (cP cs acc::cP X3 c::_):=s2.ae [12,2]
    have s4:=s3.two (C:=cP (cs++X3) (acc++c)) (bC.nP _ _) (bC.nP _ _) fun a b q1 q2=>wZ q1 q2
    dsimp only[bringA,getA,aK] at s4
    have s5:=bQ.2 ⟨dv,s4.ae [7,7]⟩
    dsimp only[bringA,getA,aK] at s5
    have s6:=eF.2 ⟨nv,s5.ae [7,7]⟩
    dsimp only[bringA,getA,aK] at s6
    have s7:=(((s6.ae [3,2,0,0,3,3,3,3]).del 10).del 9).del 8
    dsimp only[bringA,getA,aK] at s7
    refine ih (i+1) (acc++c) _ _ ai _ _ Q (by omega) KE tE (by grind) s7 ⟨rfl,rfl,rfl,rfl,rfl,aa⟩ (fun e c' I E' h' ht he l2 l3 s' => ?_) (fun c' I E' h' RZ R1 ht hl eS s' => ?_)
    ·exact hr e _ I E' h' (.part n _ ε w b ai c e c' I J hb hd hc jC ht) he l2 l3 s'
    ·refine hx (c++c') I E' h' RZ R1 (.part n _ ε w b ai c 0 c' I J hb hd hc jC ht) (by grind) eS ?_<;>grind
   |false =>
    refine zK 5 rfl (zc rfl (nF hT (s.ae [4]) (eZ _ _) (by omega)) ?_)
    intro cw h s
    dsimp only[bringA,getA,aK] at s
    obtain⟨wid,_,R3,_,rfl,_⟩:=s.fF (by omega)
    have s:=s.fX
    refine zo rfl (cx rfl (by rw[LX];rfl)) ?_
    obtain⟨rv,h1,tQ,s1⟩:=kj (P:=Tryz.prog) (k:=4) (x:=.agg [.int .i64 n,.int .i64 0,.bool true,.sl wid 0 b.length R3]) s hG nC pR rfl (by decide) (by decide) rfl rfl
    dsimp only[V.cells] at s1
    refine au.any rfl rfl rfl (OpR.of (R:=fun v h'=>v=rv∧h'=h1) (mC rfl tQ) ⟨rfl,rfl⟩) ?_
    rintro v' h' ⟨rfl,rfl⟩
    obtain⟨i1,jX,jd,tK⟩:=tT
    have RY:cs.length=acc.length*4:=by
     obtain⟨a,b,q1,q2,q3⟩:=s1.at (k:=11) rfl
     exact mX q3
    obtain⟨nR,h2,om,s2⟩:=g_ (s1.ae [10,0]) hG jX nC jd (by omega) rfl (by decide) (by grind)
    dsimp only[bringA,getA,aK] at s2
    refine au.any rfl rfl rfl (OpR.of (R:=fun v h'=>v=nR∧h'=h2) (ox rfl rfl om) ⟨rfl,rfl⟩) ?_
    rintro v' h' ⟨rfl,rfl⟩
    refine za rfl (zv (zr rfl (zb rfl (by exact aW (az (by omega) (by omega))) ?_)))
    refine zm rfl (zv ?_)
    have s3:Sat _ (cP cs acc::.c9 (.sl wid 0 b.length R3) b::_):=s2.ae [11,2]
    have s4:=s3.two (C:=cP (cs++[.int .i64 n,.int .i64 0,.bool true,.sl wid 0 b.length R3]) (acc++[⟨n,0,true,b⟩])) (bC.nP _ _) (bC.c9 _ _) fun a b q1 q2=>wZ q1 ⟨⟨⟨rfl,rfl,rfl⟩,q2⟩,aa⟩
    have s5:=bQ.2 ⟨dv,s4.ae [6,6]⟩
    have s6:=eF.2 ⟨nv,s5.ae [6,6]⟩
    have s7:=(((s6.ae [3,2,0,0,2,2,2,2]).del 10).del 9).del 8
    dsimp only[bringA,getA,aK] at s7
    refine ih (i+1) (acc++[⟨n,0,true,b⟩]) _ _ ai _ _ Q (by omega) KE tE (by grind) s7 ⟨rfl,rfl,rfl,rfl,rfl,aa⟩ (fun e c' I E' h' ht he l2 l3 s' => ?_) (fun c' I E' h' RZ R1 ht hl eS s' => ?_)
    ·exact hr e _ I E' h' (.whole n _ ε w b ai e c' I J hb hd ht) he l2 l3 s'
    ·refine hx (⟨n,0,true,b⟩::c') I E' h' RZ R1 (.whole n _ ε w b ai 0 c' I J hb hd ht) (by grind) eS ?_<;>grind
theorem C0 (J:W told)(s:Sat h (eE g a now bX::c7 a p q r op data aE::cL r p q ε.1::bx q p ε.2.1::aJ p ε.2.2::S))(iI:gP ε)(hw:bV ε≤268435456)(I:∀e∈now,e.2.length=512)(hm:now.length≤65536)(hk:∀n∈now.map (·.1),(Lit.int .i64 n).wf=true):
  Call ⟨Tryz.prog,told⟩ 103 [.ptr g 0] h fun v h'=>∃e c ai,jg now (aX now) ε e c ai ∧
   ((e≠0∧v=.aO [.aV,.int .i64 e]∧Sat h' (eE g a now bX::c7 a p q r op data aE::cL r p q ai.1::bx q p ai.2.1::aJ p ai.2.2::S)) ∨
    (e=0∧c.length≤33554432∧∃av cs,v=.aO [av,.int .i64 0]∧Sat h' (.arr 4 av cs::cP cs c::eE g a now bX::c7 a p q r op data aE::cL r p q ai.1::bx q p ai.2.1::aJ p ai.2.2::S))):=by
 have hl:(aX now).length=now.length:=by rw[aX,(eP _).length_eq,eL]
 refine Call.of_wp (J.free _ rfl) Tryz.func103 rfl rfl (zK 13 rfl (zc rfl (yV J s (by omega) hk) ?_))
 intro kv h s
 refine zo rfl (a_ rfl rfl rfl (s.fN (n:=(aX now).length) (j:=0) rfl (by simp[dy]) (by decide) dW)) ?_
 refine zk 2 rfl (WP.block ?_)
 have s1:=(((s.gh aa).mU (k:=4)).j5 fun a b q=>q).ae [0,0,1,1,1,1,1,0]
 refine HV J (ks:=aX now) (now:=now) (by omega) (fun n hn => ?_) I (aX now).length 0 [] .aV [] ε _ _ _ (by omega) iI hw (by simp) s1 ⟨rfl,rfl,rfl,rfl,rfl,aa⟩ (fun e c ai E' h' hr he l2 l3 s' => ?_) (fun c ai E' h' av cs hr jC eS s' => ?_)
 ·have:n∈now.map (·.1):=(eP _).mem_iff.1 hn
  cases hq:lookL n now<;>grind[jw]
 ·exact⟨aa,_,Mq l2 l3,e,c,ai,hr,.inl ⟨he,rfl,s'⟩⟩
 ·have s:=s'
  exact WP.has eS (zK 6 rfl (WP.ret ⟨aa,_,rfl,0,c,ai,hr,.inr ⟨rfl,by omega,_,_,rfl,s⟩⟩))
end
theorem yW {n:Nat}(I:cg b=true): (c_ b n).length=512:=by
 have J:=wV (n:=n) (gI I)
 rw[c_,c5 (by rw[cq];omega),J]
def iO (π:Pl)(n:Int)(b:List Nat)(aD:Nat): Int×Pl :=
 (if (kS π n b aD).1=0 then(unpinF (kS π n b aD).2 n).1 else(kS π n b aD).1,(unpinF (kS π n b aD).2 n).2)
def BI (π:Pl)(n:Int)(i:Nat)(f:Fm)(b:List Nat)(aD:Nat): Pl :=
 { π with ag:=π.ag.set i { f with b:=c_ b aD,changed:=true,pins:=0 },bu:=cW n (gx π n aD,true) π.bu }
theorem w_ (J:lookL n π.aF=some (i:Int))(I:π.ag[i]?=some f)(hp:f.pins=1)(hg:cg b=true): iO π n b aD=(0,BI π n i f b aD):=by
 have h1:=(tR J I hp).1
 have hi:=(List.getElem?_eq_some_iff.1 I).1
 have e1:kS π n b aD=(0,{ π with ag:=π.ag.set i { f with b:=c_ b aD,changed:=true },bu:=cW n (gx π n aD,true) π.bu }):=by
  simp only[kS,h1,I,hg,Bool.true_eq_false,fb]
 have e2:=(tR (π:={ π with ag:=π.ag.set i { f with b:=c_ b aD,changed:=true },bu:=cW n (gx π n aD,true) π.bu }) (n:=n) (f:={ f with b:=c_ b aD,changed:=true }) J (ke hi) hp).2
 simp only[iO,e1,e2,cA,List.set_set]
 rfl
theorem O4 (J:lookL n π.aF=some (i:Int))(I:π.ag[i]?=some f)(hp:f.pins=1)(hg:cg b=false): iO π n b aD=(4,{ π with ag:=π.ag.set i { f with pins:=0 } }):=by
 have h1:=(tR J I hp).1
 have e1:kS π n b aD=(4,π):=by simp only[kS,h1,I,hg,cA]
 have e2:=(tR J I hp).2
 simp only[iO,e1,e2]
 rfl
theorem Vg (h:π.Ok): (kS π n b aD).2.Ok:=by
 unfold kS
 split
 ·exact h
 ·split
  ·exact h
  ·rename_i f J
   have hm:=bJ J
   split
   ·exact h
   ·rename_i I
    have I:cg b=true:=by simpa using I
    exact h.set h.aF (by simp only[yW I];omega) (h.pins f hm)
theorem fI.put {b0:List Nat}(hr:fI ε n 0 b0 ai)(h:gP ε): gP ((iO ai.1 n b aD).2,ai.2)∧Am.bV ((iO ai.1 n b aD).2,ai.2)≤Am.bV ε+1∧(cg b=true→(iO ai.1 n b aD).1=0):=by
 have I:=hr.ok h.ok h.pins
 have J:=(hr.full h.ok.dk h.full).1
 obtain⟨i,f,h1,h2,h3,h4,h5⟩:=hr.at h.pins
 have hm:=bJ h2
 have uV:=hr.bV
 cases hg:cg b with
 |true =>
  rw[w_ h1 h2 h3 hg]
  refine⟨⟨⟨I.pl.set I.pl.aF (by simp only[yW hg];omega) (by simp),I.lg,I.dk⟩,h5 _ rfl,J.set h2 rfl fun _=>yW hg⟩,?_,fun _=>rfl⟩
  have h6:=mA (g:={ f with b:=c_ b aD,changed:=true,pins:=0 }) h2
  simp only[Bool.toNat_true] at h6
  simp only[Am.bV,BI] at uV ⊢
  omega
 |false =>
  rw[O4 h1 h2 h3 hg]
  refine⟨⟨⟨I.pl.set I.pl.aF (I.pl.len f hm) (by simp),I.lg,I.dk⟩,h5 _ rfl,J.set h2 rfl fun hl=>hl⟩,?_,fun h=>by cases h⟩
  have h6:=mA (g:={ f with pins:=0 }) h2
  simp only[Am.bV] at uV h6 ⊢
  omega
inductive PtR (now:List (Int×List Nat))(aD:Nat): List Int→bq→Int→bq→Prop where
 |nil (ε:bq):PtR now aD [] ε 0 ε
 |jG (n:Int) (l:List Int) (ε:bq) (e:Int) (b:List Nat) (ai:bq) (hr:fI ε n e b ai) (he:e≠0):PtR now aD (n::l) ε e ai
 |bad (n:Int) (l:List Int) (ε:bq) (b0 b:List Nat) (ai:bq) (hr:fI ε n 0 b0 ai) (hb:lookL n now=some b) (he:(iO ai.1 n b aD).1≠0):PtR now aD (n::l) ε (iO ai.1 n b aD).1 ((iO ai.1 n b aD).2,ai.2)
 |put (n:Int) (l:List Int) (ε:bq) (b0 b:List Nat) (ai:bq) (e:Int) (lN:bq) (hr:fI ε n 0 b0 ai) (hb:lookL n now=some b) (he:(iO ai.1 n b aD).1=0) (ht:PtR now aD l ((iO ai.1 n b aD).2,ai.2) e lN):PtR now aD (n::l) ε e lN
theorem PtR.kI {l:List Int}(I:PtR now aD l ε e ai)(h:gP ε): gP ai:=by
 induction I with
 |nil ε=>exact h
 |jG n l ε e b ai I he=>exact⟨I.ok h.ok h.pins,I.KD he h.pins,(I.full h.ok.dk h.full).1⟩
 |bad n l ε b0 b ai I hb he=>exact(I.put h).1
 |put n l ε b0 b ai e J I hb he ht ih=>exact ih (I.put h).1
theorem PtR.bV {l:List Int}(I:PtR now aD l ε e ai)(h:gP ε): Am.bV ai≤Am.bV ε+l.length:=by
 induction I with
 |nil ε=>exact aQ _
 |jG n l ε e b ai I he=>have:=I.bV;omega
 |bad n l ε b0 b ai I hb he=>have:=(I.put (b:=b) (aD:=aD) h).2.1;simp only[bn];omega
 |put n l ε b0 b ai e J I hb he ht ih=>have h1:=ih (I.put h).1;have:=(I.put (b:=b) (aD:=aD) h).2.1;simp only[bn];omega
theorem Z4 {k:IntKind}{z:V}(J:T.get h.tr id=some (.map (es.map kU) c))(he:lookE n es=some u)(hu:Tryz.prog.underlying t=some (.map kt et))(hk:Tryz.prog.underlying kt=some (.int k))(hz:zeroT Tryz.prog et=some z):
  dZ Tryz.prog h t (.map id) (.int .i64 n) false=some u:=by
 have hi:=rI (n:=n) es 0
 simp only[dZ,lookupV,hu,hk,hz,J,keyBeq,dR,ah,s_]
 cases I:idxE n es 0 with
 |none=>rw[I] at hi;rw[he] at hi;cases hi
 |some q=>rw[I] at hi;rw[he] at hi;obtain⟨j,w⟩:=q;have:=b6 hi;simp only at this;subst this;rfl
section
variable {told:cC} {p:Nat} {op v:V} {bX:Bool}
noncomputable def dnL : Code:=cm [1,1,1,1,1,1,1,1,0,1,0,0] ((Tryz.f50.body).getD .skip)
theorem O5 (hT:W told){dv:V}{v8:Nat}(Fu:ks.length≤65536)(O3:∀n∈ks,(lookL n now).isSome=true)(uU:∀e∈now,e.2.length=512): ∀(j i:Nat) (ε:bq) (h:H) (E:List (Nat×V)) (Q:Ex→List (Nat×V)→H→Prop),i+j=ks.length →
  gP ε→bV ε+j≤268435456 →
  Sat h (pt g (.cells 3 [.ptr a 0,.map v8,.bool bX] false)::qK v8 es c::eW (fun v b=>.c9 v b) es now::pt a (.cells 6 (CW a p q r op dv aE) false)::cL r p q ε.1::bx q p ε.2.1::aJ p ε.2.2::.arr 1 kv (dy ks)::S) →
  Has E [(0,.ptr g 0),(6,.ptr a 0),(8,.int .u64 (aD:Int)),(73,kv),(74,.int .i64 ks.length),(75,.int .i64 i)] →
  (∀e ai E' h',PtR now aD (ks.drop i) ε e ai→e≠0→look E' 4=some (.int .u64 0)→look E' 5=some (.int .i64 e)→Sat h' (pt g (.cells 3 [.ptr a 0,.map v8,.bool bX] false)::qK v8 es c::eW (fun v b=>.c9 v b) es now::pt a (.cells 6 (CW a p q r op dv aE) false)::cL r p q ai.1::bx q p ai.2.1::aJ p ai.2.2::S)→Q .ret E' h') →
  (∀ai E' h',PtR now aD (ks.drop i) ε 0 ai→Has E' [(8,.int .u64 (aD:Int))]→Sat h' (pt g (.cells 3 [.ptr a 0,.map v8,.bool bX] false)::qK v8 es c::eW (fun v b=>.c9 v b) es now::pt a (.cells 6 (CW a p q r op dv aE) false)::cL r p q ai.1::bx q p ai.2.1::aJ p ai.2.2::S)→Q (.exit 1) E' h') →
  WP ⟨Tryz.prog,told⟩ 118 (.loop dnL) E h Q:=by
 intro j
 induction j with
 |zero =>
  intro i ε h E Q hj I hw s hE hr hx
  refine WP.loop (WP.has hE (zg rfl (zC rfl aT (by simp<;>omega) ?_)))
  refine zk 3 rfl (WP.exit ?_)
  rw[jH (by omega)] at hx
  exact hx ε _ _ (.nil ε) ⟨rfl,aa⟩ (s.del 7)
 |succ j ih =>
  intro i ε h E Q hj I hw s hE hr hx
  have hn:ks[i]?=some (ks[i]'(by omega)):=bw _
  have DT:ks[i]'(by omega)∈ks:=vr _
  have mI:ks.drop i=ks[i]'(by omega)::ks.drop (i+1):=oK (by omega)
  generalize (ks[i]'(by omega))=n at hn DT mI
  have hc:(dy ks)[i]?=some (.int .i64 n):=by simp[dy,hn]
  obtain⟨b,hb⟩:=Option.isSome_iff_exists.1 (O3 n DT)
  have Gk:=uU _ (jE hb)
  simp only at Gk
  rw[mI] at hr hx
  obtain⟨id,off,e1,e2⟩:=iH (P:=Tryz.prog) s (k:=7) rfl hc dW j6
  refine WP.loop (WP.has hE (zg rfl (zB rfl aT (by simp<;>omega) ?_)))
  refine zk 5 rfl (WP.block (zg rfl (zo rfl (cZ (r:=.ptr id off) rfl rfl e1) (zl rfl (e2 _ dV) (zk 7 rfl (zY s 3 nu sD rfl (zm rfl (zc rfl (OM (n:=n) hT (s.ae [4,4,4]) I.ok.pl I.pins I.ok.lg I.ok.dk (by have:=qR (ε:=ε);omega)) ?_))))))))
  rintro v h ⟨e,b0,ai,HW,(⟨he,rfl,s⟩|⟨rfl,u0,rfl,s⟩)⟩
  ·dsimp only[bringA,getA,aK] at s
   refine zk 9 rfl (zB rfl aA (by simp;exact he) ?_)
   exact zk 8 rfl (WP.ret (hr e ai _ _ (.jG n _ ε e b0 ai HW he) he rfl rfl ((s.ae [3,3,3,3,0,0,0]).del 7)))
  ·dsimp only[bringA,getA,aK] at s
   have s:=s.drop
   have R4:=HW.put (b:=b) (aD:=aD) I
   have jD:=HW.ok I.ok I.pins
   refine zk 9 rfl (zC rfl aA (rfl) (zk 4 rfl ?_))
   have s1:Sat h (eW (fun v b=>.c9 v b) es now::_):=s.ae [5]
   obtain⟨_,_,_,_,q3⟩:=s1.at (k:=0) rfl
   rcases sF (n:=n) q3 with⟨_,q4⟩|⟨u,b',g1,g2,_⟩
   ·rw[hb] at q4;cases q4
   rw[hb] at g2
   have:=b6 g2
   subst this
   have s2:=(s1.dup (bC.L4 (fun _ _=>bC.c9 _ _) _ _)).j5 (B:=.c9 u b) fun a' b' h'=>by
    rcases sF (n:=n) h' with⟨_,q4⟩|⟨u',b'',g1',g2',g3'⟩
    ·rw[hb] at q4;cases q4
    ·rw[g1] at g1';rw[hb] at g2'
     have h5:=b6 g1'
     have h6:=b6 g2'
     subst h5;subst h6
     exact g3'
   dsimp only[bringA,getA,aK] at s2
   obtain⟨uid,acv,acw,rfl⟩:=gU (s2.aI (k:=0) rfl (eZ _ _)) (by omega)
   have s:=s2.ae [2,0]
   dsimp only[bringA,getA,aK] at s
   have s0:=s
   refine WP.drawn [af,af,af,af,af,af,af,af,af,af,af,af,af,af] rfl (by kernel_rfl) (by kernel_rfl) ?_
   refine zM rfl (zN rfl (zF rfl (nu _ _) (zL rfl (s.ld (k:=7) rfl sD rfl) (zM rfl (zM rfl (zN rfl (zF rfl (qE _ _) (zL rfl (s.ld (k:=5) rfl mH rfl) (zM rfl (zO rfl (fY rfl rfl (Z4 (s.row (k:=6) rfl) g1 od bF rX)) (zM rfl (ax.any rfl rfl rfl rfl (OpR.call rfl rfl rfl rfl (U5 (n:=n) (aD:=aD) (b:=b) hT s (eZ _ _) jD.pl (by omega))) ?_))))))))))))
   rintro v h ⟨rfl,s⟩
   refine zA rfl ?_
   refine ax.nil ⟨⟨aa,aa,aa,aa,aa,aa,aa,aa,aa,aa,aa,aa,aa,aa,aa⟩,?_⟩
   refine zK 5 rfl (zY s 7 nu sD rfl (zm rfl (zc rfl (HG (n:=n) hT s (Vg jD.pl)) ?_)))
   rintro v h ⟨rfl,s⟩
   refine zk 5 rfl ?_
   by_cases hg:(kS ai.1 n b aD).1=0
   ·have KF:(iO ai.1 n b aD).1=(unpinF (kS ai.1 n b aD).2 n).1:=by simp only[iO,hg,cA]
    have KG:(iO ai.1 n b aD).2=(unpinF (kS ai.1 n b aD).2 n).2:=rfl
    rw[←KF,←KG] at *
    refine zB rfl dh (by simp;exact hg) ?_
    refine zk 9 rfl ?_
    by_cases he:(iO ai.1 n b aD).1=0
    ·skip
     refine zC rfl aA (by simp;exact he) ?_
     refine zv (zj rfl (WP.skip (zr rfl (zb rfl (by exact aW (az (by omega) (by omega))) ?_))))
     refine zm rfl (zv ?_)
     have s9:=(s.ae [5,5,2,4,0,1,1,1]).del 8
     refine ih (i+1) ((iO ai.1 n b aD).2,ai.2) _ _ Q (by omega) R4.1 (by have h9:bV ((iO ai.1 n b aD).2,ai.2)≤bV ε+1:=R4.2.1;omega) s9 ⟨rfl,rfl,rfl,rfl,rfl,rfl,aa⟩ (fun e J E' h' ht Ca l4 l5 s' => ?_) (fun J E' h' ht eS s' => ?_)
     ·exact hr e J E' h' (.put n _ ε b0 b ai e J HW hb he ht) Ca l4 l5 s'
     ·exact hx J E' h' (.put n _ ε b0 b ai 0 J HW hb he ht) eS s'
    ·skip
     refine zB rfl aA (by simp;exact he) ?_
     exact zk 8 rfl (WP.ret (hr _ _ _ _ (.bad n _ ε b0 b ai HW hb he) he rfl rfl (((s.ae [5,5,2,4,0,1,1,1]).del 8).del 7)))
   ·have KF:(iO ai.1 n b aD).1=(kS ai.1 n b aD).1:=by simp only[iO,hg,fb]
    have KG:(iO ai.1 n b aD).2=(unpinF (kS ai.1 n b aD).2 n).2:=rfl
    rw[←KF] at hg
    refine zC rfl dh (by simp;rw[←KF];exact hg) ?_
    refine zk 6 rfl (zB rfl aA (by simp;rw[←KF];exact hg) ?_)
    refine zk 8 rfl (WP.ret (hr _ _ _ _ (.bad n _ ε b0 b ai HW hb hg) hg rfl (by rw[KF];rfl) ?_))
    exact((s.ae [5,5,2,4,0,1,1,1]).del 8).del 7
end
theorem xM.fit {now:List Nat}{l:List cO}(J:xM pg ff now i l)(hn:now.length=512)(h0:0≤pg)(h1:pg<65536): ∀c∈l,c.Ok∧c.b.length≤512:=by
 induction J with
 |done i h=>intro c I;cases I
 |skip i l h he J ih=>exact ih
 |take i e l h2 h3 _ _ J ih =>
  intro c I
  rcases List.mem_cons.1 I with rfl|I
  ·have hl:((now.take e).drop i).length=e-i:=by simp;omega
   refine⟨⟨h0,h1,by simp,by simp only;omega,by simp only[hl];omega,by simp⟩,by simp only[hl];omega⟩
  ·exact ih c I
theorem O1.fit {now:List Nat}{l:List cO}(hr:O1 pg ff now l)(hn:now.length=512)(I:0≤pg)(J:pg<65536): ∀c∈l,c.Ok∧c.b.length≤512:=by
 obtain⟨m,h2,rfl⟩:=hr
 split
 ·intro c hc
  rw[List.mem_singleton.1 hc]
  exact⟨⟨I,J,by simp,by simp,by simp,by simp⟩,by simp⟩
 ·exact h2.fit hn I J
theorem jg.fit {l:List Int}{cs:List cO}(hr:jg now l ε e cs ai)(J:∀x∈now,x.2.length=512)(hl:∀n∈l,0≤n∧n<65536): ∀c∈cs,c.Ok∧c.b.length≤512:=by
 induction hr with
 |nil ε=>intro c hc;cases hc
 |err n l ε e b ai hr he=>intro c hc;cases hc
 |part n l ε ff b ai c e cs lN hr hb hd hc jC ht ih =>
  intro x I
  have hn:=hl n c8
  rcases List.mem_append.1 I with I|I
  ·exact hc.fit (J _ (jE hb)) hn.1 hn.2 x I
  ·exact ih (fun m hm=>hl m (cU _ hm)) x I
 |whole n l ε ff b ai e cs lN hr hb hd ht ih =>
  intro x I
  have hn:=hl n c8
  have hb:=J _ (jE hb)
  rcases List.mem_cons.1 I with rfl|I
  ·exact⟨⟨hn.1,hn.2,by simp,by simp,by simp only at hb ⊢;omega,fun _=>⟨rfl,hb⟩⟩,by simp only at hb ⊢;omega⟩
  ·exact ih (fun m hm=>hl m (cU _ hm)) x I
theorem uD : ∀(f n:Nat),(digits f n).length≤f+1:=by
 intro f
 induction f with
 |zero=>intro n;simp[digits]
 |succ f I =>
  intro n
  unfold digits
  split
  ·simp
  ·have:=I (n/128)
   simp only[bn]
   omega
theorem X4 {c:cO}(I:c.b.length≤512): (jl c).length≤543:=by
 have J:=uD 9 c.bj.toNat
 have h2:=uD 9 c.pos.toNat
 have h3:=uD 9 c.b.length
 simp only[jl,bY,bn,cr]
 omega
theorem Vh : ∀ {l:List cO},(∀c∈l,c.b.length≤512)→(l.flatMap jl).length≤543*l.length:=by
 intro l
 induction l with
 |nil=>intro _;simp
 |cons c l I =>
  intro h
  have h1:=X4 (h c c8)
  have h2:=I fun x J=>h x (cU _ J)
  simp only[qq,bY,bn]
  omega
theorem KH {l:List cO}(hl:l.length≤33554432)(h:∀c∈l,c.Ok∧c.b.length≤512)(J:tx<18446744073709551616)(r_:pv<18446744073709551616)(nQ:nx<18446744073709551616)(hd:data.length≤35184372088832): CN tx pv nx data l:=by
 have h2:=Vh fun c I=>(h c I).2
 refine⟨⟨by omega,fun c I=>by have:=(h c I).2;omega,fun c I => ?_⟩,J,r_,nQ,by omega⟩
 have:=(h c I).1
 simp only[cO.Ok] at this
 omega
theorem BJ {l:List cO}{kd:Int}(I:1≤kd∧kd≤9)(h:∀c∈l,c.Ok∧c.b.length≤512): dN kd l=true:=by
 simp only[dN,bK,gD,vp]
 exact⟨I,fun c J=>(h c J).1⟩
inductive rQ (ε:bq)(now:List (Int×List Nat))(kd:Int)(tx pv nx:Nat)(data:List Nat)(pZ:Nat): Nat→Int→Bool→bq→Prop where
 |arg (h:¬(1≤kd∧kd≤7)∨0<pZ):rQ ε now kd tx pv nx data pZ 0 1 false ε
 |dead (h1:1≤kd) (h2:kd≤7) (h3:pZ=0) (h:ε.2.2.dead=true):rQ ε now kd tx pv nx data pZ 0 9 false ε
 |nP (e:Int) (c:List cO) (ai:bq) (h1:1≤kd) (h2:kd≤7) (h3:pZ=0) (h:ε.2.2.dead=false) (hc:jg now (aX now) ε e c ai) (he:e≠0):rQ ε now kd tx pv nx data pZ 0 e false ai
 |app (c:List cO) (ai:bq) (h1:1≤kd) (h2:kd≤7) (h3:pZ=0) (h:ε.2.2.dead=false) (hc:jg now (aX now) ε 0 c ai) (he:(bk ai.2 kd tx pv nx data c).1.2≠0):rQ ε now kd tx pv nx data pZ 0 (bk ai.2 kd tx pv nx data c).1.2 false (ai.1,(bk ai.2 kd tx pv nx data c).2)
 |put (c:List cO) (ai:bq) (e:Int) (lN:bq) (h1:1≤kd) (h2:kd≤7) (h3:pZ=0) (h:ε.2.2.dead=false) (hc:jg now (aX now) ε 0 c ai) (ha:(bk ai.2 kd tx pv nx data c).1.2=0) (hp:PtR now (bk ai.2 kd tx pv nx data c).1.1 (aX now) (ai.1,(bk ai.2 kd tx pv nx data c).2) e lN) :
   rQ ε now kd tx pv nx data pZ (if e=0 then(bk ai.2 kd tx pv nx data c).1.1 else 0) e true lN
structure uE (ε ai:bq): Prop where
 base:ai.2.1.base=ε.2.1.base
 b:ai.2.1.b=ε.2.1.b
 bh:ai.2.1.bh=ε.2.1.bh
 check:ai.2.1.check=ε.2.1.check
 log:ai.2.2.log=ε.2.2.log
 room:ai.2.2.room=ε.2.2.room
 aM:ai.2.2.aM=ε.2.2.aM
theorem uE.refl (ε:bq): uE ε ε:=⟨rfl,rfl,rfl,rfl,rfl,rfl,rfl⟩
theorem uE.trans {a b c:bq}(x:uE a b)(y:uE b c): uE a c :=
 ⟨y.base.trans x.base,y.b.trans x.b,y.bh.trans x.bh,y.check.trans x.check,y.log.trans x.log,y.room.trans x.room,y.aM.trans x.aM⟩
theorem nK : δ.fP.2.log=δ.log∧δ.fP.2.room=δ.room∧δ.fP.2.aM=δ.aM:=by
 unfold Dk.fP
 split
 ·simp
 ·split<;>exact⟨rfl,rfl,rfl⟩
theorem xb : (δ.dx n b).2.log=δ.log∧(δ.dx n b).2.room=δ.room∧(δ.dx n b).2.aM=δ.aM:=by
 unfold Dk.dx
 split
 ·simp
 ·split
  ·simp
  ·split<;>exact⟨rfl,rfl,rfl⟩
theorem yX {x:LD}{n:Nat}: uE (π,x) (π,(bG x n).2):=by
 unfold bG
 split
 ·exact uE.refl _
 ·split
  ·exact⟨rfl,rfl,rfl,rfl,nK.1,nK.2.1,nK.2.2⟩
  ·exact⟨rfl,rfl,rfl,rfl,nK.1,nK.2.1,nK.2.2⟩
theorem uE.to (h:uE ε ai): uE ε (π,ai.2):=⟨h.base,h.b,h.bh,h.check,h.log,h.room,h.aM⟩
structure lG (R:LD→Prop): Prop where
 force:∀(x:LD) (n:Nat),R x→R (bG x n).2
 write:∀(x:LD) (n:Int) (b:List Nat),R x→R (x.1,(x.2.dx n b).2)
section
variable {bX:Bool} {l:List Int} {cs:List cO}
theorem lG.out (h:lG R)(I:R ε.2): R (outF ε i).2.2:=by
 unfold outF
 split
 ·exact I
 ·split
  ·exact I
  ·split
   ·exact I
   ·split
    ·exact h.force _ _ I
    ·split
     ·exact h.write _ _ _ (h.force _ _ I)
     ·exact h.write _ _ _ (h.force _ _ I)
theorem lG.jG (h:lG R)(I:fI ε n e b ai)(J:R ε.2): R ai.2:=by
 cases I<;>grind[out]
theorem lG.rd (h:lG R)(I:mK ε n e b ai)(J:R ε.2): R ai.2:=by
 cases I<;>grind[jG]
theorem lG.yY (h:lG R)(J:GRd ε now bX n e b ai)(I:R ε.2): R ai.2:=by
 cases J with
 |arg hn=>exact I
 |bX _ _ _=>exact I
 |own b h1 h2 _ hl=>exact I
 |read e b ai h1 h2 _ hl J=>exact h.rd J I
theorem lG.O6 (h:lG R)(I:tS ε now bX n b e dw ai)(J:R ε.2): R ai.2:=by
 cases I with
 |may e c ai I he=>exact h.yY I J
 |bad c ai I hg=>exact h.yY I J
 |done c ai I hg=>exact h.yY I J
theorem lG.ch (h:lG R)(I:jg now l ε e cs ai): R ε.2→R ai.2:=by
 induction I with
 |nil ε=>simp
 |err n l ε e b ai I he=>exact h.rd I
 |part n l ε ff b ai c e cs J I hb hd hc jC ht ih=>exact fun hx=>ih (h.rd I hx)
 |whole n l ε ff b ai e cs J I hb hd ht ih=>exact fun hx=>ih (h.rd I hx)
theorem lG.pt (h:lG R)(I:PtR now aD l ε e ai): R ε.2→R ai.2:=by
 induction I<;>grind[jG]
theorem O7 (ε:bq): lG fun y=>uE ε (ε.1,y) :=
 ⟨fun _ _ h=>h.trans yX,fun _ _ _ h=>h.trans ⟨rfl,rfl,rfl,rfl,xb.1,xb.2.1,xb.2.2⟩⟩
theorem jg.same (I:jg now l ε e cs ai): uE ε ai:=((O7 ε).ch I (uE.refl ε)).to
end
theorem R5 {m:Nat}: ∀ {l:List Nat},l.Pairwise (· < ·)→(∀s∈l,s<m)→l.length≤m:=by
 intro l I J
 have key:∀(l:List Nat) (k:Nat),l.Pairwise (· < ·)→(∀s∈l,k≤s∧s<m)→k+l.length≤m∨l=[]:=by
  intro l
  induction l with
  |nil=>simp
  |cons x l ih =>
   intro k I J
   simp only[sK] at I
   have hx:=J x c8
   rcases ih (x+1) I.2 (fun s hs=>⟨I.1 s hs,(J s (cU _ hs)).2⟩) with h|rfl<;>grind
 rcases key l 0 I (fun s hs=>⟨gR _,J s hs⟩) with h|rfl
 ·omega
 ·simp
theorem gW (x:LD)(kd:Int)(tx pv nx:Nat)(data:List Nat)(c:List cO):
  (∃e:Int,e≠0∧((e=1∧dN kd c=false)∨(e=2∧1048576<(cI kd tx pv nx data c).length)∨(e=9∧x.2.dead=true)∨(e=7∧x.2.room<x.2.log.length+(dF x.1 kd tx pv nx data c).length))∧bk x kd tx pv nx data c=((0,e),x)) ∨
  (x.2.dead=false∧x.2.aU=0∧bk x kd tx pv nx data c=((0,9),(x.1,{ x.2.die with tail:=dF x.1 kd tx pv nx data c }))) ∨
  (dN kd c=true∧(cI kd tx pv nx data c).length≤1048576∧x.2.dead=false∧x.2.log.length+(dF x.1 kd tx pv nx data c).length≤x.2.room∧x.2.aU≠0 ∧
   bk x kd tx pv nx data c=((x.1.base+x.1.b.length,0),(x.1.app (dF x.1 kd tx pv nx data c),{ x.2.dc with log:=x.2.log++dF x.1 kd tx pv nx data c }))):=by
 by_cases I:dN kd c=false
 ·grind[bk]
 ·by_cases J:1048576<(cI kd tx pv nx data c).length
  ·grind[bk]
  ·by_cases hd:x.2.dead=true
   ·grind[Dk.qO,bk]
   grind[Dk.qO,bk]
theorem uW {x:LD}{kd:Int}{c:List cO}(J:x.1.Ok)(I:x.2.Ok)(hs:x.1.b=x.2.log)(hz:x.1.base+x.1.b.length+1048584≤1099511627776):
  (bk x kd tx pv nx data c).2.1.Ok∧(bk x kd tx pv nx data c).2.2.Ok∧(bk x kd tx pv nx data c).2.1.b=(bk x kd tx pv nx data c).2.2.log∧(bk x kd tx pv nx data c).2.1.base=x.1.base∧(bk x kd tx pv nx data c).2.1.b.length≤x.1.b.length+1048584 ∧
  (bk x kd tx pv nx data c).2.2.waiting=x.2.waiting∧(bk x kd tx pv nx data c).1.1<1099511627776:=by
 have hlen:(dF x.1 kd tx pv nx data c).length=8+(cI kd tx pv nx data c).length:=jY _ _
 rcases gW x kd tx pv nx data c with⟨e,_,_,h⟩|⟨hd,hf,h⟩|⟨hg,hb,hd,fu,hf,h⟩
 ·grind
 ·rw[h];exact⟨J,⟨I.aU,I.len,I.room,I.now,I.aM,I.bL,I.many⟩,hs,rfl,vt _ _,rfl,by simp⟩
 ·rw[h]
  generalize dF x.1 kd tx pv nx data c=rc at hlen fu
  have HX:=I.room
  have jT:x.1.b.length=x.2.log.length:=by rw[hs]
  have hl:(x.1.b++rc).length=x.1.b.length+rc.length:=bY
  have iQ:(x.2.log++rc).length=x.2.log.length+rc.length:=bY
  refine⟨⟨?_,?_,?_,?_,?_,?_,J.check⟩,⟨I.dc.aU,?_,I.room,I.now,I.aM,?_,I.many⟩,?_,rfl,?_,rfl,?_⟩
  ·show x.1.base+(x.1.b++rc).length≤_;omega
  ·have h1:=R5 J.wW J.low
   show(x.1.bh++[x.1.b.length]).length≤_
   grind
  ·intro s hm
   show s<(x.1.b++rc).length
   rcases List.mem_append.1 (show s∈x.1.bh++[x.1.b.length] from hm) with hm|hm
   ·have:=J.low s hm;omega
   ·grind
  ·show(x.1.bh++[x.1.b.length]).Pairwise (·< ·)
   rw[List.pairwise_append]
   refine⟨J.wW,List.pairwise_singleton _ _,fun a ha b hb => ?_⟩
   rw[List.mem_singleton.1 hb]
   exact J.low a ha
  ·have:=J.forced
   show x.1.forced≤(x.1.b++rc).length;omega
  ·show(x.1.b++rc).length≤_;omega
  ·grind
  ·have:=I.bL
   show x.2.bL≤(x.2.log++rc).length;omega
  ·show x.1.b++rc=x.2.log++rc;rw[hs]
  ·show(x.1.b++rc).length≤_;omega
  ·grind
theorem wf_i64 (I:0≤n)(J:n<4294967296): (Lit.int .i64 n).wf=true:=by
 simp only[Lit.wf,bK,gD]
 have e1:IntKind.min .i64 = -9223372036854775808:=rfl
 have e2:IntKind.max .i64=9223372036854775807:=rfl
 omega
theorem KI {kd:Int}{ch:V}(hd:dt.beq dt=true)(I:ch.beq ch=true): (V.agg (dK kd tx pv nx dt ch)).beq (V.agg (dK kd tx pv nx dt ch))=true:=by
 simp only[dK,V.beq,V.beqL,hd,I,dR,nD,decide_true,iX,ah]
section
variable {told:cC} {p:Nat} {op v:V} {bX:Bool}
theorem KJ (hT:W told){kd:Int}{pZ:Nat}{ch:V}{ccs:List V}(s:Sat h (eE g a now false::c7 a p q r (.ptr g 0) cM aE::cL r p q ε.1::bx q p ε.2.1::aJ p ε.2.2::X::.arr 4 ch ccs::S))(hX:cD X (cE dt data))(Og:ccs.length=pZ*4)(iI:gP ε)(hw:bV ε+65536≤268435456)
 (uU:∀e∈now,e.2.length=512)(hm:now.length≤65536)(hk:∀n∈now.map (·.1),0≤n∧n<65536)(qi:tx<18446744073709551616)(r_:pv<18446744073709551616)(nQ:nx<18446744073709551616)(hd:data.length≤35184372088832)(Mr:ε.2.1.b=ε.2.2.log)(hz:ε.2.1.base+ε.2.1.b.length+1048584≤1099511627776):
  Call ⟨Tryz.prog,told⟩ 50 [.ptr g 0,.agg (dK kd tx pv nx dt ch)] h fun v h'=>∃aD e cl ai,rQ ε now kd tx pv nx data pZ aD e cl ai∧v=.aO [.int .u64 (aD:Int),.int .i64 e] ∧
   Sat h' (eE g a now cl::c7 a p q r (cond cl .aZ (.ptr g 0)) cM aE::cL r p q ai.1::bx q p ai.2.1::aJ p ai.2.2::X::S):=by
 have nW:∀n∈now.map (·.1),(Lit.int .i64 n).wf=true:=fun n hn=>by
  have:=hk n hn
  exact wf_i64 (by omega) (by omega)
 have oo:=s.jk (j:=6) rfl
 have iJ:=s.aI (k:=5) rfl hX
 have fW:=lF (kd:=kd) (tx:=tx) (pv:=pv) (nx:=nx) iJ.cells.2 oo.2.1
 have hlen:=s.fN (n:=pZ) (j:=6) rfl Og (by decide) hG
 have s0:=s
 obtain⟨nv,s⟩:=eF.1 s
 refine Call.of_wp (hT.free _ rfl) Tryz.func50 rfl rfl (zg rfl (au.bP s rfl rfl rfl (dG rfl fW) ?_))
 intro p1 h s
 dsimp only[V.cells] at s
 have s:Sat h (pt p1 (.cells 6 (dK kd tx pv nx dt ch) false)::_):=s
 have hlen:=s.fN (n:=pZ) (j:=8) rfl Og (by decide) hG
 refine zk 7 rfl (zY s 1 oZ lB rfl (zk 3 rfl (WP.block (zK 4 rfl (zf rfl (AA _ _) (zh rfl (aH rfl (s.ld (k:=1) rfl lK rfl)) (rfl) (zk 5 rfl (zY s 0 oW dV rfl ?_))))))))
 have fin:∀e:Int,Sat h (eE g a now false::c7 a p q r (.ptr g 0) cM aE::cL r p q ε.1::bx q p ε.2.1::aJ p ε.2.2::X::S):=fun e=>((eF.2 ⟨nv,s.ae [1,1]⟩).del 7).del 1
 refine zd rfl (aq rfl rfl aT) ?_ ?_
 ·intro hq
  have hq:kd<1:=by simpa using hq
  exact zk 19 rfl (WP.ret ⟨aa,_,rfl,0,1,false,ε,.arg (.inl (by omega)),rfl,fin 0⟩)
 ·intro hq
  have hq:1≤kd:=by simp at hq;omega
  refine zm rfl (zY s 0 oW dV rfl ?_)
  refine zd rfl (aq rfl rfl er) ?_ ?_
  ·intro J
   have J:7<kd:=by simpa using J
   exact zk 15 rfl (WP.ret ⟨aa,_,rfl,0,1,false,ε,.arg (.inl (by omega)),rfl,fin 0⟩)
  ·intro J
   have J:kd≤7:=by simp at J;omega
   refine zk 2 rfl (zY s 0 ja pO rfl (zo rfl (a_ rfl rfl rfl hlen) ?_))
   refine zd rfl (aq rfl rfl er) ?_ ?_
   ·intro I
    have I:0<pZ:=by simp at I;omega
    exact zk 9 rfl (WP.ret ⟨aa,_,rfl,0,1,false,ε,.arg (.inr I),rfl,fin 0⟩)
   ·intro I
    have I:pZ=0:=by simp at I;omega
    obtain⟨dv,s⟩:=bQ.1 (s.ae [3])
    dsimp only[bringA,getA,aK] at s
    refine zk 8 rfl (zY s 0 qz jt rfl (zc rfl (wU hT (s.ae [7])) ?_))
    rintro v h ⟨rfl,rfl⟩
    refine zk 2 rfl ?_
    cases EM:ε.2.2.dead with
    |true =>
     refine zK 6 rfl (WP.ret ⟨aa,_,rfl,?_⟩)
     have s9:=eF.2 ⟨nv,(bQ.2 ⟨dv,s⟩).ae [2,2]⟩
     dsimp only[bringA,getA,aK] at s9
     exact⟨0,9,false,ε,.dead hq J I EM,rfl,(s9.del 7).del 2⟩
    |false =>
     refine zj rfl (WP.skip (zg rfl (za rfl (zv (zw (zg rfl (zm rfl ?_)))))))
     have s9:=eF.2 ⟨nv,(bQ.2 ⟨dv,s⟩).ae [2,2]⟩
     dsimp only[bringA,getA,aK] at s9
     have s:=s9.ae [0,0,1,1,1]
     dsimp only[bringA,getA,aK] at s
     refine zc rfl (C0 hT s iI (by omega) uU hm nW) ?_
     rintro v h ⟨e,c,ai,hc,(⟨he,rfl,s⟩|⟨rfl,jC,av,cs,rfl,s⟩)⟩
     ·refine au.op rfl rfl rfl (aS rfl) ?_
      refine zk 2 rfl (zf rfl (ja _ _) ?_)
      refine zS rfl (by exact s.dO (k:=5) rfl Aq rfl (by decide) rfl rfl) (fun h s => ?_)
      dsimp only[dK,Nat.reduceAdd,List.set,setA] at s
      refine zk 5 rfl (zB rfl aA (by simp;exact he) ?_)
      exact zk 8 rfl (WP.ret ⟨aa,_,rfl,0,e,false,ai,.nP e c ai hq J I EM hc he,rfl,(s.del 7).del 5⟩)
     ·have xN:=s.jk (j:=0) rfl
      have C1:=hc.kI iI
      have hcp:=hc.bV
      have CO:=hc.same
      have X5:=uW (x:=ai.2) (kd:=kd) (tx:=tx) (pv:=pv) (nx:=nx) (data:=data) (c:=c) C1.ok.lg C1.ok.dk (by rw[CO.b,CO.log];exact Mr) (by rw[CO.base,CO.b];exact hz)
      have fu:=hc.fit uU fun n hn=>hk n ((eP _).mem_iff.1 hn)
      refine zk 3 rfl (zf rfl (ja _ _) (zS rfl (s.dO (k:=7) rfl Aq rfl (show 0+5<6 by decide) xN.1 xN.2.1) ?_))
      intro h s
      dsimp only[dK,Nat.reduceAdd,List.set,setA] at s
      refine zk 5 rfl (zC rfl aA (rfl) ?_)
      obtain⟨dv,s⟩:=bQ.1 (s.ae [3])
      dsimp only[bringA,getA,aK] at s
      have s:=s.ae [6,6,7,2,2,0,3]
      dsimp only[bringA,getA,aK] at s
      refine zv (zj rfl (WP.skip (zw ?_)))
      have s0:=s
      have aa4:=eM iJ
      have hrb:=KI (kd:=kd) (tx:=tx) (pv:=pv) (nx:=nx) aa4 xN.2.2
      refine WP.drawn [af,af,af,af,af,af,af,af,af,af,af] rfl (by kernel_rfl) (by kernel_rfl) ?_
      refine zM rfl (zN rfl (zF rfl (iq _ _) (zL rfl (s.ld (k:=5) rfl j9 rfl) (zL rfl (s.cK (k:=6) rfl ju fe) (ax.any rfl rfl rfl rfl (OpR.call rfl rfl rfl rfl (HD (kd:=kd) (tx:=tx) (pv:=pv) (nx:=nx) hT s hX (KH jC fu qi r_ nQ hd) C1.ok.lg C1.ok.dk)) ?_)))))
      rintro v h ⟨rfl,s⟩
      refine zM rfl (zO rfl (dU rfl rfl) (zO rfl (dU rfl rfl) (zA rfl (zA rfl ?_))))
      refine ax.nil ⟨⟨aa,aa,aa,aa,aa,aa,aa,aa,aa,aa,aa,aa⟩,?_⟩
      refine zK 4 rfl ?_
      have s9:=bQ.2 ⟨dv,s.ae [5,6]⟩
      have s:=((((s9.ae [7,0,6,0,0,0]).del 9).del 8).del 7).del 6
      by_cases he:(bk ai.2 kd tx pv nx data c).1.2=0
      ·skip
       refine zC rfl aA (by simp;exact he) ?_
       refine zk 6 rfl (zc rfl (O0 hT s) ?_)
       rintro v h ⟨rfl,s⟩
       obtain⟨nv,s⟩:=eF.1 s
       obtain⟨v8,rfl⟩:=yF s (j:=1) rfl
       refine zk 6 rfl (zY s 0 qE mH rfl (zc rfl (BH hT s) ?_))
       rintro v h ⟨kb,rfl,s⟩
       refine zc rfl (rL hT (s.ae [0,1]) (by decide) (by omega) nW) ?_
       intro kv h s
       have hl:(aX now).length=now.length:=by rw[aX,(eP _).length_eq,eL]
       refine zo rfl (a_ rfl rfl rfl (s.fN (n:=(aX now).length) (j:=0) rfl (by simp[dy]) (by decide) dW)) ?_
       refine zk 2 rfl (WP.block ?_)
       obtain⟨acy,es,clock,R6,hb,nX,s⟩:=iT.1 (s.ae [2])
       injection R6 with R6
       subst R6
       obtain⟨dv,s⟩:=bQ.1 (s.ae [5])
       have s:=s.ae [6,2,2,0,3,3,3,1]
       refine O5 (op:=.aZ) (dv:=dv) hT (ks:=aX now) (now:=now) (aD:=(bk ai.2 kd tx pv nx data c).1.1) (by omega) (fun n hn => ?_) uU (aX now).length 0 (ai.1,(bk ai.2 kd tx pv nx data c).2) _ _ _ (by omega) ?_ ?_ s ⟨rfl,rfl,rfl,rfl,rfl,rfl,aa⟩ (fun e lN E' h' hp Ca l4 l5 s' => ?_) (fun lN E' h' hp eS s' => ?_)
       ·have:n∈now.map (·.1):=(eP _).mem_iff.1 hn
        cases hq:lookL n now with
        |some _=>rfl
        |none=>exact absurd this (jw.1 hq)
       ·exact⟨⟨C1.ok.pl,X5.1,X5.2.1⟩,C1.pins,C1.full⟩
       ·have e1:bV (ai.1,(bk ai.2 kd tx pv nx data c).2)=bV ai:=by simp only[bV,X5.2.2.2.2.2.1]
        rw[e1,hl];omega
       ·rw[gE] at hp
        have e4:look E' 4=some (.int .u64 ((0:Nat):Int)):=l4
        refine⟨aa,_,Mq e4 l5,0,e,true,lN,?_,rfl,?_⟩
        ·have:=rQ.put (data:=data) c ai e lN hq J I EM hc he hp
         rwa [aj Ca] at this
        ·have s3:=bQ.2 ⟨dv,s'.ae [3,6]⟩
         have s4:=iT.2 ⟨v8,es,clock,rfl,hb,nX,s3.ae [2,2]⟩
         exact eF.2 ⟨.map v8,(s4.ae [2,0,0,0,0,0,1]).del 7⟩
       ·rw[gE] at hp
        have s:=s'
        refine WP.has eS (zK 6 rfl (WP.ret ⟨aa,_,rfl,?_⟩))
        refine⟨_,0,true,lN,?_,rfl,?_⟩
        ·have:=rQ.put (data:=data) c ai 0 lN hq J I EM hc he hp
         exact this
        ·have s3:=bQ.2 ⟨dv,s.ae [3,6]⟩
         have s4:=iT.2 ⟨v8,es,clock,rfl,hb,nX,s3.ae [2,2]⟩
         dsimp only[bringA,getA,aK] at s4
         exact eF.2 ⟨.map v8,(s4.ae [2,0,0,0,0,0,1]).del 7⟩
      ·skip
       refine zB rfl aA (by simp;exact he) ?_
       exact zk 8 rfl (WP.ret ⟨aa,_,rfl,0,_,false,_,.app c ai hq J I EM hc he,rfl,s⟩)
end
def Lg.fresh : Lg:={ base:=1,b:=[],bh:=[],forced:=0,check:=0 }
theorem Gm {b t:Nat}{p v w:V}(I:look E a=some p)(hd:loadV P h t p=some v)(J:look E b=some w)(h3:look E c=some x): resLE P E h [.cell a t,.tmp b,.tmp c]=some (.aO [v,w,x]):=by
 simp only[resLE,mapO,resE,I,hd,J,h3]
section
variable {told:cC} {p:Nat} {op v:V} {bX:Bool}
theorem JK (hT:W told)(s:Sat h (aJ p δ::S))(hd:δ.dead=false)(hm:δ.mark=[])(hl:δ.log=[])(hc:δ.bL=0):
  Call ⟨Tryz.prog,told⟩ 63 [.ptr p 0] h fun v h'=>∃q,v=.aO [.ptr q 0,.int .i64 0]∧Sat h' (bx q p Lg.fresh::aJ p δ::S):=by
 refine Call.of_wp (hT.free _ rfl) Tryz.func63 rfl rfl (zK 8 rfl (zc rfl (L_ hT s (by rw[hm];decide)) ?_))
 rintro v h (⟨I,_,_⟩|⟨_,b0,rfl,s⟩)
 ·rw[hd] at I;cases I
 rw[hm] at s
 refine zk 10 rfl (zC rfl aA (rfl) (zk 6 rfl (zo rfl (cx rfl (by rw[Zq];rfl)) ?_)))
 refine au.bP s rfl rfl rfl (dG rfl rfl) (fun p23 h s => ?_)
 dsimp only[V.cells,List.take,List.length_cons,List.length_nil,Nat.reduceAdd,List.drop,List.cons_append,List.nil_append] at s
 refine zk 7 rfl ?_
 have s:=s.ae [2,0,0]
 dsimp only[bringA,getA,aK] at s
 refine zc rfl (US hT s (by rw[hl];decide)) ?_
 rintro v h (⟨I,_,_⟩|⟨_,b1,rfl,s⟩)
 ·rw[hd] at I;cases I
 rw[hl] at s
 have hv:=(s.buf (k:=0) rfl).view.cells
 refine zk 4 rfl (zf rfl (jb _ _) (zS rfl (s.dO (k:=2) rfl iF rfl (by decide) hv.1 hv.2) ?_))
 intro h s
 dsimp only[Nat.reduceAdd,List.set,setA] at s
 refine za rfl (zv (zg rfl (zm rfl (zh rfl (aq rfl rfl aA) (rfl) (zv (zj rfl (WP.skip (zw (zg rfl (zm rfl (zo rfl (a_ rfl rfl rfl (by exact bA aN (s.aI (k:=3) rfl (aY _ _)))) ?_)))))))))))
 refine zv (WP.block (zg rfl (zt rfl (aq rfl rfl dh) (rfl) (za rfl (zv (zi rfl (WP.skip (zg rfl (za rfl (zv (zw (WP.block (WP.loop (zw (zg rfl (zk 3 rfl (zf rfl (jb _ _) (zl rfl (by exact s.ld (k:=2) rfl b8 rfl) ?_))))))))))))))))))
 refine zo rfl (a_ rfl rfl rfl (bA aN (s.aI (k:=0) rfl (aY _ _)))) (zC rfl aT (rfl) (zk 2 rfl (WP.exit (zK 6 rfl (zY s 2 jb b8 rfl (zo rfl (a_ rfl rfl rfl (bA aN (s.aI (k:=0) rfl (aY _ _)))) (zC rfl aT (rfl) (zk 5 rfl ?_))))))))
 have s0:=s
 have J:=eM (s.buf (k:=0) rfl).view
 refine WP.drawn [none,none,some (0,2),some (0,2),some (0,2),some (0,2),some (0,2),none] rfl (by kernel_rfl) (by kernel_rfl) ?_
 refine zM rfl (ax.any rfl rfl rfl rfl (OpR.call rfl rfl rfl rfl (Jq hT (s.ae [1]))) ?_)
 rintro v h' ⟨rfl,rfl⟩
 refine zM rfl (zN rfl (zF rfl (jb _ _) (zL rfl (s.ld (k:=2) rfl b8 rfl) (zO rfl (a_ rfl rfl rfl (bA aN (s.aI (k:=0) rfl (aY _ _)))) (ax.mG rfl rfl rfl rfl (aq rfl rfl aT) (by rw[show δ.Hu=0 from hc];rfl) ?_)))))
 refine ax.nil ⟨⟨aa,aa,fun _ _=>.inr ⟨rfl,⟨_,aS rfl⟩,aB _ rfl⟩,fun _ _=>.inr ⟨rfl,⟨_,iL rfl⟩,aB _ rfl⟩,fun _ _=>.inr ⟨rfl,⟨_,g8 rfl (jb _ _)⟩,aB _ rfl⟩,dJ (.inr ⟨rfl,⟨_,aH rfl (s0.ld (k:=2) rfl b8 rfl)⟩,J⟩) (.inr ⟨rfl,⟨_,aH rfl (s.ld (k:=2) rfl b8 rfl)⟩,J⟩),dJ (.inr ⟨rfl,⟨_,a_ rfl rfl rfl (bA aN (s0.aI (k:=0) rfl (aY _ _)))⟩,aB _ rfl⟩) (.inr ⟨rfl,⟨_,a_ rfl rfl rfl (bA aN (s.aI (k:=0) rfl (aY _ _)))⟩,aB _ rfl⟩),aa,aa⟩,?_⟩
 refine zK 7 rfl (zY s 2 jb b8 rfl (zo rfl (a_ rfl rfl rfl (bA aN (s.aI (k:=0) rfl (aY _ _)))) (zn rfl (zf rfl (sY _ _) ?_))))
 refine zS rfl (by exact s.dO (k:=2) rfl j6 rfl (by decide) rfl rfl) (fun h s => ?_)
 refine zk 7 rfl (WP.ret ⟨aa,_,rfl,?_⟩)
 have s1:=(s.del 3).mU (k:=1)
 refine⟨_,rfl,dm.2 ⟨b1,.aV,?_⟩⟩
 exact s1.ae [3,1,0]
theorem Fy (J:W told)(s:Sat h (bx q p μ::S))(I:μ.Ok): Call ⟨Tryz.prog,told⟩ 66 [.ptr q 0,.int .u64 ((μ.base:Int)+(μ.b.length:Int))] h fun v h'=>v=.aO [.agg (dK 0 0 0 0 .aV .aV),.int .u64 0,.int .i64 17]∧Sat h' (bx q p μ::S):=by
 refine Call.of_wp (J.free _ rfl) HK rfl rfl (zg rfl ?_)
 refine au.bP s rfl rfl rfl (bR pP) (fun p4 h s => ?_)
 refine zk 4 rfl (WP.block (zK 4 rfl ?_))
 have s:=s.ae [1]
 refine zc rfl (nG J s I.size) ?_
 rintro v h' ⟨rfl,rfl⟩
 refine zB rfl dh (by simp) ?_
 refine zk 5 rfl (zo rfl (cx rfl (by rw[sC];rfl)) ?_)
 refine zS rfl (s.fM (j:=1) rfl fe rfl rfl) (fun h s => ?_)
 refine zk 3 rfl ?_
 refine WP.ret ⟨aa,_,Gm rfl (s.cK (k:=1) rfl ju fe) rfl rfl,?_⟩
 exact⟨rfl,s.del 1⟩
theorem R7 (J:W told){n:Nat}(s:Sat h (bx q p μ::S))(I:μ.Ok)(hn:n<18446744073709551616)(nM:n≠μ.base+μ.b.length)(AX:μ.hasB n=false): Call ⟨Tryz.prog,told⟩ 66 [.ptr q 0,.int .u64 (n:Int)] h fun v h'=>v=.aO [.agg (dK 0 0 0 0 .aV .aV),.int .u64 0,.int .i64 1]∧Sat h' (bx q p μ::S):=by
 refine Call.of_wp (J.free _ rfl) HK rfl rfl (zg rfl ?_)
 refine au.bP s rfl rfl rfl (bR pP) (fun p4 h s => ?_)
 refine zk 4 rfl (WP.block (zK 4 rfl ?_))
 have s:=s.ae [1]
 refine zc rfl (nG J s I.size) ?_
 rintro v h' ⟨rfl,rfl⟩
 refine zC rfl dh (by simp;omega) ?_
 refine zk 7 rfl (zc rfl (AJ (n:=n) J s I hn) ?_)
 rintro v h' ⟨rfl,rfl⟩
 refine zo rfl (dM rfl rfl) (zk 2 rfl (WP.LN rfl (by rw[AX];rfl) ?_))
 refine zg rfl (zo rfl (cx rfl (by rw[sC];rfl)) ?_)
 refine zS rfl (s.fM (j:=1) rfl fe rfl rfl) (fun h s => ?_)
 refine zk 3 rfl ?_
 refine WP.ret ⟨aa,_,Gm rfl (s.cK (k:=1) rfl ju fe) rfl rfl,?_⟩
 exact⟨rfl,s.del 1⟩
theorem Ms (hT:W told){n:Nat}(s:Sat h (bx q p μ::S))(J:μ.Ok)(hn:n<18446744073709551616)(I:n=μ.base+μ.b.length∨μ.hasB n=false): Call ⟨Tryz.prog,told⟩ 66 [.ptr q 0,.int .u64 (n:Int)] h fun v h'=>∃e:Int,e≠0∧v=.aO [.agg (dK 0 0 0 0 .aV .aV),.int .u64 0,.int .i64 e]∧Sat h' (bx q p μ::S):=by
 by_cases he:n=μ.base+μ.b.length
 ·have:=Fy hT s J
  rw[show((μ.base:Int)+(μ.b.length:Int))=((n:Nat):Int) by omega] at this
  exact this.mono fun v h' ⟨h1,h2⟩=>⟨17,by decide,h1,h2⟩
 ·rcases I with I|I
  ·exact absurd I he
  ·exact(R7 hT s J hn he I).mono fun v h' ⟨h1,h2⟩=>⟨1,by decide,h1,h2⟩
end
section
variable {told:cC} {p:Nat} {op v:V} {bX:Bool}
theorem Mt (I:W told){n:Nat}(s:Sat h (c7 a p q r op data aE::bx q p μ::S))(J:μ.Ok)(hn:n<18446744073709551616)(AX:n=μ.base+μ.b.length∨μ.hasB n=false):
  Call ⟨Tryz.prog,told⟩ 69 [.ptr a 0,.int .u64 (n:Int)] h fun v h'=>v=.int .i64 0∧Sat h' (c7 a p q r op data aE::bx q p μ::S):=by
 obtain⟨dv,s⟩:=bQ.1 s
 refine Call.of_wp (I.free _ rfl) Tryz.func69 rfl rfl (zK 6 rfl ?_)
 refine au.yC s rfl rfl rfl rfl (fun p18 h s => ?_)
 refine au.yC s rfl rfl rfl rfl (fun p19 h s => ?_)
 refine zo rfl (cx rfl (by rw[ZM];rfl)) ?_
 refine au.bP s rfl rfl rfl (dG rfl rfl) (fun p21 h s => ?_)
 refine zk 5 rfl (zo rfl (sB rfl rfl) (zk 8 rfl (WP.block (WP.loop (WP.block (zK 4 rfl (zY s 3 iq j9 rfl (zm rfl ?_))))))))
 have s1:=s.ae [5]
 refine zc rfl (Ms (n:=n) I s1 J hn AX) ?_
 rintro v h ⟨e,he,rfl,s⟩
 refine zk 4 rfl ?_
 refine au.bP s rfl rfl rfl (bR pP) (fun p8 h s => ?_)
 refine zS rfl (s.fM (j:=0) rfl fe rfl rfl) (fun h s => ?_)
 refine zk 7 rfl (zB rfl aA (by simp;exact he) ?_)
 have s:=qM (f:=fun v (b:List Nat)=>.c9 v b) (s.ae [4])
 refine zk 2 rfl (WP.exit (zK 5 rfl (zY s 3 Kr mH rfl (zc rfl (BH I s) ?_))))
 rintro v h ⟨kb,rfl,s⟩
 refine zc rfl (rL I s (by decide) (by decide) (by simp)) ?_
 intro kv h s
 refine zo rfl (a_ rfl rfl rfl (s.fN (n:=0) (j:=0) rfl rfl (by decide) dW)) ?_
 exact zk 2 rfl (WP.block (WP.loop (zg rfl (zC rfl aT (rfl) (zk 3 rfl (WP.exit (zK 5 rfl (zY s 5 Kr mH rfl (zo rfl (a_ rfl rfl rfl (Bu (s.ae [2]) od)) (zB rfl dh (rfl) (zk 6 rfl (WP.ret ⟨aa,_,rfl,rfl,((((((bQ.2 ⟨dv,s.ae [7,7,4]⟩).del 7).del 6).del 5).del 4).del 3).del 2⟩))))))))))))
theorem Lg.HY : Lg.fresh.Ok:=⟨by decide,by decide,by simp[Lg.fresh],List.Pairwise.nil,by decide,by decide,by decide⟩
theorem JL (I:W told){n:Nat}(s:Sat h (aJ p δ::S))(h1:1≤n)(h2:n≤1024)(hd:δ.dead=false)(hm:δ.mark=[])(J:δ.log=[])(hc:δ.bL=0):
  Call ⟨Tryz.prog,told⟩ 19 [.ptr p 0,.int .i64 (n:Int)] h fun v h'=>∃a q r,v=.aO [.ptr a 0,.int .i64 0]∧Sat h' (c7 a p q r .aZ [] 0::cL r p q (Pl.fresh n)::bx q p Lg.fresh::aJ p δ::S):=by
 refine Call.of_wp (I.free _ rfl) Tryz.func19 rfl rfl (zK 9 rfl (zC rfl aT (by simp<;>omega) ?_))
 refine zk 2 rfl (zC rfl er (by simp<;>omega) ?_)
 refine zk 7 rfl (zc rfl (JK I s hd hm J hc) ?_)
 rintro v h ⟨q,rfl,s⟩
 refine zk 10 rfl (zC rfl aA (rfl) (zk 8 rfl (zc rfl (U7 (p:=p) (q:=q) (n:=n) I s) ?_)))
 rintro v h (⟨hn,_,_⟩|⟨_,_,r,rfl,s⟩)
 ·omega
 rw[b7] at s
 refine zk 10 rfl (zC rfl aA (rfl) (zk 8 rfl (zo rfl (cx rfl (by rw[Zp];rfl)) ?_)))
 refine au.bP s rfl rfl rfl (dG rfl rfl) (fun p44 h s => ?_)
 refine zk 5 rfl (zc rfl (uz I (s.ae [2])) ?_)
 rintro v h' ⟨rfl,rfl⟩
 refine zk 6 rfl (zc rfl (Js I (s.ae [2])) ?_)
 rintro v h' ⟨rfl,rfl⟩
 refine zk 5 rfl (zC rfl aA (rfl) (zk 8 rfl ?_))
 have s1:=bQ.2 ⟨.aV,(s.ur).ae [1,0]⟩
 refine zc rfl (Mt (n:=1) I (s1.ae [0,1]) Lg.HY (by decide) (.inl rfl)) ?_
 rintro v h ⟨rfl,s⟩
 exact zk 5 rfl (zC rfl aA (rfl) (zk 9 rfl (WP.ret ⟨aa,_,rfl,_,q,r,rfl,s.ae [0,1,0]⟩)))
end
def iB (ε:bq): Int×bq:=if ε.2.2.dead=true then(9,ε) else if (writeAllF (aX ε.1.aF) ε).1≠0 then writeAllF (aX ε.1.aF) ε else
 ((fh (writeAllF (aX ε.1.aF) ε).2.1 (writeAllF (aX ε.1.aF) ε).2.2.2).1,((fh (writeAllF (aX ε.1.aF) ε).2.1 (writeAllF (aX ε.1.aF) ε).2.2.2).2.1,((writeAllF (aX ε.1.aF) ε).2.2.1,(fh (writeAllF (aX ε.1.aF) ε).2.1 (writeAllF (aX ε.1.aF) ε).2.2.2).2.2)))
section
variable {told:cC} {p:Nat} {op v:V} {bX:Bool}
theorem AK (I:W told)(s:Sat h (c7 a p q r op data aE::S)): Call ⟨Tryz.prog,told⟩ 15 [.ptr a 0] h fun v h'=>v=.ptr q 0∧h'=h:=by
 obtain⟨dv,s⟩:=bQ.1 s
 exact Call.of_wp (I.free _ rfl) Tryz.func15 rfl rfl (zK 8 rfl (zY s 0 iq j9 rfl (zk 2 rfl (WP.ret ⟨aa,_,rfl,rfl,rfl⟩))))
theorem R8 (I:W told)(s:Sat h (c7 a p q r op data aE::S)): Call ⟨Tryz.prog,told⟩ 145 [.ptr a 0] h fun v h'=>v=.ptr p 0∧h'=h:=by
 obtain⟨dv,s⟩:=bQ.1 s
 exact Call.of_wp (I.free _ rfl) Tryz.func145 rfl rfl (zK 8 rfl (zY s 0 qz jt rfl (zk 2 rfl (WP.ret ⟨aa,_,rfl,rfl,rfl⟩))))
theorem O8 (J:W told){n:Nat}(s:Sat h (c7 a p q r op data aE::bx q p μ::aJ p δ::S))(I:μ.Ok)(hf:δ.aU<4294967296):
  Call ⟨Tryz.prog,told⟩ 42 [.ptr a 0,.int .u64 (n:Int)] h fun v h'=>v=.int .i64 (bG (μ,δ) n).1∧Sat h' (c7 a p q r op data aE::bx q p (bG (μ,δ) n).2.1::aJ p (bG (μ,δ) n).2.2::S):=by
 obtain⟨dv,s⟩:=bQ.1 s
 refine Call.of_wp (J.free _ rfl) Tryz.func42 rfl rfl (zK 8 rfl (zY s 0 iq j9 rfl (zm rfl (zc rfl (Eh (n:=n) J (s.ae [2,2]) I hf) ?_))))
 rintro v h ⟨rfl,s⟩
 exact zk 2 rfl (WP.ret ⟨aa,_,rfl,rfl,bQ.2 ⟨dv,s.ae [2,2]⟩⟩)
theorem R9 (J:W2 told)(s:Sat h (c7 a p q r .aZ data aE::cL r p q ε.1::bx q p ε.2.1::aJ p ε.2.2::S))(iI:oF ε)(hw:ε.2.2.waiting.length+ε.1.aF.length≤268435456)(hm:ε.1.aF.length≤1048576)(hk:∀n∈ε.1.aF.map (·.1),(Lit.int .i64 n).wf=true)
 (jD:(writeAllF (aX ε.1.aF) ε).2.2.2.Ok)(I:∀e∈(writeAllF (aX ε.1.aF) ε).2.2.2.now,0≤e.1∧e.1<(writeAllF (aX ε.1.aF) ε).2.2.2.aM.length):
  Call ⟨Tryz.prog,told⟩ 32 [.ptr a 0] h fun v h'=>v=.int .i64 (iB ε).1∧Sat h' (c7 a p q r .aZ data aE::cL r p q (iB ε).2.1::bx q p (iB ε).2.2.1::aJ p (iB ε).2.2.2::S):=by
 have s0:=s
 obtain⟨dv,s⟩:=bQ.1 s
 refine Call.of_wp (J.w.free _ rfl) Tryz.func32 rfl rfl (zK 5 rfl (WP.block (zK 4 rfl (zY s 0 oX D2 rfl (zC rfl (Mp ot) (rfl) (zk 7 rfl (zY s 0 qz jt rfl (zc rfl (wU J.w (s.ae [4])) ?_))))))))
 rintro v h ⟨rfl,rfl⟩
 refine zk 2 rfl ?_
 cases hd:ε.2.2.dead with
 |true =>
  refine zK 5 rfl (WP.ret ⟨aa,_,rfl,?_⟩)
  rw[iB,aC hd]
  exact⟨rfl,s0⟩
 |false =>
  refine zj rfl (WP.skip (zw (zg rfl (zk 2 rfl (zf rfl (nu _ _) (zl rfl (by exact s.ld (k:=0) rfl sD rfl) ?_))))))
  refine zc rfl (JB J.w (s.ae [2,2,2]) iI hw hm hk) ?_
  rintro v h ⟨rfl,s⟩
  dsimp only[bringA,getA,aK] at s
  refine zk 5 rfl ?_
  by_cases he:(writeAllF (aX ε.1.aF) ε).1=0
  ·skip
   refine zC rfl aA (by simp;exact he) ?_
   refine zv (zj rfl (WP.skip (zg rfl (zk 2 rfl (zf rfl (nu _ _) (zl rfl (by exact s.ld (k:=3) rfl sD rfl) ?_))))))
   refine zc rfl (RU J (s.ae [0,1]) jD I) ?_
   rintro v h ⟨rfl,s⟩
   refine zk 2 rfl (WP.ret ⟨aa,_,rfl,?_⟩)
   rw[iB,aj (by rw[hd];decide),aj (by simpa using he)]
   exact⟨rfl,bQ.2 ⟨dv,s.ae [3,3,0,1,0]⟩⟩
  ·skip
   refine zB rfl aA (by simp;exact he) ?_
   refine zk 7 rfl (WP.ret ⟨aa,_,rfl,?_⟩)
   rw[iB,aj (by rw[hd];decide),aC he]
   exact⟨rfl,bQ.2 ⟨dv,s.ae [3,3,0,0,0]⟩⟩
end
section
variable {told:cC} {p:Nat} {op v:V} {bX:Bool}
theorem Mu (I:W told)(s:Sat h (c7 a p q r op data aE::S))(J:data.length<1073741824): Call ⟨Tryz.prog,told⟩ 54 [.ptr a 0] h fun v h'=>∃w,v=.aO [w,.int .u64 (aE:Int)]∧Sat h' (bp w data::c7 a p q r op data aE::S):=by
 obtain⟨dv,s⟩:=bQ.1 s
 refine Call.of_wp (I.free _ rfl) Tryz.func54 rfl rfl (zK 6 rfl ?_)
 have s:=s.ae [1]
 have s0:=s
 refine WP.drawn [af,af,af,af,af,some (0,2),some (0,2),some (0,2),some (0,2),none,none] rfl (by kernel_rfl) (by kernel_rfl) ?_
 refine zM rfl (zN rfl (zF rfl (Kn _ _) (zL rfl (s.ld (k:=1) rfl b8 rfl) (ax.any rfl rfl rfl rfl (OpR.call rfl rfl rfl rfl (nF I s (eZ _ _) J)) ?_))))
 intro w h s
 refine zM rfl (zN rfl (zF rfl (D6 _ _) (zL rfl (s.ld (k:=2) rfl cS rfl) (zA rfl (zA rfl ?_)))))
 refine ax.nil ⟨⟨aa,aa,aa,aa,aa,fun _ _=>.inr ⟨rfl,⟨_,aS rfl⟩,aB _ rfl⟩,fun _ _=>.inr ⟨rfl,⟨_,iL rfl⟩,aB _ rfl⟩,fun _ _=>.inr ⟨rfl,⟨_,g8 rfl (D6 _ _)⟩,aB _ rfl⟩,dJ (.inr ⟨rfl,⟨_,aH rfl (s0.ld (k:=1) rfl cS rfl)⟩,aB _ rfl⟩) (.inr ⟨rfl,⟨_,aH rfl (s.ld (k:=2) rfl cS rfl)⟩,aB _ rfl⟩),aa,aa,aa⟩,?_⟩
 refine WP.ret ⟨aa,_,rfl,?_⟩
 exact⟨w,rfl,(bQ.2 ⟨dv,s.ae [2,1]⟩).ae [1]⟩
end
section
theorem KK (s:Sat h S){e:TypeId}{z:V}(hu:P.underlying t=some (.slice e))(I:zeroT P e=some z)(J:bB P e=some k)(hl:z.cells.length=k)(h1:1≤k):
  ∃h',buildSliceV P h t 0 []=some (.sl h.next 0 0 (.exact 0),h')∧Sat h' (pt h.next (.cells 0 [] false)::S):=by
 refine⟨newRow h [],?_,s.new _⟩
 simp only[buildSliceV,hu,J,I]
 rw[show(Nat.beq z.cells.length k&&Nat.ble (0*k) 65536&&Nat.ble 1 k)=true by rw[hl,eV,aG.2 (by omega),aG.2 h1];rfl,ah]
 simp only[repeatL,fillV,jK,ah]
theorem KL (s:Sat h (pt id (.cells 0 [] false)::S)): Sat h (bp (.sl id 0 0 (.exact 0)) []::S) :=
 s.j5 fun m r hm=>⟨by simp,.inr (.inl ⟨id,[],0,rfl,hm,rfl⟩)⟩
end
section
variable {told:cC} {p:Nat} {op v:V}
theorem O9 (hT:W told)(s:Sat h (X::S))(I:cD X (cE x l))(hl:l.length≤1073741824): Call ⟨Tryz.prog,told⟩ 186 [x] h fun v h'=>Sat h' (bp v l::X::S):=by
 have hv:=s.aI (k:=0) rfl I
 refine Call.of_wp (hT.free _ rfl) Tryz.func186 rfl rfl (zK 8 rfl ?_)
 rcases hv.2 with⟨rfl|⟨ea,rfl⟩,rfl⟩|⟨id,off,cap,n,cs,st,rfl,_⟩
 ·refine zt rfl ((by exact aq rfl rfl (by simp only[binV,eqV,aN];rfl))) (rfl) ?_
  exact zk 6 rfl (WP.ret ⟨aa,_,rfl,s.mV⟩)
 ·skip
  refine zh rfl ((by exact aq rfl rfl (by simp only[binV,eqV,aN];rfl))) (rfl) ?_
  refine zk 5 rfl ?_
  obtain⟨J,e1,s1⟩:=KK (P:=Tryz.prog) s aN zt5 TC rfl (by decide)
  refine au.any rfl rfl rfl (OpR.of (R:=fun v h'=>v=.sl h.next 0 0 (.exact 0)∧h'=J) (mC rfl e1) ⟨rfl,rfl⟩) ?_
  rintro v h' ⟨rfl,rfl⟩
  have s:=KL s1
  refine zm rfl (au.any rfl rfl rfl (OpR.pS rfl s I rfl rfl rfl rfl (by simp<;>omega)) ?_)
  intro w h s
  exact zk 2 rfl (WP.ret ⟨aa,_,rfl,s⟩)
 ·skip
  refine zh rfl ((by exact aq rfl rfl (by simp only[binV,eqV,aN];rfl))) (rfl) ?_
  refine zk 5 rfl ?_
  obtain⟨J,e1,s1⟩:=KK (P:=Tryz.prog) s aN zt5 TC rfl (by decide)
  refine au.any rfl rfl rfl (OpR.of (R:=fun v h'=>v=.sl h.next 0 0 (.exact 0)∧h'=J) (mC rfl e1) ⟨rfl,rfl⟩) ?_
  rintro v h' ⟨rfl,rfl⟩
  have s:=KL s1
  refine zm rfl (au.any rfl rfl rfl (OpR.pS rfl s I rfl rfl rfl rfl (by simp<;>omega)) ?_)
  intro w h s
  exact zk 2 rfl (WP.ret ⟨aa,_,rfl,s⟩)
end
def slF (v:V)(i:Nat): V:=match v with
 |.sl id off len (.exact c)=>.sl id (cond (Nat.beq c i) off (off+i*1)) (len-i) (.exact (c-i))
 |.sl id off len (.rest _ alt)=>.sl id (off+i*1) (len-i) (.rest 1 (cond (Nat.beq i 0) alt (cond (Nat.blt i len) (off+i*1) off)))
 |v=>v
theorem X6 {v:V}{e:TypeId}(s:Sat h S)(hj:getA S j=some (.arr 1 v cs))(hi:i≤cs.length)(hu:P.underlying t=some (.slice e))(I:bB P e=some 1):
  sliceV P h t v (some i) none none=some (slF v i)∧lenV P h t (slF v i)=some (.int .i64 ((cs.length-i:Nat):Int)) ∧
  ∀(m:Nat) (x:V),cs[i+m]?=some x→∃id off,indexAddrV P t (slF v i) (.int .i64 (m:Int))=some (.ptr id off)∧∀t',isAggT P t'=some false→loadV P h t' (.ptr id off)=some x:=by
 obtain⟨pm,r,h1,h2,h3⟩:=s.at hj
 rcases h3.2 with⟨rfl,rfl⟩|⟨id,n,cap,N,rest,rfl,hg,e1,e2,_,e4⟩
 ·have:i=0:=by simpa using hi
  subst this
  refine⟨?_,?_,fun m x hm=>by simp at hm⟩
  ·simp only[sliceV,hu,I];rfl
  ·simp only[slF,lenV,hu];rfl
 ·have qw:=h1 _ _ hg
  rw[ig] at e1
  have J:∀(m:Nat) (x:V),cs[i+m]?=some x→∀t',isAggT P t'=some false→loadV P h t' (.ptr id (0+i*1+m*1))=some x:=fun m x hm t' ht=>by
   have cJ:=(List.getElem?_eq_some_iff.1 hm).1
   refine N6 ht qw ?_
   rw[gS,show 0+i*1+m*1=i+m by omega,vf cJ,hm]
  cases cap with
  |exact c =>
   obtain⟨rfl,e5⟩:=e4
   refine⟨?_,?_,fun m x hm => ?_⟩
   ·simp only[sliceV,hu,I,sM,ga,slF]
    rw[show(Nat.ble i n&&Nat.ble n c)=true by rw[aG.2 (by omega),aG.2 e5];rfl,ah]
   ·simp only[slF,lenV,hu,e1]
   ·have cJ:=(List.getElem?_eq_some_iff.1 hm).1
    refine⟨id,0+i*1+m*1,?_,J m x hm⟩
    simp only[slF,indexAddrV,hu,I,b7]
    rw[show(decide ((0:Int)≤(m:Int))&&decide ((m:Int)<((n-i:Nat):Int)))=true by simp;omega,ah,eD (by omega),aL]
  |rest q alt =>
   obtain⟨rfl,rfl,rfl,e5⟩:=e4
   refine⟨?_,?_,fun m x hm => ?_⟩
   ·simp only[sliceV,hu,I,sM,ga,slF]
    rw[show(Nat.beq 1 1&&Nat.ble 1 1)=true from rfl,ah,show(Nat.ble i n&&(Nat.ble n n||Nat.ble n (k8 h id 0 1)))=true by rw[aG.2 (by omega:i≤n),aG.2 (aQ n)];rfl,ah]
   ·simp only[slF,lenV,hu,e1]
   ·have cJ:=(List.getElem?_eq_some_iff.1 hm).1
    refine⟨id,0+i*1+m*1,?_,J m x hm⟩
    simp only[slF,indexAddrV,hu,I,b7]
    rw[show(decide ((0:Int)≤(m:Int))&&decide ((m:Int)<((n-i:Nat):Int)))=true by simp;omega,ah]
def uX (μ:Lg)(n:Nat): List Nat:=(μ.bh.filter fun s=>decide (n≤μ.base+s)).map fun s=>s-(n-μ.base)
def Lg.cut (μ:Lg)(n:Nat): Lg:={ base:=n,b:=μ.b.drop (n-μ.base),bh:=uX μ n,forced:=μ.forced-(n-μ.base),check:=μ.check }
def gu (x:LD)(n:Nat): Int×LD :=
 if (n≠x.1.base+x.1.b.length∧x.1.hasB n=false)∨x.1.base+x.1.forced<n∨(x.1.check≠0∧x.1.check<n) then(1,x) else
 if (x.2.mY ((n-x.1.base:Nat):Int) (eC n x.1.check)).1≠0 then((x.2.mY ((n-x.1.base:Nat):Int) (eC n x.1.check)).1,(x.1,(x.2.mY ((n-x.1.base:Nat):Int) (eC n x.1.check)).2)) else
 (0,(x.1.cut n,(x.2.mY ((n-x.1.base:Nat):Int) (eC n x.1.check)).2))
theorem Vi {n:Nat}(h:Split μ n i): uX μ n=(μ.bh.drop i).map fun s=>s-(n-μ.base):=by
 have h1:μ.bh.filter (fun s=>decide (n≤μ.base+s))=μ.bh.drop i:=by
  conv=>lhs;rw[←Ds i μ.bh]
  rw[List.filter_append]
  have e1:(μ.bh.take i).filter (fun s=>decide (n≤μ.base+s))=[]:=by
   rw[List.filter_eq_nil_iff]
   intro s hs
   obtain⟨j,I,rfl⟩:=List.mem_iff_getElem.1 hs
   have J:j<i:=by simp at I;omega
   have:=h.2.1 j _ J (by rw[bw (by simp at I;omega)])
   simp only[List.getElem_take] at this ⊢
   simp;omega
  have e2:(μ.bh.drop i).filter (fun s=>decide (n≤μ.base+s))=μ.bh.drop i:=by
   rw[List.filter_eq_self]
   intro s hs
   obtain⟨j,I,rfl⟩:=List.mem_iff_getElem.1 hs
   have:=h.2.2 (i+j) _ (vt _ _) (by rw[bw (by simp at I;omega)])
   simp only[List.getElem_drop] at this ⊢
   simpa using this
  rw[e1,e2,dY]
 rw[uX,h1]
theorem Eo {n:Nat}(h:μ.hasB n=true): μ.base≤n:=by
 simp only[Lg.hasB,vq,gD] at h
 obtain⟨s,_,rfl⟩:=h
 exact vt _ _
section
variable {told:cC} {p:Nat} {op v:V}
theorem Z5 (hT:W told)(s:Sat h (aJ p δ::X::S))(hX:cD X (cE x b))(I:δ.Ok):
  Call ⟨Tryz.prog,told⟩ 185 [.ptr p 0,.int .i64 n,x] h fun v h'=>v=.int .i64 (δ.mY n b).1∧Sat h' (aJ p (δ.mY n b).2::X::S):=by
 refine(UT hT s hX I.aU (by have:=I.len;omega) I.bL).mono fun v h' hr => ?_
 unfold Dk.mY
 rcases hr with⟨hd,rfl,s⟩|⟨hd,J,rfl,s⟩|⟨hd,h1,h2,h3,J,rfl,s⟩|⟨hd,h1,h2,h3,J,rfl,s⟩
 ·rw[aC hd];exact⟨rfl,s⟩
 ·rw[aj (by rw[hd];decide),aC J];exact⟨rfl,s⟩
 ·rw[aj (by rw[hd];decide),aj (by simp[h1,h2,h3]),aC J];exact⟨rfl,s⟩
 ·rw[aj (by rw[hd];decide),aj (by simp[h1,h2,h3]),aj J];exact⟨rfl,s⟩
end
section
variable {told:cC} {p:Nat} {op v:V}
noncomputable def ctL : Code:=cm [1,1,1,1,1,1,0,1,0,0] ((Tryz.f114.body).getD .skip)
theorem R_ (hT:W told){sv:V}{m7:List Nat}(hi:i≤m7.length)(hb:∀s∈m7,s≤1099511627776)(hc:c≤1099511627776)(WJ:∀s∈m7.drop i,c≤s)(wX:m7.length≤16777216): ∀(j m:Nat) (nv:V) (h:H) (E:List (Nat×V)) (Q:Ex→List (Nat×V)→H→Prop),i+m+j=m7.length →
  Sat h (.arr 1 nv (je (((m7.drop i).take m).map fun s=>s-c))::.arr 1 sv (je m7)::S) →
  Has E [(0,.ptr q 0),(1,t1),(5,.int .i64 (c:Int)),(8,nv),(81,slF sv i),(82,.int .i64 ((m7.length-i:Nat):Int)),(83,.int .i64 (m:Int))] →
  (∀TX E' h',Has E' [(0,.ptr q 0),(1,t1),(5,.int .i64 (c:Int)),(8,TX)]→Sat h' (.arr 1 TX (je ((m7.drop i).map fun s=>s-c))::.arr 1 sv (je m7)::S)→Q (.exit 0) E' h') →
  WP ⟨Tryz.prog,told⟩ 121 (.loop ctL) E h Q:=by
 intro j
 induction j with
 |zero =>
  intro m nv h E Q hj s hE hx
  refine WP.loop (WP.has hE (zg rfl (zC rfl aT (by simp<;>omega) ?_)))
  refine zk 3 rfl (WP.exit ?_)
  rw[gC (by simp;omega)] at s
  exact hx nv _ _ ⟨rfl,rfl,rfl,rfl,aa⟩ s
 |succ j ih =>
  intro m nv h E Q hj s hE hx
  have I:m7[i+m]?=some (m7[i+m]'(by omega)):=bw _
  have J:m7[i+m]'(by omega)∈m7:=vr _
  have aa5:=WJ (m7[i+m]'(by omega)) (by
   have:(m7.drop i)[m]?=some (m7[i+m]'(by omega)):=by rw[zX,I]
   exact bJ this)
  generalize (m7[i+m]'(by omega))=st at I J aa5
  have yL:=hb st J
  obtain⟨_,_,v7⟩:=X6 (P:=Tryz.prog) (i:=i) s (j:=1) rfl (by simp only[kG];exact hi) dW j6
  obtain⟨id,off,e1,e2⟩:=v7 m (.int .i64 (st:Int)) (by simp[je,I])
  have X7:(m7.drop i).take (m+1)=(m7.drop i).take m++[st]:=by rw[vm,zX,I];rfl
  have Mv:((st:Int)-(c:Int))=((st-c:Nat):Int):=by omega
  refine WP.loop (WP.has hE (zg rfl (zB rfl aT (by simp<;>omega) ?_)))
  refine zk 5 rfl (WP.block (zg rfl (zo rfl (cZ (r:=.ptr id off) rfl rfl e1) (zl rfl (e2 _ dV) (zk 6 rfl (zb rfl (by exact g9 (az (by omega) (by omega))) ?_))))))
  rw[Mv]
  obtain⟨iv,h1,tQ,s1⟩:=kj (P:=Tryz.prog) (k:=1) (x:=.int .i64 ((st-c:Nat):Int)) s dW Kk j6 rfl (by decide) (by decide) rfl rfl
  dsimp only[V.cells] at s1
  refine au.any rfl rfl rfl (OpR.of (R:=fun v h'=>v=iv∧h'=h1) (mC rfl tQ) ⟨rfl,rfl⟩) ?_
  rintro v' h' ⟨rfl,rfl⟩
  obtain⟨i1,jX,jd,tK⟩:=Bz
  obtain⟨nR,h2,om,s2⟩:=g_ (s1.ae [1,0]) dW jX Kk jd (by omega) rfl (by decide) (by simp only[kG,eL,qt,vu,bn,cr];omega)
  dsimp only[bringA,getA,aK] at s2
  refine au.any rfl rfl rfl (OpR.of (R:=fun v h'=>v=nR∧h'=h2) (ox rfl rfl om) ⟨rfl,rfl⟩) ?_
  rintro v' h' ⟨rfl,rfl⟩
  refine za rfl (zv (zr rfl (zb rfl (by exact aW (az (by omega) (by omega))) ?_)))
  refine zm rfl (zv ?_)
  refine ih (m+1) _ _ _ Q (by omega) ?_ ⟨rfl,rfl,rfl,rfl,rfl,rfl,rfl,aa⟩ hx
  have e:je (((m7.drop i).take (m+1)).map fun s=>s-c)=je (((m7.drop i).take m).map fun s=>s-c)++[.int .i64 ((st-c:Nat):Int)]:=by
   rw[X7,DE];simp[je]
  rw[e]
  exact s2.del 1
noncomputable def ctR : Code:=cm [1,1] ((Tryz.f114.body).getD .skip)
theorem Sa (hT:W told){n:Nat}(s:Sat h (bx q p μ::aJ p δ::S))(I:μ.Ok)(w5:δ.Ok)(h1:μ.base≤n)(h2:n≤μ.base+μ.forced)(hE:Has E [(0,.ptr q 0),(1,.int .u64 (n:Int))])
 (Fo:∀E' h',(δ.mY ((n-μ.base:Nat):Int) (eC n μ.check)).1≠0→look E' 4=some (.int .i64 (δ.mY ((n-μ.base:Nat):Int) (eC n μ.check)).1)→Sat h' (bx q p μ::aJ p (δ.mY ((n-μ.base:Nat):Int) (eC n μ.check)).2::S)→Q .ret E' h')
 (jR:∀E' h',(δ.mY ((n-μ.base:Nat):Int) (eC n μ.check)).1=0→look E' 4=some (.int .i64 0)→Sat h' (bx q p (μ.cut n)::aJ p (δ.mY ((n-μ.base:Nat):Int) (eC n μ.check)).2::S)→Q .ret E' h'):
  WP ⟨Tryz.prog,told⟩ 121 ctR E h Q:=by
 have wY:=I.size
 have Vj:=I.forced
 have hlen:=I.len
 have aa6:n<18446744073709551616:=by omega
 have Mv:((n:Int)-(μ.base:Int))=((n-μ.base:Nat):Int):=by omega
 obtain⟨bv,sv,s⟩:=dm.1 s
 refine WP.has hE (zK 5 rfl (zY s 0 ir cS rfl (zb rfl (by exact g9 (eB (by omega) (by omega))) ?_)))
 refine zo rfl (bO rfl (by exact gB bM bF (az (by omega) (by omega)))) ?_
 refine zk 4 rfl ?_
 rw[Mv]
 have s0:=s
 refine WP.drawn [some (0,2),some (0,2),some (0,2),some (0,2),some (0,2),af,af,af,af,af,af,af,af,af] rfl (by kernel_rfl) (by kernel_rfl) ?_
 refine zM rfl (zN rfl (zF rfl (oY _ _) (zL rfl (s.ld (k:=0) rfl jt rfl) (zM rfl (zM rfl (zM rfl (zM rfl (zN rfl (zF rfl (qA _ _) (zL rfl (s.ld (k:=0) rfl cS rfl) (ax.any rfl rfl rfl rfl (OpR.call rfl rfl rfl rfl (CM (q:=q) (a:=n) (b:=μ.check) hT s)) ?_)))))))))))
 intro mv h s
 have s:=s.ae [1,1,1,1,0]
 have s1:=s
 refine ax.any rfl rfl rfl rfl (OpR.call rfl rfl rfl rfl (Z5 (n:=((n-μ.base:Nat):Int)) hT (s.ae [3,3]) (aY _ _) w5)) ?_
 rintro v h ⟨rfl,s⟩
 have s:=(s.del 1).ae [1,1,1,0]
 refine zA rfl ?_
 refine ax.nil ⟨⟨fun _ _=>.inr ⟨rfl,⟨_,aS rfl⟩,aB _ rfl⟩,fun _ _=>.inr ⟨rfl,⟨_,iL rfl⟩,aB _ rfl⟩,fun _ _=>.inr ⟨rfl,⟨_,g8 rfl (oY _ _)⟩,aB _ rfl⟩,dJ (.inr ⟨rfl,⟨_,aH rfl (s0.ld (k:=0) rfl jt rfl)⟩,aB _ rfl⟩) (.inr ⟨rfl,⟨_,aH rfl (s1.ld (k:=0) rfl jt rfl)⟩,aB _ rfl⟩),fun _ _=>.inr ⟨rfl,⟨_,aS rfl⟩,aB _ rfl⟩,aa,aa,aa,aa,aa,aa,aa,aa,aa,aa⟩,?_⟩
 refine zK 3 rfl ?_
 generalize hcf:δ.mY ((n-μ.base:Nat):Int) (eC n μ.check)=cf at s Fo jR
 by_cases he:cf.1=0
 ·skip
  refine zC rfl aA (by simp;exact he) ?_
  have s:=dm.2 ⟨bv,sv,s⟩
  refine zk 7 rfl (zc rfl (Ef (n:=n) hT s I aa6) ?_)
  rintro v h' ⟨rfl,i,C2,rfl⟩
  obtain⟨bv,sv,s⟩:=dm.1 s
  have hi:=C2.1
  have J:((μ.bh.length:Int)-(i:Int))=((μ.bh.length-i:Nat):Int):=by omega
  have wX:=I.many
  refine zk 6 rfl (zY s 0 jc ny rfl (zo rfl (a_ rfl rfl rfl (s.fN (n:=μ.bh.length) (j:=2) rfl (by simp[kG]) (by decide) dW)) ?_))
  refine zm rfl (zb rfl (by exact g9 (az (by omega) (by omega))) ?_)
  rw[J]
  obtain⟨i1,jX,jd,tK⟩:=Bz
  obtain⟨nv,Tl,e1,s1⟩:=uq (P:=Tryz.prog) s dW jX Kk jd (by omega) rfl (by decide) (by decide) (n:=0) (c:=μ.bh.length-i) (by omega) (by omega)
  dsimp only[repeatL] at s1
  refine au.any rfl rfl rfl (OpR.of (R:=fun v h'=>v=nv∧h'=Tl) (uk rfl rfl e1) ⟨rfl,rfl⟩) ?_
  rintro v h' ⟨rfl,rfl⟩
  have s:=s1.ae [0,2,0,0]
  have X8:=X6 (P:=Tryz.prog) (i:=i) s (j:=1) rfl (by simp only[kG];exact hi) dW j6
  have J8:=X8.2.1
  rw[kG] at J8
  refine zk 7 rfl (zY s 2 jc ny rfl (zm rfl (zo rfl (cj (p:=some (.int .i64 (i:Int))) (q:=none) (m:=none) (p':=some i) (q':=none) (m':=none) rfl rfl rfl rfl (by rw[cF (by omega)];rfl) rfl rfl X8.1) ?_)))
  refine zo rfl (a_ rfl rfl rfl J8) (zk 2 rfl (WP.block ?_))
  refine R_ hT (q:=q) (t1:=.int .u64 (n:Int)) (i:=i) (c:=n-μ.base) (m7:=μ.bh) hi (fun x hx => ?_) (by omega) (fun x hx => ?_) wX (μ.bh.length-i) 0 _ _ _ _ (by omega) s ⟨rfl,rfl,rfl,rfl,rfl,rfl,rfl,aa⟩ (fun TX E' h' eS s' => ?_)
  ·have:=I.low x hx;omega
  ·obtain⟨j,hj,rfl⟩:=List.mem_iff_getElem.1 hx
   have:=C2.2.2 (i+j) _ (vt _ _) (by rw[bw (by simp at hj;omega)])
   simp only[List.getElem_drop] at this ⊢
   omega
  ·have s:=s'
   rw[←Vi C2] at s
   have KM:=s.jk (j:=0) rfl
   have hvb:=(s.buf (k:=3) rfl).view
   have jT:=gj hvb (a:=n-μ.base) (by omega)
   have XC:=eM hvb
   have yL:=eM jT.2.1
   have X9:((μ.forced:Int)-((n-μ.base:Nat):Int))=((μ.forced-(n-μ.base):Nat):Int):=by omega
   refine WP.has eS (zw ?_)
   have s0:=s
   refine WP.drawn [some (0,2),some (0,3),some (0,4),some (0,5),some (0,2),af,af,af,af,af,af,af,some (0,4),some (0,2),some (0,2),some (0,2),some (0,2),some (0,5),some (0,5),af,af,af,af,af,af,af,af,af,af,af,af] rfl (by kernel_rfl) (by kernel_rfl) ?_
   refine zM rfl (zM rfl (zM rfl (zM rfl (zM rfl (zM rfl (zN rfl (zF rfl (jb _ _) (zL rfl (s.ld (k:=2) rfl b8 rfl) (zM rfl (zO rfl (cj (p:=some (.int .i64 ((n-μ.base:Nat):Int))) (q:=none) (m:=none) (p':=some (n-μ.base)) (q':=none) (m':=none) rfl rfl rfl rfl (by rw[cF (by omega)];rfl) rfl rfl jT.1) ?_))))))))))
   refine ax.any rfl rfl rfl rfl (OpR.call rfl rfl rfl rfl (O9 hT (s.ae [3]) (qI (aY _ _) (by omega)) (by simp;omega))) ?_
   intro w h s
   have hw:=(s.buf (k:=0) rfl).view.cells
   have s1:=s
   refine zM rfl (zM rfl (zN rfl (zF rfl (sY _ _) (zL rfl (s.ld (k:=4) rfl dV rfl) (zM rfl (zO rfl (aq rfl rfl (by exact g9 (az (by omega) (by omega)))) ?_))))))
   refine zN rfl (zF rfl (ir _ _) (ax.gY rfl rfl rfl (OpR.rH rfl rfl rfl (s.dO (k:=4) rfl mS rfl (by decide) rfl rfl)) ?_))
   rintro v h ⟨rfl,s⟩
   have s2:=s
   refine zN rfl (zF rfl (jb _ _) (ax.gY rfl rfl rfl (OpR.rH rfl rfl rfl (s.dO (k:=4) rfl iF rfl (by decide) hw.1 hw.2)) ?_))
   rintro v h ⟨rfl,s⟩
   have s3:=s
   refine zN rfl (zF rfl (jc _ _) (ax.gY rfl rfl rfl (OpR.rH rfl rfl rfl (s.dO (k:=4) rfl TF rfl (by decide) KM.1 KM.2.1)) ?_))
   rintro v h ⟨rfl,s⟩
   have s4:=s
   refine zN rfl (zF rfl (sY _ _) (ax.gY rfl rfl rfl (OpR.rH rfl rfl rfl (s.dO (k:=4) rfl j6 rfl (by decide) rfl rfl)) ?_))
   rintro v h ⟨rfl,s⟩
   refine ax.nil ⟨⟨fun _ _=>.inr ⟨rfl,⟨_,aS rfl⟩,aB _ rfl⟩,fun _ _=>.inr ⟨rfl,⟨_,aS rfl⟩,aB _ rfl⟩,fun _ _=>.inr ⟨rfl,⟨_,aS rfl⟩,aB _ rfl⟩,fun _ _=>.inr ⟨rfl,⟨_,aS rfl⟩,aB _ rfl⟩,fun _ _=>.inr ⟨rfl,⟨_,aS rfl⟩,aB _ rfl⟩,aa,aa,aa,aa,aa,aa,aa,fun _ _=>.inr ⟨rfl,⟨_,aS rfl⟩,KM.2.2⟩,fun _ _=>.inr ⟨rfl,⟨_,aS rfl⟩,aB _ rfl⟩,fun _ _=>.inr ⟨rfl,⟨_,iL rfl⟩,aB _ rfl⟩,fun _ _=>.inr ⟨rfl,⟨_,g8 rfl (sY _ _)⟩,aB _ rfl⟩,dJ (.inr ⟨rfl,⟨_,aH rfl (s0.ld (k:=2) rfl dV rfl)⟩,aB _ rfl⟩) (.inr ⟨rfl,⟨_,aH rfl (s1.ld (k:=4) rfl dV rfl)⟩,aB _ rfl⟩),fun _ _=>.inr ⟨rfl,⟨_,aS rfl⟩,aB _ rfl⟩,fun _ _=>.inr ⟨rfl,⟨_,aq rfl rfl (by exact g9 (az (by omega) (by omega)))⟩,aB _ rfl⟩,aa,aa,aa,aa,aa,aa,aa,aa,aa,aa,aa,aa,aa⟩,?_⟩
   refine zK 4 rfl (WP.ret ?_)
   rw[X9] at s
   refine jR _ _ he rfl (dm.2 ⟨w,TX,?_⟩)
   exact((s.ae [4,0,1,2]).del 5).del 4
 ·skip
  refine zB rfl aA (by simp;exact he) ?_
  exact zk 7 rfl (WP.ret (Fo _ _ he rfl (dm.2 ⟨bv,sv,s⟩)))
end
section
variable {told:cC} {p:Nat} {op v:V}
theorem X_ (hT:W told){n:Nat}(s:Sat h (bx q p μ::aJ p δ::S))(J:μ.Ok)(w5:δ.Ok)(hn:n<18446744073709551616):
  Call ⟨Tryz.prog,told⟩ 114 [.ptr q 0,.int .u64 (n:Int)] h fun v h'=>v=.int .i64 (gu (μ,δ) n).1∧Sat h' (bx q p (gu (μ,δ) n).2.1::aJ p (gu (μ,δ) n).2.2::S):=by
 have s0:=s
 have wY:=J.size
 have Vj:=J.forced
 obtain⟨bv,sv,s⟩:=dm.1 s
 refine Call.of_wp (hT.free _ rfl) Tryz.func114 rfl rfl (zK 9 rfl ?_)
 have rest:¬((n≠μ.base+μ.b.length∧μ.hasB n=false)∨μ.base+μ.forced<n∨(μ.check≠0∧μ.check<n))→μ.base≤n→∀E:List (Nat×V),Has E [(0,.ptr q 0),(1,.int .u64 (n:Int))] →
   WP ⟨Tryz.prog,told⟩ 121 ctR E h fun ex E' h'=>(match ex with|.exit _=>False|_=>True)∧∃v,resLE Tryz.prog E' h' [.tmp 4]=some v∧(v=.int .i64 (gu (μ,δ) n).1∧Sat h' (bx q p (gu (μ,δ) n).2.1::aJ p (gu (μ,δ) n).2.2::S)):=by
  intro I hle E hE
  refine Sa hT s0 J w5 hle (by omega) hE (fun E' h' h1 h2 s' => ?_) (fun E' h' h1 h2 s' => ?_)
  ·rw[gu,aj I,aC h1]
   exact⟨aa,_,lR h2,rfl,s'⟩
  ·rw[gu,aj I,aj (by simpa using h1)]
   exact⟨aa,_,lR h2,rfl,s'⟩
 refine zc rfl (nG hT s0 J.size) ?_
 rintro v h' ⟨rfl,rfl⟩
 by_cases he:n=μ.base+μ.b.length
 ·skip
  refine zC rfl aA (by simp;omega) ?_
  refine zk 9 rfl (zc rfl (sH hT s0 J.size J.forced) ?_)
  rintro v h' ⟨rfl,rfl⟩
  by_cases hf:μ.base+μ.forced<n
  ·skip
   refine zB rfl er (by simp;omega) ?_
   refine zk 22 rfl (WP.ret ⟨aa,_,rfl,?_⟩)
   rw[gu,aC (.inr (.inl hf))]
   exact⟨rfl,s0⟩
  ·skip
   refine zC rfl er (by simp;omega) ?_
   refine zk 4 rfl (zY s 0 qA cS rfl ?_)
   by_cases hc:μ.check=0
   ·skip
    refine zC rfl aA (by simp;omega) ?_
    refine zk 11 rfl ?_
    have I:¬((n≠μ.base+μ.b.length∧μ.hasB n=false)∨μ.base+μ.forced<n∨(μ.check≠0∧μ.check<n)):=by omega
    exact WP.skip (rest I (by omega) _ ⟨rfl,rfl,aa⟩)
   ·skip
    refine zB rfl aA (by simp;omega) ?_
    refine zk 4 rfl (zY s 0 qA cS rfl ?_)
    by_cases TY:μ.check<n
    ·skip
     refine zB rfl er (by simp;omega) ?_
     refine zk 8 rfl (WP.ret ⟨aa,_,rfl,?_⟩)
     rw[gu,aC (.inr (.inr ⟨hc,TY⟩))]
     exact⟨rfl,s0⟩
    ·skip
     refine zC rfl er (by simp;omega) ?_
     refine zk 4 rfl ?_
     have I:¬((n≠μ.base+μ.b.length∧μ.hasB n=false)∨μ.base+μ.forced<n∨(μ.check≠0∧μ.check<n)):=by omega
     exact WP.skip (rest I (by omega) _ ⟨rfl,rfl,aa⟩)
 ·skip
  refine zB rfl aA (by simp;omega) ?_
  refine zk 3 rfl (zc rfl (AJ (n:=n) hT s0 J hn) ?_)
  rintro v h' ⟨rfl,rfl⟩
  cases hh:μ.hasB n with
  |false =>
   refine zo rfl (dM rfl rfl) (zk 28 rfl (WP.ret ⟨aa,_,rfl,?_⟩))
   rw[gu,aC (.inl ⟨he,hh⟩)]
   exact⟨rfl,s0⟩
  |true =>
   refine zo rfl (dM rfl rfl) (zk 4 rfl (zc rfl (sH hT s0 J.size J.forced) ?_))
   rintro v h' ⟨rfl,rfl⟩
   by_cases hf:μ.base+μ.forced<n
   ·skip
    refine zB rfl er (by simp;omega) ?_
    refine zk 22 rfl (WP.ret ⟨aa,_,rfl,?_⟩)
    rw[gu,aC (.inr (.inl hf))]
    exact⟨rfl,s0⟩
   ·skip
    refine zC rfl er (by simp;omega) ?_
    refine zk 4 rfl (zY s 0 qA cS rfl ?_)
    by_cases hc:μ.check=0
    ·skip
     refine zC rfl aA (by simp;omega) ?_
     refine zk 11 rfl ?_
     have I:¬((n≠μ.base+μ.b.length∧μ.hasB n=false)∨μ.base+μ.forced<n∨(μ.check≠0∧μ.check<n)):=by simp[hh];omega
     exact WP.skip (rest I (Eo hh) _ ⟨rfl,rfl,aa⟩)
    ·skip
     refine zB rfl aA (by simp;omega) ?_
     refine zk 4 rfl (zY s 0 qA cS rfl ?_)
     by_cases TY:μ.check<n
     ·skip
      refine zB rfl er (by simp;omega) ?_
      refine zk 8 rfl (WP.ret ⟨aa,_,rfl,?_⟩)
      rw[gu,aC (.inr (.inr ⟨hc,TY⟩))]
      exact⟨rfl,s0⟩
     ·skip
      refine zC rfl er (by simp;omega) ?_
      refine zk 4 rfl ?_
      have I:¬((n≠μ.base+μ.b.length∧μ.hasB n=false)∨μ.base+μ.forced<n∨(μ.check≠0∧μ.check<n)):=by simp[hh];omega
      exact WP.skip (rest I (Eo hh) _ ⟨rfl,rfl,aa⟩)
end
def Mw (π:Pl): List Int→Nat→Nat
 |[],m=>m
 |n::l,m=>Mw π l (min m (gx π n 0))
theorem KN (π:Pl): ∀(l:List Int) (m:Nat),Mw π l m≤m:=by
 intro l
 induction l with
 |nil=>intro m;exact aQ _
 |cons n l I=>intro m;exact cu (I _) (Nat.min_le_left _ _)
theorem O_ (π:Pl): ∀ {l:List Int} {i:Nat} {n:Int},l[i]?=some n→((dirtC π l).drop (i*2)).take 2=[.int .i64 n,.int .u64 (gx π n 0:Nat)]:=by
 intro l
 induction l with
 |nil=>intro i n h;simp at h
 |cons x l I =>
  intro i n h
  cases i with
  |zero=>simp at h;subst h;rfl
  |succ i =>
   rw[mc] at h
   rw[show(i+1)*2=i*2+2 by omega]
   exact I h
section
variable {told:cC} {p:Nat} {op v:V} {bX:Bool}
noncomputable def ckL : Code:=cm [1,1,1,0,1,0,0] ((Tryz.f53.body).getD .skip)
theorem Vk (hT:W told){av t2:V}(Fu:ks.length≤1048576): ∀(j i:Nat) (low:Nat) (h:H) (E:List (Nat×V)) (Q:Ex→List (Nat×V)→H→Prop),i+j=ks.length →
  Sat h (.arr 2 av (dirtC π ks)::S)→Has E [(0,.ptr a 0),(1,t1),(2,t2),(7,.int .u64 (low:Int)),(40,av),(41,.int .i64 ks.length),(42,.int .i64 i)] →
  (∀E' h',Has E' [(0,.ptr a 0),(1,t1),(2,t2),(7,.int .u64 (Mw π (ks.drop i) low:Nat))]→Sat h' (.arr 2 av (dirtC π ks)::S)→Q (.exit 1) E' h') →
  WP ⟨Tryz.prog,told⟩ 118 (.loop ckL) E h Q:=by
 intro j
 induction j with
 |zero =>
  intro i low h E Q hi s hE J
  refine WP.loop (WP.has hE (zg rfl (zC rfl aT (by simp<;>omega) ?_)))
  refine zk 3 rfl (WP.exit ?_)
  rw[jH (by omega)] at J
  exact J _ _ ⟨rfl,rfl,rfl,rfl,aa⟩ s
 |succ j ih =>
  intro i low h E Q hi s hE J
  have hn:ks[i]?=some (ks[i]'(by omega)):=bw _
  have I:ks.drop i=ks[i]'(by omega)::ks.drop (i+1):=oK (by omega)
  generalize (ks[i]'(by omega))=n at hn I
  rw[I] at J
  have qw:=O_ π hn
  obtain⟨id,off,g1,g2⟩:=Oh (P:=Tryz.prog) (i:=i) s (j:=0) rfl (by rw[yO];omega) (by decide) yI LU
  have g2:=g2 ZF
  rw[qw] at g2
  have Rb:min (low:Int) ((gx π n 0:Nat):Int)=((min low (gx π n 0):Nat):Int):=by omega
  refine WP.loop (WP.has hE (zg rfl (zB rfl aT (by simp<;>omega) ?_)))
  refine zk 5 rfl (WP.block (zg rfl (zo rfl (cZ (r:=.ptr id off) rfl rfl g1) (zl rfl g2 ?_))))
  refine au.bP s rfl rfl rfl (bR Gh) (fun p9 h s => ?_)
  dsimp only[V.cells,List.length_cons,List.length_nil,Nat.reduceAdd] at s
  refine zS rfl (s.fM (j:=0) rfl LU rfl rfl) (fun h s => ?_)
  dsimp only[setA] at s
  refine zk 3 rfl (zY s 0 UH cS rfl (zo rfl (XA rfl rfl Xz) ?_))
  rw[Rb]
  refine za rfl (zv (zr rfl (zb rfl (by exact aW (az (by omega) (by omega))) ?_)))
  refine zm rfl (zv ?_)
  exact ih (i+1) _ _ _ Q (by omega) (s.del 0) ⟨rfl,rfl,rfl,rfl,rfl,rfl,rfl,aa⟩ J
end
theorem C3 {x:LD}{n:Nat}(h:x.1.Ok)(I:x.2.Ok)(hn:n≤1099511627776): (iu x n).2.1.Ok∧(iu x n).2.2.Ok:=by
 have J:(x.2.pU (eC x.1.base n)).2.Ok:=by
  unfold Dk.pU
  split
  ·exact I
  ·split
   ·exact I
   ·split
    ·exact I.die
    ·exact⟨I.dc.aU,I.len,I.room,I.now,I.aM,I.bL,I.many⟩
 unfold iu
 split
 ·exact⟨h,I⟩
 ·split
  ·exact⟨h,J⟩
  ·exact⟨⟨h.size,h.many,h.low,h.wW,h.forced,h.len,hn⟩,J⟩
def gv (ε:bq): Nat:=Mw ε.1 (aX ε.1.bu) (ε.2.1.base+ε.2.1.b.length)
def gZ (ε:bq)(data:List Nat): (Nat×Int)×LD:=bk ε.2 8 0 0 0 (le 8 (gv ε)++data) []
theorem Ya (I:oF ε)(J:ε.2.1.b=ε.2.2.log)(hz:ε.2.1.base+ε.2.1.b.length+1048584≤1099511627776): (gZ ε data).2.1.Ok∧(gZ ε data).2.2.Ok∧(gZ ε data).1.1<1099511627776:=by
 have h:=uW (x:=ε.2) (kd:=8) (tx:=0) (pv:=0) (nx:=0) (data:=le 8 (gv ε)++data) (c:=[]) I.lg I.dk J hz
 exact⟨h.1,h.2.1,h.2.2.2.2.2.2⟩
def v_ (ε:bq)(lo:Nat): Nat:=if lo=0 then gv ε else min (gv ε) lo
def jh (y:(Nat×Int)×LD): Int×LD:=bG y.2 y.1.1
def gO (y:(Nat×Int)×LD): Int×LD:=iu (jh y).2 y.1.1
theorem KO {y:(Nat×Int)×LD}(h:y.2.1.Ok): (jh y).2.1.Ok:=by
 rw[jh];exact uT h
theorem KP {y:(Nat×Int)×LD}(h:y.2.2.Ok): (jh y).2.2.Ok:=by
 rw[jh];exact nH h
theorem Yb {y:(Nat×Int)×LD}(h:y.2.1.Ok)(I:y.2.2.Ok)(J:y.1.1<1099511627776): (gO y).2.1.Ok∧(gO y).2.2.Ok:=by
 rw[gO];exact C3 (KO h) (KP I) (Nat.le_of_lt J)
inductive HZ (y:(Nat×Int)×LD)(kp:Nat)(data cM:List Nat)(aE:Nat): Int→LD→List Nat→Nat→Prop
 |app:y.1.2≠0→HZ y kp data cM aE y.1.2 y.2 cM aE
 |force:y.1.2=0→(jh y).1≠0→HZ y kp data cM aE (jh y).1 (jh y).2 cM aE
 |check:y.1.2=0→(jh y).1=0→(gO y).1≠0→HZ y kp data cM aE (gO y).1 (gO y).2 cM aE
 |cut (t:Nat):y.1.2=0→(jh y).1=0→(gO y).1=0 →
   ((t=(gO y).2.1.base+(gO y).2.1.b.length∧(gO y).2.1.base+(gO y).2.1.b.length≤kp)∨((gO y).2.1.hasB t=true∧t≤kp)∨t=(gO y).2.1.base) →
   (gO y).2.1.base<t→((gO y).2.1.hasB kp=true→kp<(gO y).2.1.base+(gO y).2.1.b.length→t=kp)→HZ y kp data cM aE (gu (gO y).2 t).1 (gu (gO y).2 t).2 data y.1.1
 |jP:y.1.2=0→(jh y).1=0→(gO y).1=0→((gO y).2.1.hasB kp=true→kp<(gO y).2.1.base+(gO y).2.1.b.length→kp≤(gO y).2.1.base)→HZ y kp data cM aE 0 (gO y).2 data y.1.1
inductive KQ (ε:bq)(lo:Nat)(data cM:List Nat)(aE:Nat): Int→bq→List Nat→Nat→Prop
 |Yc:4096<data.length→KQ ε lo data cM aE 2 ε cM aE
 |dead:data.length≤4096→ε.2.2.dead=true→KQ ε lo data cM aE 9 ε cM aE
 |go (e:Int) (y:LD) (ri:List Nat) (jz:Nat):data.length≤4096→ε.2.2.dead=false→HZ (gZ ε data) (v_ ε lo) data cM aE e y ri jz→KQ ε lo data cM aE e (ε.1,y) ri jz
section
variable {told:cC} {p:Nat} {op v:V}
noncomputable def ckB : Code:=cm [1,1,1,1,1,1,1,1,1,1] ((Tryz.f53.body).getD .skip)
theorem Yd (I:W told){lw:Nat}{w:V}{y:LD}(s:Sat h (bx q p y.1::aJ p y.2::pt a (.cells 6 (CW a p q r .aZ w aD) false)::S))(J:y.1.Ok)(h2:y.2.Ok)(Pa:lw<18446744073709551616)(hE:Has E [(0,.ptr a 0),(7,.int .u64 (lw:Int))])
 (q1:∀t E' h',((t=y.1.base+y.1.b.length∧y.1.base+y.1.b.length≤lw)∨(y.1.hasB t=true∧t≤lw)∨t=y.1.base)→y.1.base<t→(y.1.hasB lw=true→lw<y.1.base+y.1.b.length→t=lw)→look E' 6=some (.int .i64 (gu y t).1) →
   Sat h' (bx q p (gu y t).2.1::aJ p (gu y t).2.2::pt a (.cells 6 (CW a p q r .aZ w aD) false)::S)→Q .ret E' h')
 (q2:∀E' h',(y.1.hasB lw=true→lw<y.1.base+y.1.b.length→lw≤y.1.base)→look E' 6=some (.int .i64 0)→Sat h' (bx q p y.1::aJ p y.2::pt a (.cells 6 (CW a p q r .aZ w aD) false)::S)→Q .ret E' h'):
  WP ⟨Tryz.prog,told⟩ 118 ckB E h Q:=by
 have acz:=J.size
 refine WP.has hE (zK 5 rfl (zY s 2 iq j9 rfl (zm rfl (zc rfl (OD (n:=lw) I s J Pa) ?_))))
 rintro v _ ⟨rfl,t,rfl,hr,hx⟩
 refine zk 7 rfl (zY s 2 iq j9 rfl (zc rfl (uz I s) ?_))
 rintro v h ⟨rfl,rfl⟩
 by_cases hg:y.1.base<t
 ·skip
  refine zB rfl er (by simp;exact hg) ?_
  refine zk 6 rfl (zY s 2 iq j9 rfl (zm rfl (zc rfl (X_ (n:=t) I s J h2 (by rcases hr with⟨rfl,_⟩|⟨_,hr⟩|rfl<;>omega)) ?_)))
  rintro v h ⟨rfl,s⟩
  exact zk 2 rfl (WP.ret (q1 t _ _ hr hg hx rfl s))
 ·skip
  refine zC rfl er (by simp;exact Nat.not_lt.1 hg) ?_
  exact zk 7 rfl (WP.ret (q2 _ _ (fun a b=>by have:=hx a b;omega) rfl s))
noncomputable def aa7 : Code:=cm [1,1,1,1,1] ((Tryz.f53.body).getD .skip)
theorem Vl (hT:W told){y:(Nat×Int)×LD}(iJ:cD X (cE x data))(rz:data.length≤4096)(s:Sat h (bx q p y.2.1::aJ p y.2.2::X::c7 a p q r .aZ cM aE::S))(h1:y.2.1.Ok)(h2:y.2.2.Ok)(h3:y.1.1<1099511627776)(tM:low<18446744073709551616)(rR:lo<18446744073709551616)(hE:Has E [(0,.ptr a 0),(1,.int .u64 (lo:Int)),(2,x),(7,.int .u64 (low:Int)),(10,.int .u64 (y.1.1:Int)),(11,.int .i64 y.1.2)])
 (hq:∀e y' ri jz E' h',HZ y (if lo=0 then low else min low lo) data cM aE e y' ri jz→look E' 6=some (.int .i64 e)→Sat h' (bx q p y'.1::aJ p y'.2::X::c7 a p q r .aZ ri jz::S)→Q .ret E' h'):
  WP ⟨Tryz.prog,told⟩ 118 aa7 E h Q:=by
 have Ye:=KO h1
 have Yf:=KP h2
 have kI:=Yb h1 h2 h3
 obtain⟨dv,s⟩:=bQ.1 (s.ae [3])
 have s:=s.ae [2,2,2,0,0]
 obtain⟨y2,I⟩:∃y2,y2=jh y:=⟨_,rfl⟩
 obtain⟨y3,J⟩:∃y3,y3=gO y:=⟨_,rfl⟩
 have ey2:bG (y.2.1,y.2.2) y.1.1=y2:=by rw[I,jh]
 have ey3:iu (y2.2.1,y2.2.2) y.1.1=y3:=by rw[I,J,gO]
 rw[←I] at Ye Yf
 rw[←J] at kI
 refine WP.has hE (zK 4 rfl ?_)
 by_cases he:y.1.2=0
 ·skip
  refine zC rfl aA (by simp;exact he) ?_
  refine zk 8 rfl (zY s 3 iq j9 rfl (zm rfl (zc rfl (Eh hT s h1 h2.aU) ?_)))
  rw[ey2]
  rintro v h ⟨rfl,s⟩
  refine zk 5 rfl ?_
  by_cases uC:y2.1=0
  ·skip
   refine zC rfl aA (by simp;exact uC) ?_
   refine zk 8 rfl (zY s 3 iq j9 rfl (zm rfl (zc rfl (U1 hT s Ye Yf.aU (Nat.lt_trans h3 (by decide))) ?_)))
   rw[ey3]
   rintro v h ⟨rfl,s⟩
   refine zk 5 rfl ?_
   by_cases HR:y3.1=0
   ·skip
    refine zC rfl aA (by simp;exact HR) ?_
    refine zk 8 rfl (zc rfl (nF hT (s.ae [2]) iJ (by omega)) ?_)
    intro w h s
    have hw:=(s.buf (k:=0) rfl).view.cells
    have s:=s.fX
    refine zk 2 rfl (zf rfl (Kn _ _) (zS rfl (s.dO (k:=4) rfl iF rfl (by decide) hw.1 hw.2) ?_))
    intro h s
    refine zn rfl (zf rfl (D6 _ _) ?_)
    refine zS rfl (by exact s.dO (k:=4) rfl mS rfl (by decide) rfl rfl) (fun h s => ?_)
    refine zk 5 rfl ?_
    have s:=s.ae [2,2,2,0,0]
    have rest:∀lw E,lw=(if lo=0 then low else min low lo)→lw<18446744073709551616→Has E [(0,.ptr a 0),(7,.int .u64 (lw:Int))]→WP ⟨Tryz.prog,told⟩ 118 ckB E h Q:=by
     intro lw E Yg cJ hE
     refine Yd hT s kI.1 kI.2 cJ hE (fun t E' h' hr hg hx l6 s => ?_) (fun E' h' hx l6 s => ?_)
     ·subst Yg I J
      exact hq _ _ _ _ E' h' (.cut t he uC HR hr hg hx) l6 ((bQ.2 ⟨w,(s.ae [2,2,0,0,0]).del 5⟩).ae [1,1,1,0])
     ·subst Yg I J
      exact hq _ _ _ _ E' h' (.jP he uC HR hx) l6 ((bQ.2 ⟨w,(s.ae [2,2,0,0,0]).del 5⟩).ae [1,1,1,0])
    by_cases h0:lo=0
    ·skip
     refine zC rfl aA (by simp;omega) ?_
     exact zk 2 rfl (WP.skip (rest low _ (by rw[aC h0]) tM ⟨rfl,rfl,aa⟩))
    ·skip
     refine zB rfl aA (by simp;omega) ?_
     refine zk 5 rfl (zo rfl (XA rfl rfl Xz) ?_)
     have hmn:min (low:Int) (lo:Int)=((min low lo:Nat):Int):=by omega
     rw[hmn]
     exact zk 2 rfl (rest (min low lo) _ (by rw[aj h0]) (by omega) ⟨rfl,rfl,aa⟩)
   ·skip
    refine zB rfl aA (by simp;exact HR) ?_
    refine zk 7 rfl (WP.ret ?_)
    subst I J
    exact hq _ _ _ _ _ _ (.check he uC HR) rfl ((bQ.2 ⟨dv,s.ae [3,3,0,0,0]⟩).ae [1,1,1,0])
  ·skip
   refine zB rfl aA (by simp;exact uC) ?_
   refine zk 7 rfl (WP.ret ?_)
   subst I J
   exact hq _ _ _ _ _ _ (.force he uC) rfl ((bQ.2 ⟨dv,s.ae [3,3,0,0,0]⟩).ae [1,1,1,0])
 ·skip
  refine zB rfl aA (by simp;exact he) ?_
  exact zk 7 rfl (WP.ret (hq _ _ _ _ _ _ (.app he) rfl ((bQ.2 ⟨dv,s.ae [3,3,0,0,0]⟩).ae [1,1,1,0])))
theorem Vm (hT:W told)(s:Sat h (c7 a p q r .aZ cM aE::cL r p q ε.1::bx q p ε.2.1::aJ p ε.2.2::X::S))(hX:cD X (cE x data))(iI:oF ε)(rR:lo<18446744073709551616)
 (hm:ε.1.bu.length≤1048576)(hk:∀n∈ε.1.bu.map (·.1),(Lit.int .i64 n).wf=true)(Mr:ε.2.1.b=ε.2.2.log)(hz:ε.2.1.base+ε.2.1.b.length+1048584≤1099511627776):
  Call ⟨Tryz.prog,told⟩ 53 [.ptr a 0,.int .u64 (lo:Int),x] h fun v h'=>∃e ai I J,KQ ε lo data cM aE e ai I J∧v=.int .i64 e ∧
   Sat h' (c7 a p q r .aZ I J::cL r p q ai.1::bx q p ai.2.1::aJ p ai.2.2::X::S):=by
 have s0:=s
 have iJ:=s.aI (k:=4) rfl hX
 obtain⟨dv,s⟩:=bQ.1 s
 refine Call.of_wp (hT.free _ rfl) Tryz.func53 rfl rfl (zK 5 rfl (WP.block (zK 4 rfl (zY s 0 oX D2 rfl (zC rfl (Mp ot) (rfl) (zk 6 rfl (zo rfl (a_ rfl rfl rfl (bA aN iJ)) ?_)))))))
 by_cases hb:4096<data.length
 ·skip
  refine zB rfl er (by simp;omega) ?_
  exact zk 7 rfl (WP.ret ⟨aa,_,rfl,2,ε,_,_,.Yc hb,rfl,s0⟩)
 ·have rz:data.length≤4096:=by omega
  refine zC rfl er (by simp;omega) ?_
  refine zk 7 rfl (zY s 0 qz jt rfl (zc rfl (wU hT (s.ae [4])) ?_))
  rintro v h ⟨rfl,rfl⟩
  refine zk 2 rfl ?_
  cases hd:ε.2.2.dead with
  |true =>
   exact zK 5 rfl (WP.ret ⟨aa,_,rfl,9,ε,_,_,.dead rz hd,rfl,s0⟩)
  |false =>
   refine zj rfl (WP.skip (zg rfl (zk 2 rfl (zf rfl (iq _ _) (zl rfl (by exact s.ld (k:=0) rfl j9 rfl) ?_)))))
   refine zc rfl (nG hT (s.ae [3]) iI.lg.size) ?_
   rintro v h ⟨rfl,rfl⟩
   refine zk 7 rfl (zY s 0 nu sD rfl (zc rfl (RJ hT (s.ae [2]) hm hk) ?_))
   intro av h s
   have hl:(aX ε.1.bu).length=ε.1.bu.length:=by rw[aX,(eP _).length_eq,eL]
   refine zo rfl (a_ rfl rfl rfl (s.fN (n:=(aX ε.1.bu).length) (j:=0) rfl (by rw[yO]) (by decide) yI)) ?_
   refine zk 2 rfl (WP.block ?_)
   refine Vk hT (ks:=aX ε.1.bu) (by omega) (aX ε.1.bu).length 0 (ε.2.1.base+ε.2.1.b.length) _ _ _ (by omega) s ⟨rfl,rfl,rfl,rfl,rfl,rfl,rfl,aa⟩ (fun E' h' eS s' => ?_)
   rw[gE] at eS
   have eS:Has E' [(0,.ptr a 0),(1,.int .u64 (lo:Int)),(2,x),(7,.int .u64 (gv ε:Nat))]:=eS
   have s:=s'.del 0
   have tM:gv ε<18446744073709551616:=by
    have:=KN ε.1 (aX ε.1.bu) (ε.2.1.base+ε.2.1.b.length)
    have:=iI.lg.size
    unfold gv;omega
   refine WP.has eS (zw ?_)
   have TZ:=Ya (data:=data) iI Mr hz
   have s:=s.mV
   have s0:=s
   have G4:=eM iJ
   refine WP.drawn [some (0,3),some (0,3),some (0,3),some (0,3),none,none,some (0,2),af,af,af,af,af,af,af,af] rfl (by kernel_rfl) (by kernel_rfl) ?_
   refine zM rfl (zN rfl (zF rfl (iq _ _) (zL rfl (s.ld (k:=2) rfl j9 rfl) (zM rfl (ax.any rfl rfl rfl rfl (OpR.call rfl rfl rfl rfl (oh (z:=8) hT s (by decide) (by simp))) ?_)))))
   intro v1 h s
   rw[dY] at s
   have s1:=s
   obtain⟨lw,Pa⟩:∃lw,lw=le 8 (gv ε):=⟨_,rfl⟩
   have acA:lw.length=8:=by rw[Pa,cq]
   have eck:gZ ε data=bk ε.2 8 0 0 0 (lw++data) []:=by rw[Pa];rfl
   rw[←Pa] at s
   refine zM rfl (ax.any rfl rfl rfl rfl (OpR.pS rfl (s.ae [0,5]) hX rfl rfl rfl rfl (by omega)) ?_)
   intro v2 h s
   obtain⟨vi,vo,vc,rfl⟩:=gU (s.buf (k:=0) rfl).view (by simp only[bY];omega)
   have s2:=s
   refine zO rfl (cx rfl (by rw[sC];rfl)) ?_
   have s:Sat h (.arr 4 .aV []::cP [] []::_):=(s.gh (φ:=True) aa).mU
   refine ax.any rfl rfl rfl rfl (OpR.call rfl rfl rfl rfl (HD (kd:=8) (tx:=0) (pv:=0) (nx:=0) (ch:=.aV) hT (s.ae [7,7,2,0,0]) (aY _ _) ⟨by simp[vY],by decide,by decide,by decide,by simp;omega⟩ iI.lg iI.dk)) ?_
   rintro v h ⟨rfl,s⟩
   rw[show bk (ε.2.1,ε.2.2) 8 0 0 0 (lw++data) []=gZ ε data from eck.symm] at s ⊢
   obtain⟨y1,KR⟩:∃y1,y1=gZ ε data:=⟨_,rfl⟩
   rw[←KR] at s TZ ⊢
   refine zM rfl (zO rfl (dU rfl rfl) (zO rfl (dU rfl rfl) (zA rfl (zA rfl ?_))))
   refine ax.nil ⟨⟨fun _ _=>.inr ⟨rfl,⟨_,aS rfl⟩,aB _ rfl⟩,fun _ _=>.inr ⟨rfl,⟨_,iL rfl⟩,aB _ rfl⟩,fun _ _=>.inr ⟨rfl,⟨_,g8 rfl (iq _ _)⟩,aB _ rfl⟩,rG (.inr ⟨rfl,⟨_,aH rfl (s0.ld (k:=2) rfl j9 rfl)⟩,aB _ rfl⟩) (.inr ⟨rfl,⟨_,aH rfl (s1.ld (k:=2) rfl j9 rfl)⟩,aB _ rfl⟩) (.inr ⟨rfl,⟨_,aH rfl (s2.ld (k:=3) rfl j9 rfl)⟩,aB _ rfl⟩),aa,aa,fun _ _=>.inr ⟨rfl,⟨_,aS rfl⟩,G4⟩,aa,aa,aa,aa,aa,aa,aa,aa,aa⟩,?_⟩
   have s:=((s.del 4).del 3).del 2
   have s:=(bQ.2 ⟨dv,s.ae [4,4]⟩).ae [1,1,1,0]
   refine Vl hT hX rz s TZ.1 TZ.2.1 TZ.2.2 tM rR ⟨rfl,rfl,rfl,rfl,rfl,rfl,aa⟩ (fun e y' I J E' h' hc l6 s2 => ?_)
   subst KR
   exact⟨aa,_,lR l6,e,(ε.1,y'),I,J,.go e y' I J rz hd hc,rfl,s2.ae [3,3,0,0,0]⟩
end
theorem Mx : ∀ {l:List Nat},(∀b∈l,b<256)→bytesOf (ofBytes l)=some l:=by
 intro l
 induction l with
 |nil=>intro _;rfl
 |cons b l J =>
  intro h
  have I:=J fun x hx=>h x (cU _ hx)
  have h2:=h b c8
  rw[ofBytes] at I
  simp only[ofBytes,dQ,bytesOf,I,ay,DG,and_true]
  omega
theorem cvS {v:V}(I:View h v l): convV Tryz.prog h 23 9 v=some (.str l,h):=by
 obtain⟨J,(⟨rfl|⟨ea,rfl⟩,rfl⟩|⟨id,off,cap,n,cs,st,rfl,hg,hl,ho,hc,_⟩)⟩:=I
 ·simp only[convV,aN,vX,Tryz.underlying5]
 ·simp only[convV,aN,vX,Tryz.underlying5]
 ·have e:rdN h id off l.length=some (ofBytes l):=by rw[yE hg hl ho,hc]
  simp only[convV,aN,vX,Tryz.underlying5,e,Mx J]
def T0 (l:List Nat): List Nat:=if l.length≠512∨l=List.replicate 512 0 then[] else l.drop 12
structure DK (δ Mj:Dk): Prop where
 dead:Mj.dead=δ.dead
 aU:Mj.aU=δ.aU
 aM:Mj.aM=δ.aM
 now:Mj.now=δ.now
theorem DK.refl (δ:Dk): DK δ δ:=⟨rfl,rfl,rfl,rfl⟩
theorem DK.at (h:DK δ Mj)(n:Int): Mj.at n=δ.at n:=by rw[Dk.at,Dk.at,h.now,h.aM]
structure DA (N:Nat)(δ:Dk): Prop where
 alive:δ.dead=false
 aU:δ.aU<0
 aM:δ.aM.length=N
 keys:∀k:Int,k∈δ.now.map (·.1)→0≤k∧k<N
 nodup:(δ.now.map (·.1)).Nodup
 good:∀n:Int,0≤n→n<N→h_ (δ.at n)=0
theorem DA.of (h:DA N δ)(k:DK δ Mj): DA N Mj :=
 ⟨k.dead.trans h.alive,by rw[k.aU];exact h.aU,by rw[k.aM];exact h.aM,by rw[k.now];exact h.keys,by rw[k.now];exact h.nodup,fun n a b=>by rw[k.at];exact h.good n a b⟩
theorem j0 (h:δ.aU<0): δ.dc=δ:=by
 have:(if 0<δ.aU then δ.aU-1 else δ.aU)=δ.aU:=aj (by omega)
 rw[Dk.dc,this]
theorem H6 (h:DA N δ): δ.fP=(0,{ δ with bL:=δ.log.length }):=by
 rw[Dk.fP,aj (by rw[h.alive];decide),aj (by have:=h.aU;omega),j0 h.aU]
theorem Vn (h:DA N δ)(I:b.length≤64): δ.pU b=(0,{ δ with mark:=b }):=by
 rw[Dk.pU,aj (by rw[h.alive];decide),aj (by omega),aj (by have:=h.aU;omega),j0 h.aU]
theorem Fz {x:LD}{n:Nat}(h:DA N x.2): (bG x n).1=0∧DK x.2 (bG x n).2.2:=by
 unfold bG
 split
 ·exact⟨rfl,DK.refl _⟩
 ·rw[H6 h,aj (by simp)]
  exact⟨rfl,rfl,rfl,rfl,rfl⟩
theorem Sb (h:DA N δ)(h0:0≤n)(h1:n<N)(hb:b.length=512)(hc:h_ b=0):
  (δ.dx n b).1=0∧DA N (δ.dx n b).2∧∀m,(δ.dx n b).2.at m=if n=m then b else δ.at m:=by
 have e:δ.dx n b=(0,δ.wr n b):=by
  rw[Dk.dx,aj (by rw[h.alive];decide),aj (not_not_intro ⟨h0,by rw[h.aM];exact h1,hb⟩),aj (by have:=h.aU;omega)]
 have uU:(δ.wr n b).now=cW n b δ.now:=rfl
 have fS:(δ.wr n b).aM=δ.aM:=rfl
 have I:∀m,(δ.wr n b).at m=if n=m then b else δ.at m:=fun m=>by
  grind[Dk.at,kD]
 have J:(δ.wr n b).aU=δ.aU:=by
  show δ.dc.aU=δ.aU
  rw[j0 h.aU]
 rw[e]
 refine⟨rfl,⟨h.alive,by rw[J];exact h.aU,h.aM,fun x hx => ?_,?_,fun m a c => ?_⟩,I⟩
 ·rcases tJ.1 hx with rfl|hx
  ·omega
  ·exact h.keys x hx
 ·exact lT h.nodup
 ·rw[I]
  by_cases hm:n=m
  ·grind
  ·rw[aj hm];exact h.good m a c
theorem laidP_get : ∀ {l:List (Int×List Nat)} {m:List (Option (List Nat))} {n:Int} {N:Nat},m.length=N→(l.map (·.1)).Nodup→(∀k:Int,k∈l.map (·.1)→0≤k∧k<N)→0≤n→(laidP l m)[n.toNat]?=match lookL n l with
  |some b=>some (some b)
  |none=>m[n.toNat]?:=by
 intro l
 induction l with
 |nil=>intro m n N _ _ _ _;rfl
 |cons e l ih =>
  intro m n N hm hd J hn
  have I:e.1∉l.map (·.1)∧(l.map (·.1)).Nodup:=List.nodup_cons.1 hd
  have h1:=J e.1 (by simp)
  rw[laidP,ih (N:=N) (by grind) I.2 (fun x hx=>J x (by grind)) hn]
  grind[lookL,jw]
theorem Vo (h:DA N δ): δ.jy.1=0∧DA N δ.jy.2∧∀m,0≤m→δ.jy.2.at m=δ.at m:=by
 have e:δ.jy=(0,δ.sync):=by rw[Dk.jy,aj (by rw[h.alive];decide),aj (by have:=h.aU;omega),j0 h.aU]
 have I:∀m,0≤m→δ.sync.at m=δ.at m:=fun m hm=>by
  rw[Dk.at,Dk.at]
  have e1:lookL m δ.sync.now=none:=rfl
  rw[show δ.sync.aM=laidP δ.now δ.aM from rfl,laidP_get h.aM h.nodup h.keys hm]
  cases hq:lookL m δ.now with
  |some b=>rfl
  |none=>rfl
 rw[e]
 refine⟨rfl,⟨h.alive,h.aU,by rw[show δ.sync.aM=laidP δ.now δ.aM from rfl,yR];exact h.aM,fun x J=>(by cases J),oP,fun m a c => ?_⟩,I⟩
 rw[I m a];exact h.good m a c
theorem JM {m:List Nat}{b:Nat}(J:a+m.length≤l.length)(h2:a+m.length≤b): (bH l a m).drop b=l.drop b:=by
 have I:(l.take a).length=a:=by grind
 rw[bH,←dB,z6,jH (by grind),dY,List.drop_drop,bY,I]
 congr 1;omega
theorem C4 {m:List Nat}(h:a+m.length≤l.length): (bH l a m)[i]?=if a≤i∧i<a+m.length then m[i-a]? else l[i]?:=by
 grind[bH]
theorem xg {m:List Nat}(I:l.drop 12=m.drop 12)(J:12≤a): dg l a z=dg m a z:=by
 have e:∀l:List Nat,(l.take (a+z)).drop a=((l.drop 12).drop (a-12)).take z:=fun l=>by
  simp_all[sO]
 rw[dg,dg,e,e,I]
theorem JN {m:List Nat}(I:l.drop 12=m.drop 12): ∀(n i:Nat) (t:List Bool),cellsL l low n i t=cellsL m low n i t:=by
 intro n
 induction n<;>grind[dH,xg,iM,cellsL]
theorem My {m:List Nat}(J:l.length=m.length)(I:l.drop 12=m.drop 12): cg l=cg m:=by
 have e1:kP l=kP m:=xg I (by omega)
 have e2:iG l=iG m:=xg I (by omega)
 have e3:l.getD 13 0=m.getD 13 0:=by
  have:∀l:List Nat,l[13]?=(l.drop 12)[1]?:=fun l=>by simp
  grind
 grind[cg,JN]
theorem yZ : ∀(k n:Nat),leN (le k n)=n%256^k:=by
 intro k
 induction k<;>grind[le,leN,Nat.mod_mul]
theorem FA {n:Nat}(J:b.length=512): (c_ b n).drop 12=b.drop 12∧(c_ b n).length=512∧(c_ b n).drop 4=(oE b n).drop 4∧dg (c_ b n) 0 4=CI 0 ((oE b n).drop 4)%4294967296:=by
 have h1:=wV (n:=n) J
 have h2:(c_ b n).length=512:=by grind[c_,c5,cq]
 have I:(c_ b n).drop 4=(oE b n).drop 4:=by rfl
 have h4:(oE b n).drop 12=b.drop 12:=by grind[oE,JM,cq]
 refine⟨?_,h2,I,?_⟩
 ·have:=iZ (List.drop 8) I
  grind[List.drop_drop]
 ·have e:(c_ b n).take 4=le 4 (CI 0 ((oE b n).drop 4)):=by
   rfl
  grind[dg,yZ]
theorem Vp {n:Nat}(I:∀x∈b,x<256): ∀x∈oE b n,x<256:=Fa I (L6 _ _)
theorem Pb {n:Nat}(I:cg b=true)(hb:∀x∈b,x<256): h_ (c_ b n)=0∧cg (c_ b n)=true∧T0 (c_ b n)=b.drop 12:=by
 have J:=gI I
 obtain⟨h1,h2,h3,h4⟩:=FA (n:=n) J
 have G_:cg (c_ b n)=true:=by grind[My]
 have hz:cg (List.replicate 512 0)=false:=by decide +kernel
 grind[Bx,Vp,h_,T0]
def pgA (ε:bq)(n:Int): List Nat:=match lookL n ε.1.aF with
 |some i=>match ε.1.ag[i.toNat]? with
  |some f=>f.b
  |none=>ε.2.2.at n
 |none=>ε.2.2.at n
structure Sc (N:Nat)(δ:Dk)(aF:List (Int×Int))(i:Nat)(f:Fm): Prop where
 lt:f.bj<N
 here:lookL f.bj aF=some (i:Int)
 aE:h_ f.b=0
 same:f.changed=false→f.b=δ.at f.bj
 nP:f.changed=true→cg f.b=true
structure EC (N:Nat)(ε:bq): Prop where
 dk:DA N ε.2.2
 nodup:(ε.1.aF.map (·.1)).Nodup
 jZ:∀(n i:Int),lookL n ε.1.aF=some i→0≤n∧∃(j:Nat) (f:Fm),i=j∧ε.1.ag[j]?=some f∧f.bj=n
 back:∀(i:Nat) (f:Fm),ε.1.ag[i]?=some f→f.bj<0∨Sc N ε.2.2 ε.1.aF i f
 tU:∀k:Int,k∈ε.1.bu.map (·.1)→0≤k∧k<N
 Bg:(ε.1.bu.map (·.1)).Nodup
theorem oH (h:lookL n ε.1.aF=some (j:Int))(I:ε.1.ag[j]?=some f): pgA ε n=f.b:=by
 grind[pgA]
theorem m8 (h:lookL n ε.1.aF=none): pgA ε n=ε.2.2.at n:=by simp only[pgA,h]
theorem EC.cases (h:EC N ε)(n:Int): (∃(j:Nat) (f:Fm),lookL n ε.1.aF=some (j:Int)∧ε.1.ag[j]?=some f∧f.bj=n∧0≤n∧Sc N ε.2.2 ε.1.aF j f∧pgA ε n=f.b)∨(lookL n ε.1.aF=none∧pgA ε n=ε.2.2.at n):=by
 cases J:lookL n ε.1.aF with
 |none=>grind[m8]
 |some i =>
  obtain⟨h0,j,f,rfl,I,hp⟩:=h.jZ n i J
  refine .inl ⟨j,f,rfl,I,hp,h0,?_,oH J I⟩
  rcases h.back j f I with h1|h1
  ·omega
  ·exact h1
theorem uF {m:List Fm}{g x:Fm}(I:m[i]?=some f)(J:(m.set i g)[j]?=some x): (i=j∧x=g)∨(i≠j∧m[j]?=some x):=by
 grind
theorem EC.set {g:Fm}{y:Lg}(h:EC N ε)(hf:ε.1.ag[i]?=some f)(hp:g.bj=f.bj)(w5:DA N δ)
 (hg:g.bj<0∨Sc N δ ε.1.aF i g)(ho:∀(j:Nat) (x:Fm),i≠j→ε.1.ag[j]?=some x→0≤x.bj→δ.at x.bj=ε.2.2.at x.bj)(hd:∀k:Int,k∈d.map (·.1)→0≤k∧k<N)(m9:(d.map (·.1)).Nodup):
  EC N ({ ε.1 with ag:=ε.1.ag.set i g,bu:=d },(y,δ)):=by
 refine⟨w5,h.nodup,fun n k hk => ?_,fun j x J => ?_,hd,m9⟩
 ·obtain⟨h0,j,x,rfl,J,H7⟩:=h.jZ n k hk<;>grind
 ·rcases uF hf J with⟨rfl,rfl⟩|⟨xB,J⟩
  ·exact hg
  ·rcases h.back j x J with I|I
   ·omega
   ·by_cases h2:x.bj<0
    ·omega
    ·refine .inr ⟨I.lt,I.here,I.aE,fun hc => ?_,I.nP⟩
     rw[ho j x xB J (by omega)];exact I.same hc
theorem KS {g:Fm}{x:LD}(I:ε.1.ag[i]?=some f)(J:g.b=f.b)(hx:lookL n ε.1.aF=none→x.2.at n=ε.2.2.at n)(hy:∀j:Int,lookL n ε.1.aF=some j→∃f',ε.1.ag[j.toNat]?=some f'):
  pgA ({ ε.1 with ag:=ε.1.ag.set i g,bu:=d },x) n=pgA ε n:=by
 unfold pgA
 grind
theorem EC.there (h:EC N ε): ∀j:Int,lookL n ε.1.aF=some j→∃f',ε.1.ag[j.toNat]?=some f':=fun j I=>by
 obtain⟨_,k,f,rfl,J,_⟩:=h.jZ n j I<;>grind
theorem EC.out (h:EC N ε)(I:ε.1.ag[i]?=some f):
  (outF ε i).1=0∧EC N (outF ε i).2∧(∀n,pgA (outF ε i).2 n=pgA ε n)∧(outF ε i).2.1.aF=ε.1.aF∧∃g,(outF ε i).2.1.ag[i]?=some g∧g.bj=f.bj∧(0≤g.bj→g.changed=false):=by
 have hi:=(List.getElem?_eq_some_iff.1 I).1
 unfold outF
 rw[I]
 simp only
 by_cases hc:f.bj<0∨f.changed=false
 ·grind
 ·rw[aj hc]
  have J:0≤f.bj:=by omega
  have xG:f.changed=true:=by grind
  have ho:=(h.back i f I).resolve_left (by omega)
  have hg:=ho.nP xG
  rw[aj (by grind)]
  obtain⟨e1,k1⟩:=Fz (x:=ε.2) (n:=dg f.b 4 8) h.dk
  rw[aj (by omega)]
  obtain⟨e2,k2,k3⟩:=Sb (h.dk.of k1) J ho.lt (gI hg) ho.aE
  rw[aj (by omega)]
  have v7:∀m,f.bj≠m→((bG ε.2 (dg f.b 4 8)).2.2.dx f.bj f.b).2.at m=ε.2.2.at m:=fun m hm=>by rw[k3,aj hm,k1.at]
  refine⟨rfl,h.set I rfl k2 (.inr ⟨ho.lt,ho.here,ho.aE,fun _ => ?_,fun hq=>(by cases hq)⟩) (fun j x xB hx h0=>v7 _ fun Pc => ?_) (fun k hk => ?_) (lT h.Bg),fun n => ?_,rfl,_,ke hi,rfl,fun _=>rfl⟩
  ·grind
  ·rcases h.back j x hx with h1|h1
   ·omega
   ·have:=h1.here
    rw[←Pc,ho.here] at this
    grind
  ·rcases tJ.1 hk with rfl|hk
   ·exact⟨J,ho.lt⟩
   ·exact h.tU k hk
  ·exact KS I (by rfl) (fun hn=>v7 n fun e=>by rw[←e,ho.here] at hn;cases hn) h.there
theorem fH.back (I:fH π bU){x:Fm}(J:bU.ag[i]?=some x): ∃f t,π.ag[i]?=some f∧x={ f with fA:=t }:=by
 have hi:=(List.getElem?_eq_some_iff.1 J).1
 rw[I.len] at hi
 have hf:π.ag[i]?=some (π.ag[i]'hi):=bw _
 obtain⟨t,ht⟩:=I.get i _ hf<;>grind
theorem EC.rY (h:EC N ε)(I:fH ε.1 bU): EC N (bU,ε.2)∧∀n,pgA (bU,ε.2) n=pgA ε n:=by
 refine⟨⟨h.dk,by rw[I.aF];exact h.nodup,fun n i hi => ?_,fun i x hx => ?_,by rw[I.bu];exact h.tU,by rw[I.bu];exact h.Bg⟩,fun n => ?_⟩
 ·rw[I.aF] at hi
  obtain⟨h0,j,f,rfl,hf,hp⟩:=h.jZ n i hi
  obtain⟨t,ht⟩:=I.get j f hf
  exact⟨h0,j,_,rfl,ht,hp⟩
 ·obtain⟨f,t,hf,rfl⟩:=I.back hx
  rcases h.back i f hf with J|J
  ·grind
  ·exact .inr ⟨J.lt,by rw[I.aF];exact J.here,J.aE,J.same,J.nP⟩
 ·unfold pgA
  simp only[I.aF]
  cases hl:lookL n ε.1.aF with
  |none=>rfl
  |some i =>
   obtain⟨h0,j,f,rfl,hf,hp⟩:=h.jZ n i hl
   obtain⟨t,ht⟩:=I.get j f hf<;>grind
theorem EC.dz {g:Fm}(h:EC N ε)(hg:ε.1.ag[i]?=some g)(hp:g.bj=f.bj)(hc:0≤g.bj→g.changed=false): EC N (dz ε.1 i f,ε.2)∧(∀n,pgA (dz ε.1 i f,ε.2) n=pgA ε n) ∧
  (dz ε.1 i f).ag[i]?=some eR∧∀n,lookL n ε.1.aF=none→lookL n (dz ε.1 i f).aF=none:=by
 have hi:=(List.getElem?_eq_some_iff.1 hg).1
 have J:(ε.1.ag.set i eR)[i]?=some eR:=ke hi
 have Pd:∀n,lookL n (Am.dz ε.1 i f).aF=if 0≤f.bj∧f.bj=n then none else lookL n ε.1.aF:=fun n=>by
  rw[Am.dz]
  by_cases I:f.bj<0
  ·grind
  ·rw[aj I,Ff h.nodup]
   simp_all
 refine⟨⟨h.dk,?_,fun n k hk => ?_,fun j x hx => ?_,h.tU,h.Bg⟩,fun n => ?_,J,fun n hn => ?_⟩
 ·rw[Am.dz]
  by_cases I:f.bj<0
  ·rw[aC I];exact h.nodup
  ·rw[aj I];exact wS h.nodup
 ·rw[Pd] at hk
  split at hk
  ·cases hk
  ·obtain⟨I,j,x,rfl,hx,H7⟩:=h.jZ n k hk
   refine⟨I,j,x,rfl,?_,H7⟩
   show(ε.1.ag.set i eR)[j]?=some x
   grind
 ·rcases uF hg hx with⟨rfl,rfl⟩|⟨xB,hx⟩
  ·exact .inl (by decide)
  ·rcases h.back j x hx with h1|h1
   ·omega
   ·by_cases hx0:x.bj<0
    ·omega
    refine .inr ⟨h1.lt,?_,h1.aE,h1.same,h1.nP⟩
    rw[Pd,aj]
    ·exact h1.here
    ·rintro⟨I,Pc⟩
     rcases h.back i g hg with h2|h2
     ·omega
     ·have e:=h2.here
      rw[hp,Pc,h1.here] at e
      grind
 ·rcases h.cases n with⟨j,x,hl,hx,H7,I,ho,e⟩|⟨hl,e⟩
  ·rw[e]
   by_cases Pc:f.bj=n
   ·have xB:i=j:=by
     rcases h.back i g hg with h2|h2
     ·omega
     ·have e:=h2.here
      grind
    subst xB
    rw[hg] at hx
    have:=b6 hx
    subst this
    rw[m8 (by grind)]
    rw[ho.same (hc (by omega)),hp,Pc]
   ·refine oH (j:=j) (by grind) ?_
    show(ε.1.ag.set i eR)[j]?=some x
    grind
  grind[m8]
 ·grind
theorem EC.iV {e:Fm}(h:EC N ε)(he:ε.1.ag[i]?=some e)(hp:e.bj<0)(hl:lookL n ε.1.aF=none)(h0:0≤n)(h1:n<N): EC N (iV ε.1 i n (ε.2.2.at n),ε.2)∧∀m,pgA (iV ε.1 i n (ε.2.2.at n),ε.2) m=pgA ε m:=by
 have hi:=(List.getElem?_eq_some_iff.1 he).1
 have I:(ε.1.ag.set i ⟨n,ε.2.2.at n,1,true,false⟩)[i]?=some ⟨n,ε.2.2.at n,1,true,false⟩:=ke hi
 have Pd:∀m,lookL m (Am.iV ε.1 i n (ε.2.2.at n)).aF=if n=m then some (i:Int) else lookL m ε.1.aF:=fun m=>kD _
 refine⟨⟨h.dk,lT h.nodup,fun m k hk => ?_,fun j x hx => ?_,h.tU,h.Bg⟩,fun m => ?_⟩
 ·rw[Pd] at hk
  split at hk
  ·rename_i J
   have:=b6 hk
   subst this
   subst J
   exact⟨h0,i,_,rfl,I,rfl⟩
  ·obtain⟨h0,j,x,rfl,hx,H7⟩:=h.jZ m k hk
   refine⟨h0,j,x,rfl,?_,H7⟩
   show(ε.1.ag.set i _)[j]?=some x
   grind
 ·rcases uF he hx with⟨rfl,rfl⟩|⟨xB,hx⟩
  ·exact .inr ⟨h1,by grind,h.dk.good n h0 h1,fun _=>rfl,fun hq=>(by cases hq)⟩
  ·rcases h.back j x hx with h2|h2
   ·omega
   ·refine .inr ⟨h2.lt,?_,h2.aE,h2.same,h2.nP⟩
    rw[Pd,aj]
    ·exact h2.here
    ·rintro rfl
     rw[h2.here] at hl;cases hl
 ·by_cases J:n=m
  ·subst J
   rw[oH (j:=i) (by grind) I,m8 hl]
  ·rcases h.cases m with⟨j,x,iQ,hx,H7,_,ho,e2⟩|⟨iQ,e2⟩
   ·rw[e2]
    refine oH (j:=j) (by grind) ?_
    show(ε.1.ag.set i _)[j]?=some x
    grind
   grind[m8]
theorem EC.frame {g:Fm}(h:EC N ε)(hf:ε.1.ag[i]?=some f)(J:g.bj=f.bj)(hb:g.b=f.b)(hc:g.changed=f.changed): EC N ({ ε.1 with ag:=ε.1.ag.set i g },ε.2)∧∀n,pgA ({ ε.1 with ag:=ε.1.ag.set i g },ε.2) n=pgA ε n:=by
 refine⟨h.set (y:=ε.2.1) (δ:=ε.2.2) hf J h.dk ?_ (fun _ _ _ _ _=>rfl) h.tU h.Bg,fun n=>KS hf hb (fun _=>rfl) h.there⟩
 rcases h.back i f hf with I|I
 ·omega
 ·exact .inr ⟨by rw[J];exact I.lt,by rw[J];exact I.here,by rw[hb];exact I.aE,by rw[J,hb,hc];exact I.same,by rw[hb,hc];exact I.nP⟩
theorem fI.ec (hr:fI ε n e b ai)(h:EC N ε): EC N ai∧(∀m,pgA ai m=pgA ε m)∧(0≤n→n<N→e=0∧b=pgA ε n)∧(¬(0≤n∧n<N)→e=1∧ai=ε):=by
 have fS:=h.dk.aM
 cases hr with
 |arg I=>grind
 |Bd i f h1 J hl hf =>
  obtain⟨k1,k2⟩:=h.frame (g:={ f with fA:=true,pins:=f.pins+1 }) hf rfl rfl rfl<;>grind[oH]
 |out bU i f h1 J hl I hf hh he=>exact absurd ((h.rY I).1.out hf).1 he
 |read bU i f h1 J hl I hf hh he hr =>
  obtain⟨k1,k2,k3,k4,g,k5,k6,k7⟩:=(h.rY I).1.out hf
  refine absurd ?_ hr
  rw[fS] at J
  rw[Dk.q_,aj (by rw[k2.dk.alive];decide),aj (by rw[k2.dk.aM];exact not_not_intro ⟨h1,J⟩)]
 |bad bU i f h1 J hl I hf hh he hr hc =>
  obtain⟨k1,k2,k3,k4,g,k5,k6,k7⟩:=(h.rY I).1.out hf
  rw[fS] at J
  exact absurd (k2.dk.good n h1 J) hc
 |load bU i f h1 J hl I hf hh he hr hc =>
  obtain⟨n1,n2⟩:=h.rY I
  obtain⟨k1,k2,k3,k4,g,k5,k6,k7⟩:=n1.out hf
  rw[fS] at J
  obtain⟨f1,f2,f3,f4⟩:=k2.dz k5 k6 k7
  have iQ:lookL n (outF (bU,ε.2) i).2.1.aF=none:=by rw[k4];rw[I.aF];exact hl
  obtain⟨l1,l2⟩:=f1.iV f3 (by decide) (f4 n iQ) h1 J
  exact⟨l1,fun m=>by grind,fun _ _=>⟨rfl,by grind[m8]⟩,fun I=>absurd ⟨h1,J⟩ I⟩
theorem Pe {x:LD}(h:EC N (π,x)): EC N ((unpinF π n).2,x)∧∀m,pgA ((unpinF π n).2,x) m=pgA (π,x) m:=by
 unfold unpinF
 split
 ·grind
 ·split
  ·grind
  ·rename_i i hi f I
   exact h.frame (g:={ f with pins:=f.pins-1 }) I rfl rfl rfl
theorem mK.ec (I:mK ε n e b ai)(h:EC N ε)(J:∀f∈ε.1.ag,f.pins=0): EC N ai∧(∀m,pgA ai m=pgA ε m)∧(0≤n→n<N→e=0∧b=pgA ε n)∧(¬(0≤n∧n<N)→e=1∧ai=ε):=by
 cases I with
 |dead hd=>rw[h.dk.alive] at hd;cases hd
 |jG e b ai hd I he =>
  obtain⟨k1,k2,k3,k4⟩:=I.ec h<;>grind
 |w6 b ai hd I he=>exact absurd (I.BG J).1 he
 |read b ai hd I he =>
  obtain⟨k1,k2,k3,k4⟩:=I.ec h<;>grind[Pe]
theorem GRd.ec (I:GRd ε now false n e b ai)(h:EC N ε)(J:∀f∈ε.1.ag,f.pins=0): EC N ai∧(∀m,pgA ai m=pgA ε m) ∧
  (0≤n→n<N→e=0∧b=(match lookL n now with|some b=>b|none=>pgA ε n))∧(¬(0≤n∧n<N)→e=1):=by
 have fS:=h.dk.aM
 cases I with
 |arg hn=>grind
 |bX _ _ ho=>cases ho
 |own b h1 h2 _ hl=>grind
 |read e b ai h1 h2 _ hl I =>
  obtain⟨k1,k2,k3,k4⟩:=I.ec h J<;>grind
theorem uG : ∀(N:Nat) (l:List Int),l.Nodup→(∀n∈l,0≤n∧n<N)→l.length≤N:=by
 intro N
 induction N with
 |zero =>
  intro l _ h
  cases l<;>grind[List.mem_cons_self]
 |succ N I =>
  intro l hd h
  have J:=I (l.erase (N:Int)) (hd.erase _) fun n hn=>by
   grind
  grind
structure NW (N:Nat)(now:List (Int×List Nat)): Prop where
 good:∀e∈now,cg e.2=true∧∀x∈e.2,x<256
 keys:∀k:Int,k∈now.map (·.1)→0≤k∧k<N
 nodup:(now.map (·.1)).Nodup
theorem NW.nil (N:Nat): NW N []:=⟨fun e h=>(by cases h),fun k h=>(by cases h),oP⟩
theorem Mz {a:α}: ∀ {l:List (Int×α)} {e:Int×α},e∈cW n a l→e=(n,a)∨e∈l:=by
 intro l
 induction l<;>grind[cW]
theorem NW.put (h:NW N now)(J:0≤n)(h1:n<N)(hg:cg b=true)(hb:∀x∈b,x<256): NW N (cW n b now):=by
 refine⟨fun e he => ?_,fun k I => ?_,lT h.nodup⟩
 ·rcases Mz he with rfl|he
  ·grind
  ·exact h.good e he
 ·rcases tJ.1 I with rfl|I
  ·omega
  ·exact h.keys k I
theorem NW.len (h:NW N now): now.length≤N:=by
 have:=uG N _ h.nodup h.keys
 rwa [eL] at this
theorem NW.look (h:NW N now)(I:lookL n now=some b): cg b=true∧∀x∈b,x<256:=h.good _ (jE I)
theorem tS.ec (I:tS ε now false n b e dw ai)(h:EC N ε)(J:∀f∈ε.1.ag,f.pins=0): EC N ai∧(∀m,pgA ai m=pgA ε m) ∧
  (¬(0≤n∧n<N)→e=1∧dw=now)∧(0≤n→n<N→cg b=false→e=4∧dw=now)∧(0≤n→n<N→cg b=true→e=0∧dw=cW n b now):=by
 cases I with
 |may e c ai I he =>
  obtain⟨k1,k2,k3,k4⟩:=I.ec h J<;>grind
 |bad c ai I hg =>
  obtain⟨k1,k2,k3,k4⟩:=I.ec h J<;>grind
 |done c ai I hg =>
  obtain⟨k1,k2,k3,k4⟩:=I.ec h J<;>grind
theorem jg.ec {l:List Int}{cs:List cO}(I:jg now l ε e cs ai): EC N ε→gP ε→(∀n∈l,0≤n∧n<N)→EC N ai∧(∀m,pgA ai m=pgA ε m)∧e=0:=by
 induction I with
 |nil ε=>grind
 |err n l ε e b ai I he =>
  intro h J hl
  obtain⟨k1,k2,k3,k4⟩:=I.ec h J.pins<;>grind
 |part n l ε ff b ai c e cs lN I hb hd hc jC ht ih =>
  intro h J hl
  obtain⟨k1,k2,k3,k4⟩:=I.ec h J.pins
  obtain⟨i1,i2,i3⟩:=ih k1 (I.kI J) fun m hm=>hl m (cU _ hm)<;>grind
 |whole n l ε ff b ai e cs lN I hb hd ht ih =>
  intro h J hl
  obtain⟨k1,k2,k3,k4⟩:=I.ec h J.pins
  obtain⟨i1,i2,i3⟩:=ih k1 (I.kI J) fun m hm=>hl m (cU _ hm)<;>grind
theorem EC.log {x:LD}(h:EC N ε)(k:DK ε.2.2 x.2): EC N (ε.1,x)∧∀m,pgA (ε.1,x) m=pgA ε m:=by
 refine⟨⟨h.dk.of k,h.nodup,h.jZ,fun i f J => ?_,h.tU,h.Bg⟩,fun m => ?_⟩
 ·rcases h.back i f J with I|I
  ·omega
  ·exact .inr ⟨I.lt,I.here,I.aE,fun hc=>by rw[k.at];exact I.same hc,I.nP⟩
 ·unfold pgA
  simp only[k.at]
theorem EC.put (h:EC N ε)(hl:lookL n ε.1.aF=some (i:Int))(I:ε.1.ag[i]?=some f)(hg:cg b=true)(hb:∀x∈b,x<256)(h0:0≤n)(h1:n<N):
  EC N (BI ε.1 n i f b aD,ε.2)∧∀m,pgA (BI ε.1 n i f b aD,ε.2) m=if m=n then c_ b aD else pgA ε m:=by
 obtain⟨s1,s2,s3⟩:=Pb (n:=aD) hg hb
 have hi:=(List.getElem?_eq_some_iff.1 I).1
 have hp:f.bj=n:=by
  obtain⟨_,j,x,xB,hx,J⟩:=h.jZ n i hl<;>grind
 have ho:=(h.back i f I).resolve_left (by omega)
 refine⟨h.set (y:=ε.2.1) (δ:=ε.2.2) I rfl h.dk (.inr ⟨ho.lt,ho.here,s1,fun hq=>(by cases hq),fun _=>s2⟩) (fun _ _ _ _ _=>rfl) (fun k hk => ?_) (lT h.Bg),fun m => ?_⟩
 ·rcases tJ.1 hk with rfl|hk
  ·omega
  ·exact h.tU k hk
 ·by_cases hm:m=n
  ·subst hm
   rw[aC rfl]
   exact oH (ε:=(BI ε.1 m i f b aD,ε.2)) hl (ke hi)
  ·rcases h.cases m with⟨j,x,iQ,hx,J,_,_,e2⟩|⟨iQ,e2⟩<;>grind[oH,BI,m8]
theorem PtR.ec {l:List Int}(I:PtR now aD l ε e ai): EC N ε→gP ε→NW N now→(∀n∈l,0≤n∧n<N)→EC N ai∧e=0 ∧
  ∀m,pgA ai m=if m∈l then(match lookL m now with|some b=>c_ b aD|none=>pgA ε m) else pgA ε m:=by
 induction I with
 |nil ε=>grind
 |jG n l ε e b ai I he =>
  intro h J hn hl
  have:=hl n c8
  exact absurd ((I.ec h).2.2.1 this.1 this.2).1 he
 |bad n l ε b0 b ai I hb he =>
  intro h J hn hl
  exact absurd ((I.put (b:=b) (aD:=aD) J).2.2 (hn.look hb).1) he
 |put n l ε b0 b ai e lN I hb he ht ih =>
  intro h J hn hl
  have GY:=hl n c8
  obtain⟨k1,k2,k3,k4⟩:=I.ec h
  obtain⟨i,f,p1,p2,p3,p4,p5⟩:=I.at J.pins
  have hg:=hn.look hb
  have e1:=w_ (aD:=aD) p1 p2 p3 hg.1
  obtain⟨q1,q2⟩:=k1.put (aD:=aD) p1 p2 hg.1 hg.2 GY.1 GY.2
  have Pf:=(I.put (b:=b) (aD:=aD) J).1
  rw[e1] at ih Pf
  obtain⟨i1,i2,i3⟩:=ih q1 Pf hn fun m hm=>hl m (cU _ hm)
  refine⟨i1,i2,fun m => ?_⟩
  rw[i3,q2]
  by_cases hm:m=n
  ·grind
  ·grind
theorem y5 : ∀ {l:List Int} {ε:bq},EC N ε→(∀n∈l,(lookL n ε.1.aF).isSome=true)→(writeAllF l ε).1=0∧EC N (writeAllF l ε).2∧(∀m,pgA (writeAllF l ε).2 m=pgA ε m):=by
 intro l
 induction l with
 |nil=>intro ε h _;exact⟨rfl,h,fun _=>rfl⟩
 |cons n l ih =>
  intro ε h hl
  cases I:lookL n ε.1.aF with
  |none=>grind
  |some i =>
   obtain⟨_,j,f,rfl,J,hp⟩:=h.jZ n i I
   obtain⟨k1,k2,k3,k4,_⟩:=h.out J<;>grind[eX,Int.toNat_natCast,writeAllF]
theorem Pg (h:EC N ε): (fh ε.1 ε.2.2).1=0∧EC N ((fh ε.1 ε.2.2).2.1,(ε.2.1,(fh ε.1 ε.2.2).2.2))∧∀m,0≤m→pgA ((fh ε.1 ε.2.2).2.1,(ε.2.1,(fh ε.1 ε.2.2).2.2)) m=pgA ε m:=by
 obtain⟨s1,s2,s3⟩:=Vo h.dk
 have e:fh ε.1 ε.2.2=(0,{ ε.1 with bu:=ε.1.bu.filter fun e=>e.2.2 },ε.2.2.jy.2):=by grind[fh]
 rw[e]
 have J:∀k,k∈((ε.1.bu.filter fun e=>e.2.2).map (·.1))→k∈ε.1.bu.map (·.1):=fun k hk=>by
  grind
 refine⟨rfl,⟨s2,h.nodup,h.jZ,fun i f hf => ?_,fun k hk=>h.tU k (J k hk),(List.filter_sublist.map _).nodup h.Bg⟩,fun m hm => ?_⟩
 ·rcases h.back i f hf with I|I
  ·omega
  ·by_cases h0:f.bj<0
   ·omega
   ·exact .inr ⟨I.lt,I.here,I.aE,fun hc=>by rw[s3 _ (by omega)];exact I.same hc,I.nP⟩
 ·grind[pgA]
structure EL (K:Nat)(x:LD): Prop where
 log:x.1.b=x.2.log
 cert:x.1.forced≤x.2.bL
 size:x.1.base+x.1.b.length≤K
theorem EL.force {x:LD}{n:Nat}(h:EL K x): EL K (bG x n).2:=by
 unfold bG Dk.fP
 split
 ·exact h
 ·by_cases hd:x.2.dead=true
  ·grind
  ·rw[aj hd]
   by_cases I:x.2.aU=0
   ·rw[aC I,aC (show(9:Int)≠0 by decide)];exact⟨h.log,h.cert,h.size⟩
   ·rw[aj I,aj (show ¬(0:Int)≠0 by decide)];exact⟨h.log,by rw[h.log];exact aQ _,h.size⟩
theorem EL.write {x:LD}(h:EL K x): EL K (x.1,(x.2.dx n b).2):=by
 unfold Dk.dx
 split
 ·exact h
 ·split
  ·exact h
  ·split<;>exact⟨h.log,h.cert,h.size⟩
theorem tc (K:Nat): lG (EL K):=⟨fun _ _ h=>h.force,fun _ _ _ h=>h.write⟩
theorem EL.out (h:EL K ε.2): EL K (outF ε i).2.2:=(tc K).out h
theorem mK.el (I:mK ε n e b ai)(h:EL K ε.2): EL K ai.2:=(tc K).rd I h
theorem GRd.el {bX:Bool}(I:GRd ε now bX n e b ai)(h:EL K ε.2): EL K ai.2:=(tc K).yY I h
theorem tS.el {bX:Bool}(I:tS ε now bX n b e dw ai)(h:EL K ε.2): EL K ai.2:=(tc K).O6 I h
theorem jg.el {l:List Int}{cs:List cO}(I:jg now l ε e cs ai)(h:EL K ε.2): EL K ai.2:=(tc K).ch I h
theorem PtR.el {l:List Int}(I:PtR now aD l ε e ai)(h:EL K ε.2): EL K ai.2:=(tc K).pt I h
theorem Ep : ∀ {l:List Int} {ε:bq},EL K ε.2→gP ε→EL K (writeAllF l ε).2.2∧gP (writeAllF l ε).2∧bV (writeAllF l ε).2≤bV ε:=by
 intro l
 induction l with
 |nil=>intro ε h I;exact⟨h,I,aQ _⟩
 |cons n l J =>
  intro ε h I
  have step:EL K (eX ε n).2.2∧gP (eX ε n).2∧bV (eX ε n).2≤bV ε:=by
   unfold eX
   split
   ·grind
   ·exact⟨h.out,⟨qQ I.ok,rO I.pins,rN I.full⟩,HU⟩
  grind[writeAllF]
structure EI (N B:Nat)(ε:bq): Prop where
 ok:gP ε
 ec:EC N ε
 el:EL (B*1048600) ε.2
 bV:bV ε≤B*65536
theorem EI.more (h:EI N B ε){I:Nat}(J:B≤I): EI N I ε :=
 ⟨h.ok,h.ec,⟨h.el.log,h.el.cert,cu h.el.size (qm _ J)⟩,cu h.bV (qm _ J)⟩
theorem EI.rd (h:EI N B ε)(I:mK ε n e b ai): EI N B ai :=
 ⟨I.kI h.ok,(I.ec h.ec h.ok.pins).1,I.el h.el,cu I.bV h.bV⟩
theorem EI.yY (h:EI N B ε)(I:GRd ε now false n e b ai): EI N B ai :=
 ⟨I.kI h.ok,(I.ec h.ec h.ok.pins).1,I.el h.el,cu I.bV h.bV⟩
theorem EI.O6 (h:EI N B ε)(I:tS ε now false n b e dw ai): EI N B ai :=
 ⟨I.kI h.ok,(I.ec h.ec h.ok.pins).1,I.el h.el,cu I.bV h.bV⟩
theorem EI.many (h:EI N B ε): N≤65536:=by
 have:=h.ok.ok.dk.many
 rwa [h.ec.dk.aM] at this
theorem EI.aF (h:EI N B ε): (∀n:Int,n∈ε.1.aF.map (·.1)→0≤n∧n<N)∧ε.1.aF.length≤N:=by
 have I:∀n:Int,n∈ε.1.aF.map (·.1)→0≤n∧n<N:=fun n hn=>by
  cases J:lookL n ε.1.aF with
  |none=>grind[jw]
  |some i =>
   obtain⟨h0,j,f,rfl,hf,hp⟩:=h.ec.jZ n i J
   have:=(h.ec.back j f hf).resolve_left (by omega)
   exact⟨h0,hp ▸ this.lt⟩
 have:=uG N _ h.ec.nodup I
 grind
theorem EI.bu (h:EI N B ε): ε.1.bu.length≤N:=by
 have:=uG N _ h.ec.Bg h.ec.tU
 rwa [eL] at this
theorem EI.writeAll (h:EI N B ε): (writeAllF (aX ε.1.aF) ε).1=0∧EI N B (writeAllF (aX ε.1.aF) ε).2∧∀m,pgA (writeAllF (aX ε.1.aF) ε).2 m=pgA ε m:=by
 obtain⟨I,w2,J⟩:=y5 (l:=aX ε.1.aF) h.ec fun n hn=>by
  cases hq:lookL n ε.1.aF<;>grind[iy,jw]
 obtain⟨k1,k2,k3⟩:=Ep (l:=aX ε.1.aF) h.el h.ok
 exact⟨I,⟨k2,w2,k1,cu k3 h.bV⟩,J⟩
theorem EI.sync (h:EI N B ε): (fh ε.1 ε.2.2).1=0∧EI N B ((fh ε.1 ε.2.2).2.1,(ε.2.1,(fh ε.1 ε.2.2).2.2))∧∀m,0≤m→pgA ((fh ε.1 ε.2.2).2.1,(ε.2.1,(fh ε.1 ε.2.2).2.2)) m=pgA ε m:=by
 obtain⟨p1,p2,p3⟩:=Pg h.ec
 refine⟨p1,?_,p3⟩
 have e0:ε.2.2.jy=(0,ε.2.2.sync):=by rw[Dk.jy,aj (by rw[h.ec.dk.alive];decide),aj (by have:=h.ec.dk.aU;omega),j0 h.ec.dk.aU]
 have e:fh ε.1 ε.2.2=(0,{ ε.1 with bu:=ε.1.bu.filter fun e=>e.2.2 },ε.2.2.sync):=by grind[fh]
 rw[e] at p2 ⊢
 have hd:=h.ok.ok.dk
 have J:∀(i:Nat) (b:List Nat),(laidP ε.2.2.now ε.2.2.aM)[i]?=some (some b)→b.length=512:=fun i b I=>by
  have h1:=laidP_get (n:=(i:Int)) h.ec.dk.aM h.ec.dk.nodup h.ec.dk.keys (by omega)
  rw[b7] at h1
  rw[h1] at I
  cases hq:lookL (i:Int) ε.2.2.now with
  |some x=>rw[hq] at I;have:=b6 (b6 I);subst this;exact hd.now _ (jE hq)
  |none=>rw[hq] at I;exact hd.aM i b I
 refine⟨⟨⟨⟨h.ok.ok.pl.hand,h.ok.ok.pl.many,h.ok.ok.pl.aF,h.ok.ok.pl.len,h.ok.ok.pl.pins⟩,h.ok.ok.lg,⟨hd.aU,hd.len,hd.room,fun e he=>(by cases he),J,hd.bL,by show(laidP _ _).length≤_;rw[yR];exact hd.many⟩⟩,h.ok.pins,⟨h.ok.full.nodup,h.ok.full.jZ⟩⟩,p2,⟨h.el.log,h.el.cert,h.el.size⟩,?_⟩
 have:=h.bV
 simp only[Am.bV] at this ⊢
 have e2:ε.2.2.sync.waiting.length=0:=rfl
 omega
theorem EI.clean (h:EI N B ε): (iB ε).1=0∧EI N B (iB ε).2∧∀m,0≤m→pgA (iB ε).2 m=pgA ε m:=by
 obtain⟨J,w2,w3⟩:=h.writeAll
 obtain⟨p1,I,p3⟩:=w2.sync
 have e:iB ε=((fh (writeAllF (aX ε.1.aF) ε).2.1 (writeAllF (aX ε.1.aF) ε).2.2.2).1,((fh (writeAllF (aX ε.1.aF) ε).2.1 (writeAllF (aX ε.1.aF) ε).2.2.2).2.1,((writeAllF (aX ε.1.aF) ε).2.2.1,(fh (writeAllF (aX ε.1.aF) ε).2.1 (writeAllF (aX ε.1.aF) ε).2.2.2).2.2))):=by
  rw[iB,aj (by rw[h.ec.dk.alive];decide),aj (by omega)]
 rw[e]
 exact⟨p1,I,fun m hm=>by grind⟩
theorem EI.force {n:Nat}(h:EI N B ε): (bG ε.2 n).1=0∧EI N B (ε.1,(bG ε.2 n).2)∧∀m,pgA (ε.1,(bG ε.2 n).2) m=pgA ε m:=by
 obtain⟨f1,f2⟩:=Fz (n:=n) h.ec.dk
 obtain⟨l1,l2⟩:=h.ec.log f2
 refine⟨f1,⟨⟨⟨h.ok.ok.pl,uT h.ok.ok.lg,nH h.ok.ok.dk⟩,h.ok.pins,h.ok.full⟩,l1,h.el.force,?_⟩,l2⟩
 have:=h.bV
 grind[Am.bV,mZ]
theorem EI.app {kd:Int}{c:List cO}(h:EI N B ε)(hB:B≤1000)(hg:dN kd c=true):
  EI N (B+1) (ε.1,(bk ε.2 kd tx pv nx data c).2)∧(∀m,pgA (ε.1,(bk ε.2 kd tx pv nx data c).2) m=pgA ε m) ∧
  (((bk ε.2 kd tx pv nx data c).1.2=0∧bk ε.2 kd tx pv nx data c=((ε.2.1.base+ε.2.1.b.length,0),(ε.2.1.app (dF ε.2.1 kd tx pv nx data c),{ ε.2.2 with log:=ε.2.2.log++dF ε.2.1 kd tx pv nx data c }))) ∨
   (bk ε.2 kd tx pv nx data c).1.2=7∨((bk ε.2 kd tx pv nx data c).1.2=2∧1048576<(cI kd tx pv nx data c).length)):=by
 have hs:=h.el.size
 have J:=uW (kd:=kd) (tx:=tx) (pv:=pv) (nx:=nx) (data:=data) (c:=c) h.ok.ok.lg h.ok.ok.dk h.el.log (by omega)
 have uV:Am.bV (ε.1,(bk ε.2 kd tx pv nx data c).2)≤(B+1)*65536:=by
  have e:Am.bV (ε.1,(bk ε.2 kd tx pv nx data c).2)=Am.bV ε:=by grind[Am.bV]
  rw[e]
  exact cu h.bV (qm _ (mo B))
 have eH:(bk ε.2 kd tx pv nx data c).2.1.base+(bk ε.2 kd tx pv nx data c).2.1.b.length≤(B+1)*1048600:=by
  omega
 have main:∀(hk:DK ε.2.2 (bk ε.2 kd tx pv nx data c).2.2) (hc:(bk ε.2 kd tx pv nx data c).2.1.forced≤(bk ε.2 kd tx pv nx data c).2.2.bL),EI N (B+1) (ε.1,(bk ε.2 kd tx pv nx data c).2)∧∀m,pgA (ε.1,(bk ε.2 kd tx pv nx data c).2) m=pgA ε m:=fun hk hc=>by
  obtain⟨l1,l2⟩:=h.ec.log hk
  exact⟨⟨⟨⟨h.ok.ok.pl,J.1,J.2.1⟩,h.ok.pins,h.ok.full⟩,l1,⟨J.2.2.1,hc,eH⟩,uV⟩,l2⟩
 rcases gW ε.2 kd tx pv nx data c with⟨e,he,hc,I⟩|⟨hd,hf,I⟩|⟨_,_,hd,fu,hf,I⟩
 ·obtain⟨m1,m2⟩:=main (by rw[I];exact DK.refl _) (by rw[I];exact h.el.cert)
  refine⟨m1,m2,.inr ?_⟩
  rw[I]
  rcases hc with⟨_,hb⟩|⟨rfl,hb⟩|⟨_,hb⟩|⟨rfl,hb⟩
  ·grind
  ·grind
  ·rw[h.ec.dk.alive] at hb;cases hb
  ·simp
 ·have:=h.ec.dk.aU;omega
 ·rw[j0 h.ec.dk.aU] at I
  obtain⟨m1,m2⟩:=main (by rw[I];exact⟨rfl,rfl,rfl,rfl⟩) (by rw[I];exact h.el.cert)
  exact⟨m1,m2,.inl ⟨by rw[I],I⟩⟩
theorem EI.done {kd:Int}{cl:Bool}(h:EI N B ε)(hB:B≤1000)(hn:NW N now)(h1:1≤kd)(h2:kd≤7)(hr:rQ ε now kd tx pv nx data 0 aD e cl ai):
  (cl=false∧(e=7∨e=2)∧EI N (B+2) ai∧∀m,pgA ai m=pgA ε m) ∨
  (cl=true∧e=0∧EI N (B+2) ai∧∀m,pgA ai m=match lookL m now with|some b=>c_ b aD|none=>pgA ε m):=by
 have I:∀n∈aX now,0≤n∧n<N:=fun n hq=>hn.keys n (iy.1 hq)
 have hN:=h.many
 have fu:∀ {c:List cO} {ai:bq} {e:Int},jg now (aX now) ε e c ai→dN kd c=true:=fun J=>by
  refine BJ ⟨h1,by omega⟩ (J.fit (fun x hx=>gI (hn.good x hx).1) fun n hq => ?_)<;>grind
 cases hr with
 |arg hq=>omega
 |dead _ _ _ hd=>rw[h.ec.dk.alive] at hd;cases hd
 |nP e c ai _ _ _ hd J he=>exact absurd (J.ec h.ec h.ok I).2.2 he
 |app c ai _ _ _ hd J he =>
  obtain⟨c1,c2,c3⟩:=J.ec h.ec h.ok I
  have hi:EI N B ai:=⟨J.kI h.ok,c1,J.el h.el,cu J.bV h.bV⟩
  obtain⟨a1,a2,a3⟩:=hi.app (kd:=kd) (tx:=tx) (pv:=pv) (nx:=nx) (data:=data) (c:=c) hB (fu J)
  refine .inl ⟨rfl,?_,a1.more (by omega),fun m=>by grind⟩<;>grind
 |put c ai e lN _ _ _ hd J ha hp =>
  obtain⟨c1,c2,c3⟩:=J.ec h.ec h.ok I
  have hi:EI N B ai:=⟨J.kI h.ok,c1,J.el h.el,cu J.bV h.bV⟩
  obtain⟨a1,a2,a3⟩:=hi.app (kd:=kd) (tx:=tx) (pv:=pv) (nx:=nx) (data:=data) (c:=c) hB (fu J)
  obtain⟨p1,p2,p3⟩:=hp.ec a1.ec a1.ok hn I
  have hl:(aX now).length≤N:=by
   have:=hn.len
   rw[aX,(eP _).length_eq,eL];exact this
  have hpt:=hp.bV a1.ok
  have qg:=a1.bV
  refine .inr ⟨rfl,p2,⟨hp.kI a1.ok,p1,?_,by omega⟩,fun m => ?_⟩
  ·have:=hp.el a1.el
   exact⟨this.log,this.cert,cu this.size (qm _ (by omega))⟩
  ·grind[iy,jw]
theorem uY (n:Nat): (digits 9 n).length≤10:=uD 9 n
theorem JO {kd:Int}(hd:data.length≤4104): (cI kd tx pv nx data []).length≤1048576:=by
 grind[uY,cI]
theorem Er {x:LD}{n:Nat}(h:DA N x.2)(I:n<x.1.base+x.1.b.length): n<(bG x n).2.1.base+(bG x n).2.1.forced:=by
 grind[bG,H6]
theorem Sd : (μ.app b).hasB (μ.base+μ.b.length)=true:=by
 grind[Lg.hasB,Lg.app]
theorem Lg.Ok.cut {n:Nat}(h:μ.Ok)(h1:μ.base≤n)(h2:n≤μ.base+μ.b.length): (μ.cut n).Ok:=by
 have hs:=h.size
 have hf:=h.forced
 have hl:=h.len
 have hd:(μ.b.drop (n-μ.base)).length=μ.b.length-(n-μ.base):=vu
 have I:∀s,s∈uX μ n→∃t∈μ.bh,n≤μ.base+t∧s=t-(n-μ.base):=fun s hs=>by
  obtain⟨t,ht,rfl⟩:=List.mem_map.1 hs<;>grind
 refine⟨?_,?_,fun s hs => ?_,?_,?_,?_,h.check⟩
 ·show n+(μ.b.drop (n-μ.base)).length≤_;omega
 ·show(uX μ n).length≤_
  rw[uX,eL]
  exact cu (List.length_filter_le _ _) h.many
 ·obtain⟨t,J,h4,rfl⟩:=I s hs
  have:=h.low t J
  show _<(μ.b.drop (n-μ.base)).length
  omega
 ·show(uX μ n).Pairwise (·< ·)
  rw[uX,List.pairwise_map]
  refine(h.wW.filter _).imp_of_mem fun {a b} ha hb oT => ?_<;>grind
 ·show μ.forced-(n-μ.base)≤(μ.b.drop (n-μ.base)).length;omega
 ·show(μ.b.drop (n-μ.base)).length≤_;omega
theorem EI.log {x:LD}(h:EI N B ε)(I:x.1.Ok)(J:x.2.Ok)(hk:DK ε.2.2 x.2)(hl:EL (B*1048600) x)(hw:x.2.waiting=ε.2.2.waiting): EI N B (ε.1,x)∧∀m,pgA (ε.1,x) m=pgA ε m:=by
 obtain⟨l1,l2⟩:=h.ec.log hk
 refine⟨⟨⟨⟨h.ok.ok.pl,I,J⟩,h.ok.pins,h.ok.full⟩,l1,hl,?_⟩,l2⟩
 have e:Am.bV (ε.1,x)=Am.bV ε:=by simp only[Am.bV,hw]
 rw[e];exact h.bV
theorem EI.check {n:Nat}(h:EI N B ε)(hn:ε.2.1.hasB n=true∧n<ε.2.1.base+ε.2.1.forced): (iu ε.2 n).1=0∧(iu ε.2 n).2.1={ ε.2.1 with check:=n }∧EI N B (ε.1,(iu ε.2 n).2)∧∀m,pgA (ε.1,(iu ε.2 n).2) m=pgA ε m:=by
 have hm:=Vn (b:=eC ε.2.1.base n) h.ec.dk (by rw[pq];decide)
 have e:iu ε.2 n=(0,({ ε.2.1 with check:=n },{ ε.2.2 with mark:=eC ε.2.1.base n })):=by
  grind[iu]
 have hf:=h.ok.ok.lg.forced
 have hs:=h.ok.ok.lg.size
 obtain⟨I,J⟩:=C3 (n:=n) h.ok.ok.lg h.ok.ok.dk (by omega)
 rw[e] at I J ⊢
 exact⟨rfl,rfl,h.log I J ⟨rfl,rfl,rfl,rfl⟩ ⟨h.el.log,h.el.cert,h.el.size⟩ rfl⟩
theorem EI.cut {n:Nat}(h:EI N B ε)(hn:ε.2.1.hasB n=true)(hf:n≤ε.2.1.base+ε.2.1.forced)(hc:ε.2.1.check=0∨n≤ε.2.1.check): (gu ε.2 n).1=0∧EI N B (ε.1,(gu ε.2 n).2)∧∀m,pgA (ε.1,(gu ε.2 n).2) m=pgA ε m:=by
 have h1:=Eo hn
 have Hz:=h.ok.ok.lg.forced
 have J:=h.el.cert
 have I:=h.ok.ok.dk
 have hlc:=I.bL
 have TW:=I.len
 have eH:=h.el.size
 have e1:ε.2.2.mY ((n-ε.2.1.base:Nat):Int) (eC n ε.2.1.check)=(0,{ ε.2.2 with log:=ε.2.2.log.drop (n-ε.2.1.base),bL:=ε.2.2.bL-(n-ε.2.1.base),mark:=eC n ε.2.1.check }):=by
  rw[Dk.mY,aj (by rw[h.ec.dk.alive];decide),aj (not_not_intro ⟨by omega,by omega,by rw[pq];decide⟩),aj (by have:=h.ec.dk.aU;omega),j0 h.ec.dk.aU,b7]
 have e:gu ε.2 n=(0,(ε.2.1.cut n,{ ε.2.2 with log:=ε.2.2.log.drop (n-ε.2.1.base),bL:=ε.2.2.bL-(n-ε.2.1.base),mark:=eC n ε.2.1.check })):=by
  grind[gu]
 rw[e]
 have hd:(ε.2.2.log.drop (n-ε.2.1.base)).length=ε.2.2.log.length-(n-ε.2.1.base):=vu
 have hd2:(ε.2.1.b.drop (n-ε.2.1.base)).length=ε.2.1.b.length-(n-ε.2.1.base):=vu
 refine⟨rfl,h.log (h.ok.ok.lg.cut h1 (by omega)) ⟨I.aU,by grind,I.room,I.now,I.aM,by grind,I.many⟩ ⟨rfl,rfl,rfl,rfl⟩ ⟨?_,?_,?_⟩ rfl⟩
 ·show ε.2.1.b.drop _=ε.2.2.log.drop _;rw[h.el.log]
 ·show ε.2.1.forced-_≤ε.2.2.bL-_;omega
 ·show n+(ε.2.1.b.drop _).length≤_;omega
theorem EI.H8 {J:List Nat}{jz:Nat}(h:EI N B ε)(hB:B≤1000)(hr:KQ ε lo data cM aE e ai J jz):
  EI N (B+1) ai∧(∀m,pgA ai m=pgA ε m)∧((e=2∧4096<data.length∧J=cM)∨(e=7∧J=cM)∨(e=0∧J=data)):=by
 cases hr with
 |Yc hb=>exact⟨h.more (by omega),fun _=>rfl,.inl ⟨rfl,hb,rfl⟩⟩
 |dead _ hd=>rw[h.ec.dk.alive] at hd;cases hd
 |go e y J jz hb hd hc =>
  have hw:=cq 8 (gv ε)
  obtain⟨a1,a2,a3⟩:=h.app (kd:=8) (tx:=0) (pv:=0) (nx:=0) (data:=le 8 (gv ε)++data) (c:=[]) hB (by decide)
  have ey:bk ε.2 8 0 0 0 (le 8 (gv ε)++data) []=gZ ε data:=rfl
  rw[ey] at a1 a2 a3
  have a3:((gZ ε data).1.2=0∧gZ ε data=((ε.2.1.base+ε.2.1.b.length,0),(ε.2.1.app (dF ε.2.1 8 0 0 0 (le 8 (gv ε)++data) []),{ ε.2.2 with log:=ε.2.2.log++dF ε.2.1 8 0 0 0 (le 8 (gv ε)++data) [] })))∨(gZ ε data).1.2=7:=by
   grind[JO]
  have tM:gv ε≤ε.2.1.base+ε.2.1.b.length:=KN _ _ _
  have T1:v_ ε lo≤ε.2.1.base+ε.2.1.b.length:=by
   rw[v_];split<;>omega
  rcases a3 with⟨a0,a3⟩|a3
  ·have tO:8≤(dF ε.2.1 8 0 0 0 (le 8 (gv ε)++data) []).length:=by rw[dF,jY];omega
   generalize dF ε.2.1 8 0 0 0 (le 8 (gv ε)++data) []=rc at tO a3
   generalize gZ ε data=I at *
   have n1:I.1.1=ε.2.1.base+ε.2.1.b.length:=by rw[a3]
   have n2:I.2.1=ε.2.1.app rc:=by rw[a3]
   -- the log is forced
   obtain⟨f1,f2,f3⟩:=a1.force (n:=I.1.1)
   have f1:(jh I).1=0:=f1
   have f2:EI N (B+1) (ε.1,(jh I).2):=f2
   have f3:∀m,pgA (ε.1,(jh I).2) m=pgA (ε.1,I.2) m:=f3
   have O3:I.1.1<I.2.1.base+I.2.1.b.length:=by
    rw[n1,n2];show _<ε.2.1.base+(ε.2.1.b++rc).length;rw[bY];omega
   have f4:I.1.1<(jh I).2.1.base+(jh I).2.1.forced:=Er a1.ec.dk O3
   have f5:=yX (π:=ε.1) (x:=I.2) (n:=I.1.1)
   have f6:(jh I).2.1.base=I.2.1.base:=f5.base
   have f7:(jh I).2.1.bh=I.2.1.bh:=f5.bh
   have f8:(jh I).2.1.hasB I.1.1=true:=by
    grind[Sd,Lg.hasB]
   -- the mark
   obtain⟨c1,c2,c3,c4⟩:=f2.check (n:=I.1.1) ⟨f8,f4⟩
   have c1:(gO I).1=0:=c1
   have c2:(gO I).2.1={ (jh I).2.1 with check:=I.1.1 }:=c2
   have c3:EI N (B+1) (ε.1,(gO I).2):=c3
   have c4:∀m,pgA (ε.1,(gO I).2) m=pgA (ε.1,(jh I).2) m:=c4
   have fS:∀m,pgA (ε.1,(gO I).2) m=pgA ε m:=fun m=>by grind
   cases hc with
   |app he=>omega
   |force _ he=>omega
   |check _ _ he=>omega
   |cut t _ _ _ ht cJ _ =>
    have uS:I.1.1<(gO I).2.1.base+(gO I).2.1.b.length:=by
     have:=c3.ok.ok.lg.forced
     grind
    have Es:(gO I).2.1.hasB t=true∧t≤v_ ε lo:=by
     grind
    have e2:(gO I).2.1.forced=(jh I).2.1.forced:=by rw[c2]
    have e3:(gO I).2.1.check=I.1.1:=by rw[c2]
    obtain⟨k1,k2,k3⟩:=c3.cut Es.1 (by grind) (.inr (by grind))
    exact⟨k2,fun m=>(k3 m).trans (fS m),.inr (.inr ⟨k1,rfl⟩)⟩
   |jP _ _ _ _=>grind
  ·cases hc<;>simp_all
def p_ (π:Pl)(n:Int)(b:List Nat): Prop:=∃(i:Nat) (f:Fm),π.ag[i]?=some f∧f.bj=n∧0≤n∧f.changed=true∧f.b=b
abbrev VP := (Int→List Nat→Prop)→List (Int×(Nat×Bool))→LD→Prop
abbrev vw (P:VP)(ε:bq): Prop:=P (p_ ε.1) ε.1.bu ε.2
theorem Se (hn:fH π bU): p_ bU=p_ π:=by
 funext n b
 refine propext ⟨fun⟨i,x,hx,I,J,h2,h3⟩ => ?_,fun⟨i,f,hf,I,J,h2,h3⟩ => ?_⟩
 ·obtain⟨f,t,hf,rfl⟩:=hn.back hx
  exact⟨i,f,hf,I,J,h2,h3⟩
 ·obtain⟨t,ht⟩:=hn.get i f hf
  exact⟨i,_,ht,I,J,h2,h3⟩
theorem AL {g:Fm}(J:π.ag[i]?=some f)(hs:∀n b,(f.bj=n∧0≤n∧f.changed=true∧f.b=b)↔(g.bj=n∧0≤n∧g.changed=true∧g.b=b)){w:List (Int×Int)}{hd:Nat}: p_ ⟨π.ag.set i g,w,d,hd⟩=p_ π:=by
 have hi:=(List.getElem?_eq_some_iff.1 J).1
 funext n b
 refine propext ⟨fun⟨j,x,I,h⟩ => ?_,fun⟨j,x,I,h⟩ => ?_⟩
 ·rcases uF J I with⟨rfl,rfl⟩|⟨_,I⟩
  ·exact⟨i,f,J,(hs n b).2 h⟩
  ·exact⟨j,x,I,h⟩
 ·by_cases hj:i=j
  ·subst hj
   rw[J] at I
   have:=b6 I
   subst this
   exact⟨i,g,ke hi,(hs n b).1 h⟩
  ·exact⟨j,x,by grind,h⟩
theorem Ph {g:Fm}(J:π.ag[i]?=some g)(hc:0≤g.bj→g.changed=false): p_ (dz π i f)=p_ π :=
 AL J fun n b=>⟨(fun⟨h1,h0,I,_⟩=>by grind),fun⟨_,_,I,_⟩=>(by cases I)⟩
theorem MA {e:Fm}(he:π.ag[i]?=some e)(J:e.bj<0): p_ (iV π i n b)=p_ π :=
 AL he fun m c=>⟨fun⟨h1,h0,_⟩=>by omega,fun⟨_,_,I,_⟩=>(by cases I)⟩
structure nV (N:Nat)(P:VP): Prop where
 one:∀(ε:bq) (i:Nat) (f:Fm),EC N ε→ε.1.ag[i]?=some f→0≤f.bj→f.changed=true→vw P ε→vw P (outF ε i).2
theorem lG.xh (h:lG R)(N:Nat): nV N (fun _ _ x=>R x):=⟨fun _ _ _ _ _ _ _ I=>h.out I⟩
section
variable {P:VP} {l:List Int} {cs:List cO}
theorem nV.out (h:nV N P)(he:EC N ε)(I:ε.1.ag[i]?=some f)(J:vw P ε): vw P (outF ε i).2:=by
 by_cases hc:f.bj<0∨f.changed=false
 ·grind[outF]
 ·exact h.one ε i f he I (by omega) (by grind) J
theorem nV.jG (h:nV N P)(hr:fI ε n e b ai)(he:EC N ε)(hv:vw P ε): vw P ai:=by
 cases hr with
 |arg I=>exact hv
 |Bd i f h1 J hl hf =>
  grind[AL]
 |out bU i f h1 J hl I hf hh hq=>exact absurd ((he.rY I).1.out hf).1 hq
 |read bU i f h1 J hl I hf hh hq hr =>
  obtain⟨k1,k2,k3,k4,g,k5,k6,k7⟩:=(he.rY I).1.out hf
  refine absurd ?_ hr
  rw[he.dk.aM] at J
  rw[Dk.q_,aj (by rw[k2.dk.alive];decide),aj (by rw[k2.dk.aM];exact not_not_intro ⟨h1,J⟩)]
 |bad bU i f h1 J hl I hf hh hq hr hc =>
  obtain⟨k1,k2,k3,k4,g,k5,k6,k7⟩:=(he.rY I).1.out hf
  rw[he.dk.aM] at J
  exact absurd (k2.dk.good n h1 J) hc
 |load bU i f h1 J hl I hf hh hq hr hc =>
  obtain⟨n1,n2⟩:=he.rY I
  have Hx:vw P (bU,ε.2):=by show P (p_ bU) bU.bu ε.2;rw[Se I,I.bu];exact hv
  have uo:=h.out (ε:=(bU,ε.2)) n1 hf Hx
  grind[Ph,dz,outF,eR,iV,MA]
theorem Pj : p_ (unpinF π n).2=p_ π∧(unpinF π n).2.bu=π.bu:=by
 grind[unpinF,AL]
theorem nV.rd (h:nV N P)(I:mK ε n e b ai)(he:EC N ε)(J:vw P ε): vw P ai:=by
 cases I<;>grind[jG,Pj]
theorem nV.yY (h:nV N P)(I:GRd ε now false n e b ai)(he:EC N ε)(J:vw P ε): vw P ai:=by
 cases I with
 |arg hn=>exact J
 |bX _ _ ho=>cases ho
 |own b h1 h2 _ hl=>exact J
 |read e b ai h1 h2 _ hl I=>exact h.rd I he J
theorem nV.O6 (h:nV N P)(I:tS ε now false n b e dw ai)(he:EC N ε)(J:vw P ε): vw P ai:=by
 cases I with
 |may e c ai I _=>exact h.yY I he J
 |bad c ai I hg=>exact h.yY I he J
 |done c ai I hg=>exact h.yY I he J
theorem nV.ch (h:nV N P)(I:jg now l ε e cs ai): EC N ε→gP ε→vw P ε→vw P ai:=by
 induction I with
 |nil ε=>simp
 |err n l ε e b ai I _=>exact fun he _ J=>h.rd I he J
 |part n l ε ff b ai c e cs lN I hb hd hc jC ht ih=>exact fun he h3 J=>ih (I.ec he h3.pins).1 (I.kI h3) (h.rd I he J)
 |whole n l ε ff b ai e cs lN I hb hd ht ih=>exact fun he h3 J=>ih (I.ec he h3.pins).1 (I.kI h3) (h.rd I he J)
end
def tot : List (List Nat)→Nat
 |[]=>0
 |c::l=>c.length+tot l
theorem Et {a b:List (List Nat)}: tot (a++b)=tot a+tot b:=by
 induction a<;>grind[tot]
theorem m_ : ∀ {cs:List (List Nat)} {i:Nat} {c:List Nat},cs[i]?=some c→tot (cs.take (i+1))=tot (cs.take i)+c.length:=by
 intro cs
 induction cs<;>grind[tot]
theorem H9 {cs:List (List Nat)}(h:i≤j): tot (cs.take i)≤tot (cs.take j):=by
 grind[List.take_append_drop,Et]
theorem ou {cs:List (List Nat)}{i:Nat}: tot (cs.take i)≤tot cs:=by
 grind[Et,List.take_append_drop]
theorem Vq : ∀ {cs:List (List Nat)} {i:Nat} {c c':List Nat},cs[i]?=some c→c'.length=c.length→∀k,tot ((cs.set i c').take k)=tot (cs.take k):=by
 intro cs
 induction cs with
 |nil=>simp
 |cons x cs I =>
  intro i c c' h J k
  cases i with
  |zero =>
   simp at h;subst h
   cases k<;>grind[tot]
  |succ i=>cases k<;>grind[tot]
theorem kJ {l m:List Nat}{a i:Nat}(h:a+m.length≤l.length)(hi:i<a∨a+m.length≤i): (bH l a m)[i]?=l[i]?:=by
 grind[C4]
theorem y6 {l m:List Nat}{a i:Nat}(h:a+m.length≤l.length)(hi:i<m.length): (bH l a m)[a+i]?=m[i]?:=by
 grind[C4]
theorem oI {l m:List Nat}{a z:Nat}(h:∀i,a≤i→i<a+z→l[i]?=m[i]?): dg l a z=dg m a z:=by
 unfold dg
 congr 1
 apply sL
 simp_all[Dv]
theorem AM {m:List Nat}{b:Nat}(h:a+m.length≤l.length)(I:b+z≤a∨a+m.length≤b): dg (bH l a m) b z=dg l b z :=
 by grind[oI,kJ]
theorem we {l:List Nat}{a z n:Nat}(h:a+z≤l.length)(I:n<256^z): dg (bH l a (le z n)) a z=n:=by
 have e:((bH l a (le z n)).take (a+z)).drop a=le z n:=by
  apply sL
  simp only[zX,Dv]
  grind[y6,cq]
 grind[dg,yZ,Nat.mod_eq_of_lt]
theorem pF {l m:List Nat}{i:Nat}(h:l[i]?=m[i]?): l.getD i 0=m.getD i 0:=by grind
structure dX (b:List Nat)(k link extra:Nat)(cs:List (List Nat)): Prop where
 len:b.length=512
 Pk:b.getD 13 0=0
 kind:b.getD 12 0=k
 link:dg b 18 4=link
 extra:dg b 22 4=extra
 dc:kP b=cs.length
 low:iG b+tot cs=512
 fits:26+4*cs.length+tot cs≤512
 slot:∀i c,cs[i]?=some c→dH b i+tot (cs.take (i+1))=512∧iM b i=c.length∧∀j,j<c.length→b[dH b i+j]?=c[j]?
theorem Sf : ∀(z k:Nat) (t:List Bool),k+z≤t.length→(∀j,k≤j→j<k+z→t.getD j false=false)→∃t',markL z k t=some t'∧t'.length=t.length∧∀j,(j<k∨k+z≤j)→t'.getD j false=t.getD j false:=by
 intro z
 induction z with
 |zero=>intro k t _ _;exact⟨t,rfl,rfl,fun _ _=>rfl⟩
 |succ z I =>
  intro k t J h2
  have hs:∀j,j≠k→(t.set k true).getD j false=t.getD j false:=fun j hj=>by
   grind
  obtain⟨t',e1,e2,e3⟩:=I (k+1) (t.set k true) (by grind) (fun j a b=>by grind)<;>grind[markL]
section
variable {cs:List (List Nat)}
theorem dX.cells (h:dX b k link extra cs): ∀(n i:Nat) (t:List Bool),i+n=cs.length→t.length=512→(∀j,j+tot (cs.take i)<512→t.getD j false=false)→cellsL b (iG b) n i t=true:=by
 intro n
 induction n with
 |zero=>intro i t _ _ _;rfl
 |succ n J =>
  intro i t hi ht hf
  have I:cs[i]?=some (cs[i]'(by omega)):=bw _
  generalize (cs[i]'(by omega))=c at I
  obtain⟨s1,s2,s3⟩:=h.slot i c I
  have h1:=m_ I
  have h2:=ou (cs:=cs) (i:=i+1)
  have h3:=h.low
  obtain⟨t',e1,e2,e3⟩:=Sf c.length (dH b i) t (by omega) (fun j _ _=>hf j (by omega))
  rw[cellsL,s2,aj (by omega),e1]
  exact J (i+1) t' (by omega) (by omega) (fun j hj=>by grind)
theorem dX.good (h:dX b k link extra cs): cg b=true:=by
 have I:=h.low
 have J:=h.fits
 rw[cg,e_ h.len,e_ h.Pk,e_ (by rw[h.dc];omega),h.cells _ _ _ (by rw[h.dc];omega) fD fun j hj => ?_]
 ·rfl
 grind
theorem dX.tail (h:dX b k link extra cs){I:List Nat}(hl:I.length=512)(ht:I.drop 12=b.drop 12): dX I k link extra cs:=by
 have hg:∀i,12≤i→I[i]?=b[i]?:=fun i hi=>by
  have:=iZ (fun l:List Nat=>l[i-12]?) ht
  grind
 have J:∀a z,12≤a→dg I a z=dg b a z:=fun a z q=>xg ht q
 refine⟨hl,?_,?_,?_,?_,?_,?_,h.fits,fun i c hc => ?_⟩
 ·rw[pF (hg 13 (by decide))];exact h.Pk
 ·rw[pF (hg 12 (by decide))];exact h.kind
 ·rw[J _ _ (by decide)];exact h.link
 ·rw[J _ _ (by decide)];exact h.extra
 ·rw[kP,J _ _ (by decide)];exact h.dc
 ·rw[iG,J _ _ (by decide)];exact h.low
 ·obtain⟨s1,s2,s3⟩:=h.slot i c hc
  have e1:dH I i=dH b i:=J _ _ (by omega)
  have e2:iM I i=iM b i:=J _ _ (by omega)
  have fu:=h.fits
  grind[ou]
def uZ (k:Nat): List Nat:=bH ((List.replicate 512 0).set 12 k) 16 (le 2 512)
theorem dX.new : dX (uZ k) k 0 0 []:=by
 have hle:∀n,(le 2 n).length=2:=fun n=>cq 2 n
 have I:∀i,i<16∨18≤i→(uZ k)[i]?=((List.replicate 512 0).set 12 k)[i]?:=fun i hi=>kJ (by grind) (by grind)
 have hz:∀i,i≠12→((List.replicate 512 0).set 12 k)[i]?=(List.replicate 512 0)[i]?:=fun i hi=>qo (by omega)
 have J:∀a z,a+z≤512→(18≤a∨(13≤a∧a+z≤16))→dg (uZ k) a z=dg (List.replicate 512 0) a z:=fun a z h1 h2=>oI fun i h3 h4=>by grind
 refine⟨by grind[uZ,c5],?_,?_,?_,?_,?_,?_,by decide,fun i c hc=>(by grind)⟩
 ·rfl
 ·rfl
 ·rfl
 ·rfl
 ·rfl
 ·rfl
def u5 (b:List Nat)(x y:Nat): List Nat:=bH (bH b 18 (le 4 x)) 22 (le 4 y)
theorem dX.set (h:dX b k link extra cs){x y:Nat}(hx:x<4294967296)(hy:y<4294967296): dX (u5 b x y) k x y cs:=by
 have hlen:=h.len
 have hle:∀n,(le 4 n).length=4:=fun n=>cq 4 n
 have l1:(bH b 18 (le 4 x)).length=512:=by grind[c5]
 have l2:(u5 b x y).length=512:=by grind[u5,c5]
 have I:∀i,i<18∨26≤i→(u5 b x y)[i]?=b[i]?:=fun i hi=>by
  grind[u5,kJ]
 have J:∀a z,a+z≤18∨26≤a→dg (u5 b x y) a z=dg b a z:=fun a z h2=>oI fun i h3 h4=>I i (by omega)
 refine⟨l2,?_,?_,?_,?_,?_,?_,h.fits,fun i c hc => ?_⟩
 ·rw[pF (I 13 (by decide))];exact h.Pk
 ·rw[pF (I 12 (by decide))];exact h.kind
 ·grind[u5,AM,we]
 ·grind[u5,we]
 ·rw[kP,J _ _ (by decide)];exact h.dc
 ·rw[iG,J _ _ (by decide)];exact h.low
 ·obtain⟨s1,s2,s3⟩:=h.slot i c hc
  have e1:dH (u5 b x y) i=dH b i:=J _ _ (by omega)
  have e2:iM (u5 b x y) i=iM b i:=J _ _ (by omega)
  have fu:=h.fits
  grind[ou]
def y7 (b:List Nat)(i f z:Nat): List Nat:=bH (bH b (26+4*i) (le 2 f)) (26+4*i+2) (le 2 z)
section
variable {f:Nat}
theorem KT (I:b.length=512)(hi:30+4*i≤512): (y7 b i f z).length=512:=by
 grind[cq,y7,c5]
theorem KU (I:b.length=512)(hi:30+4*i≤512){j:Nat}(J:j<26+4*i∨30+4*i≤j): (y7 b i f z)[j]?=b[j]?:=by
 grind[cq,y7,kJ,c5]
theorem Pm (I:b.length=512)(hi:30+4*i≤512)(J:f<65536)(hz:z<65536): dH (y7 b i f z) i=f∧iM (y7 b i f z) i=z:=by
 grind[cq,c5,dH,y7,AM,we,iM]
end
def xj (b:List Nat)(n lo:Nat)(c:List Nat): List Nat:=y7 (bH (bH (bH b 14 (le 2 (n+1))) lo c) 16 (le 2 lo)) n lo c.length
theorem dX.ins (h:dX b k link extra cs){c:List Nat}{lo:Nat}(hf:26+4*(cs.length+1)+(tot cs+c.length)≤512)(rR:lo+(tot cs+c.length)=512): dX (xj b cs.length lo c) k link extra (cs++[c]):=by
 have hlen:=h.len
 have hle:∀n,(le 2 n).length=2:=fun n=>cq 2 n
 have l1:(bH b 14 (le 2 (cs.length+1))).length=512:=by grind[c5]
 have l2:(bH (bH b 14 (le 2 (cs.length+1))) lo c).length=512:=by rw[c5 (by omega),l1]
 have l3:(bH (bH (bH b 14 (le 2 (cs.length+1))) lo c) 16 (le 2 lo)).length=512:=by grind[c5]
 have l4:(xj b cs.length lo c).length=512:=KT l3 (by omega)
 have o3:∀i,i<16∨18≤i→(bH (bH (bH b 14 (le 2 (cs.length+1))) lo c) 16 (le 2 lo))[i]?=(bH (bH b 14 (le 2 (cs.length+1))) lo c)[i]?:=fun i hi=>kJ (by grind) (by grind)
 have o4:∀i,i<26+4*cs.length∨30+4*cs.length≤i→(xj b cs.length lo c)[i]?=(bH (bH (bH b 14 (le 2 (cs.length+1))) lo c) 16 (le 2 lo))[i]?:=fun i hi=>KU l3 (by omega) hi
 -- what is neither count, low, the slot nor the cell
 have I:∀i,(i<14∨18≤i)→(i<26+4*cs.length∨30+4*cs.length≤i)→(i<lo∨lo+c.length≤i)→(xj b cs.length lo c)[i]?=b[i]?:=fun i h1 h2 h3=>by
  grind[kJ]
 have v7:∀a z,(a+z≤14∨18≤a)→a+z≤26+4*cs.length→dg (xj b cs.length lo c) a z=dg b a z:=fun a z h1 h2=>oI fun i h3 h4=>I i (by omega) (by omega) (by omega)
 have jT:dH (xj b cs.length lo c) cs.length=lo∧iM (xj b cs.length lo c) cs.length=c.length:=Pm l3 (by omega) (by omega) (by omega)
 have Yh:tot (cs++[c])=tot cs+c.length:=by rw[Et];simp[tot]
 refine⟨l4,?_,?_,?_,?_,?_,?_,by grind,fun i x J => ?_⟩
 ·rw[pF (I 13 (by omega) (by omega) (by omega))];exact h.Pk
 ·rw[pF (I 12 (by omega) (by omega) (by omega))];exact h.kind
 ·rw[v7 _ _ (by omega) (by omega)];exact h.link
 ·rw[v7 _ _ (by omega) (by omega)];exact h.extra
 ·have e:dg (xj b cs.length lo c) 14 2=dg (bH b 14 (le 2 (cs.length+1))) 14 2:=oI fun i h1 h2=>by
   grind[kJ]
  grind[kP,we]
 ·have e:dg (xj b cs.length lo c) 16 2=dg (bH (bH (bH b 14 (le 2 (cs.length+1))) lo c) 16 (le 2 lo)) 16 2:=oI fun i h1 h2=>o4 i (by omega)
  grind[iG,we]
 ·by_cases hi:i<cs.length
  ·rw[vf hi] at J
   obtain⟨s1,s2,s3⟩:=h.slot i x J<;>grind[dH,iM,ou]
  ·have jd:i=cs.length:=by
    grind
   subst jd
   rw[zQ (aQ _),Ac] at J
   have J:c=x:=b6 J
   subst J
   rw[jT.1,jT.2,gC (by simp),Yh]
   exact⟨rR,rfl,fun j hj=>by grind[y6]⟩
def xk (b:List Nat)(i f:Nat)(c:List Nat): List Nat:=y7 (bH b f c) i f c.length
theorem dX.rep (h:dX b k link extra cs){c c':List Nat}(hc:cs[i]?=some c)(hl:c'.length=c.length): dX (xk b i (dH b i) c') k link extra (cs.set i c'):=by
 obtain⟨s1,s2,s3⟩:=h.slot i c hc
 have hlen:=h.len
 have hi:=(List.getElem?_eq_some_iff.1 hc).1
 have tM:=h.low
 have fu:=h.fits
 have Fs:=ou (cs:=cs) (i:=i+1)
 have Pn:=m_ hc
 have l1:(bH b (dH b i) c').length=512:=by grind[c5]
 have l2:(xk b i (dH b i) c').length=512:=KT l1 (by omega)
 have o2:∀j,j<26+4*i∨30+4*i≤j→(xk b i (dH b i) c')[j]?=(bH b (dH b i) c')[j]?:=fun j hj=>KU l1 (by omega) hj
 have I:∀j,(j<26+4*i∨30+4*i≤j)→(j<dH b i∨dH b i+c.length≤j)→(xk b i (dH b i) c')[j]?=b[j]?:=fun j h1 h2=>by grind[kJ]
 have J:∀a z,(a+z≤26+4*i∨30+4*i≤a)→a+z≤26+4*cs.length→dg (xk b i (dH b i) c') a z=dg b a z:=fun a z h1 h2=>oI fun j h3 h4=>I j (by omega) (by omega)
 have jT:dH (xk b i (dH b i) c') i=dH b i∧iM (xk b i (dH b i) c') i=c'.length:=Pm l1 (by omega) (by omega) (by omega)
 have ue:∀k,tot ((cs.set i c').take k)=tot (cs.take k):=Vq hc hl
 have Yh:tot (cs.set i c')=tot cs:=by
  have:=ue cs.length
  grind[List.length_set]
 refine⟨l2,?_,?_,?_,?_,?_,?_,by grind,fun j x hx => ?_⟩
 ·rw[pF (I 13 (by omega) (by omega))];exact h.Pk
 ·rw[pF (I 12 (by omega) (by omega))];exact h.kind
 ·rw[J _ _ (by omega) (by omega)];exact h.link
 ·rw[J _ _ (by omega) (by omega)];exact h.extra
 ·rw[kP,J _ _ (by omega) (by omega),dD];exact h.dc
 ·grind[iG]
 ·rw[ue]
  by_cases A6:i=j
  ·subst A6
   rw[ke hi] at hx
   have hx:c'=x:=b6 hx
   subst hx
   rw[jT.1,jT.2]
   exact⟨s1,rfl,fun q hq=>by rw[o2 _ (by omega),y6 (by omega) hq]⟩
  ·rw[qo A6] at hx
   obtain⟨r1,r2,r3⟩:=h.slot j x hx
   have hj:=(List.getElem?_eq_some_iff.1 hx).1
   have e1:dH (xk b i (dH b i) c') j=dH b j:=J _ _ (by omega) (by omega)
   have e2:iM (xk b i (dH b i) c') j=iM b j:=J _ _ (by omega) (by omega)
   have ht2:=m_ hx
   have htj:=ou (cs:=cs) (i:=j+1)
   rw[e1,e2]
   refine⟨r1,r2,fun q hq => ?_⟩
   rw[I _ (by omega) ?_]
   ·grind
   ·rcases Nat.lt_or_gt_of_ne A6 with q1|q1
    ·have:=H9 (cs:=cs) (i:=i+1) (j:=j) (by omega);omega
    ·have:=H9 (cs:=cs) (i:=j+1) (j:=i) (by omega);omega
theorem dX.cell (h:dX b k link extra cs){c:List Nat}(I:cs[i]?=some c): (b.drop (dH b i)).take c.length=c:=by
 obtain⟨s1,s2,J⟩:=h.slot i c I
 apply sL
 grind
end
section
variable {v w:V} {m:List Nat}
theorem H_ {n b:Nat}{cap:Cap}(oT:a≤b)(hb:b≤n): ∃off I,slR (.sl id 0 n cap) a b=.sl id off (b-a) I∧off≤n:=by
 cases cap with
 |exact c =>
  simp only[slR]
  by_cases J:c=a
  ·rw[rV J,ah];exact⟨0,_,rfl,gR _⟩
  ·rw[eD J,aL];exact⟨0+a*1,_,rfl,by omega⟩
 |rest e alt=>exact⟨0+a*1,_,rfl,by omega⟩
theorem KV {n:Nat}(I:T.get h.tr id=some (.cells n cs false))(ho:off≤n)(hl:cs.length=n): wrN h id off []=some (h.put id (some (.cells n cs false))):=by
 simp only[wrN,I,cr]
 rw[aG.2 (by omega),ah]
 congr 3
 cases J:(Nat.beq off 0&&Nat.beq 0 n) with
 |true =>
  simp only[bK,beq_iff] at J
  rw[ah]
  rw[ql (by omega:cs.length=0)]
 |false=>rw[aL,dY,mj,Ds]
theorem Po (s:Sat h (bp v l::X::S))(hX:cD X (cE w m)){b:Nat}(oT:a≤b)(hb:b≤l.length)(hl:1≤l.length):
  ∃h',copyV Tryz.prog h 23 (slR v a b) w=some (.int .i64 (min m.length (b-a):Nat),h')∧Sat h' (bp v (bH l a (m.take (b-a)))::X::S):=by
 by_cases h1:a<b∧1≤m.length
 ·exact G9 s hX h1.1 hb h1.2
 ·have hm:min m.length (b-a)=0:=by omega
  have ht:m.take (b-a)=[]:=ql (by rw[qt];omega)
  have C2:bH l a (m.take (b-a))=l:=by rw[ht,bH];simp
  have hw:=(s.aI (k:=1) rfl hX).2
  have hv:=(s.buf (k:=0) rfl).view
  obtain⟨id,c,cap,rest,rfl,s1,hc,hf⟩:=s.fF hl
  obtain⟨off,Lk,e1,e2⟩:=H_ (id:=id) (cap:=cap) oT hb
  rw[e1,C2,hm]
  have hg:=s1.row (k:=0) rfl
  have He:=KV (off:=off) hg (by omega) (by rw[bY,dS];exact hc)
  have J:Sat (h.put id (some (.cells c (ofBytes l++rest) false))) (bp (.sl id 0 l.length cap) l::X::S):=hf _ _ rfl hv.1 (s1.put (k:=0) rfl)
  rcases hw with⟨rfl|⟨x,rfl⟩,_⟩|⟨A_,I,L2,n2,Xw,TL,rfl,G_,q1,q2,q3,q4⟩
  ·exact⟨h,by simp only[copyV,aN,eT];rfl,s⟩
  ·exact⟨h,by simp only[copyV,aN,eT];rfl,s⟩
  ·refine⟨_,?_,J⟩
   have hr:rdN h A_ I 0=some []:=by
    simp only[rdN,G_,mj]
    rw[aG.2 (by omega),ah]
    cases hq:(Nat.beq I 0&&Nat.beq 0 n2) with
    |true =>
     simp only[bK,beq_iff] at hq
     rw[ah,ql (by omega:Xw.length=0)]
    |false=>rw[aL,z7]
   simp only[copyV,aN,eT]
   rw[show Nat.min m.length (b-a)=0 from hm,Ab,hr]
   simp only
   rw[He]
theorem Pp (s:Sat h (bp v l::S)){b:Nat}(ha:a≤l.length)(hb:b≤l.length)(hl:1≤l.length):
  ∃h',copyV Tryz.prog h 23 (slR v a a) (slR v b b)=some (.int .i64 0,h')∧Sat h' (bp v l::S):=by
 have hv:=(s.buf (k:=0) rfl).view
 obtain⟨id,c,cap,rest,rfl,s1,hc,hf⟩:=s.fF hl
 obtain⟨off,Lk,e1,e2⟩:=H_ (id:=id) (cap:=cap) (aQ _) ha
 obtain⟨I,L2,e3,e4⟩:=H_ (id:=id) (cap:=cap) (aQ _) hb
 rw[e1,e3]
 have hg:=s1.row (k:=0) rfl
 have hle:(ofBytes l++rest).length=c:=by rw[bY,dS];exact hc
 have J:=KV (off:=off) hg (by omega) hle
 refine⟨_,?_,hf _ _ rfl hv.1 (s1.put (k:=0) rfl)⟩
 have hr:rdN h id I 0=some []:=by
  simp only[rdN,hg,mj]
  rw[aG.2 (by omega),ah]
  cases hq:(Nat.beq I 0&&Nat.beq 0 c) with
  |true =>
   simp only[bK,beq_iff] at hq
   rw[ah,ql (by omega:(ofBytes l++rest).length=0)]
  |false=>rw[aL,z7]
 simp only[copyV,aN,eT,Ac]
 rw[show Nat.min 0 0=0 from rfl,Ab,hr]
 simp only
 rw[J]
 rfl
end
section
variable {v:V} {m:List Nat}
theorem OpR.T2 {b:Nat}(hP:C.P=Tryz.prog)(s:Sat h (bp v l::X::S))(hX:cD X (cE u m))(I:o.op=.call cl)(hc:cl.callee=.builtin .copy)(J:cl.argTypes = #[23,23])(ha:lookArgs E cl.args.toList=some [slR v a b,u])
 (oT:a≤b)(hb:b≤l.length)(hl:1≤l.length): OpR C E h o fun _ h₁=>Sat h₁ (bp v (bH l a (m.take (b-a)))::X::S):=by
 obtain⟨h₁,e1,e2⟩:=Po s hX oT hb hl
 refine OpR.builtin I hc ha ⟨.int .i64 (min m.length (b-a):Nat),h₁,?_,e2⟩
 simp only[builtinV,hP,J,e1]
theorem OpR.Z6 {b:Nat}(hP:C.P=Tryz.prog)(s:Sat h (bp v l::S))(I:o.op=.call cl)(hc:cl.callee=.builtin .copy)(J:cl.argTypes = #[23,23])(hx:lookArgs E cl.args.toList=some [slR v a a,slR v b b])
 (ha:a≤l.length)(hb:b≤l.length)(hl:1≤l.length): OpR C E h o fun _ h₁=>Sat h₁ (bp v l::S):=by
 obtain⟨h₁,e1,e2⟩:=Pp s ha hb hl
 refine OpR.builtin I hc hx ⟨.int .i64 0,h₁,?_,e2⟩
 simp only[builtinV,hP,J,e1]
end
section
variable {told:cC} {v:V} {c:List Nat} {kd:Nat} {cs:List (List Nat)}
theorem C5 (I:W told){f:Nat}(s:Sat h (bp v b::S))(hl:b.length=512)(hi:30+4*i≤512)(hf:f<65536)(hz:z<65536):
  Call ⟨Tryz.prog,told⟩ 194 [.agg [v],.int .i64 (i:Int),.int .i64 (f:Int),.int .i64 (z:Int)] h fun r h'=>r=.aO []∧Sat h' (bp v (y7 b i f z)::S):=by
 have hle:∀n,(le 2 n).length=2:=fun n=>cq 2 n
 have l1:(bH b (26+4*i) (le 2 f)).length=512:=by rw[c5 (by rw[hle];omega),hl]
 obtain⟨lM,_,cap,_,rfl,_⟩:=s.fF (by omega)
 have J:(26:Int)+4*(i:Int)=((26+4*i:Nat):Int):=by omega
 have e2:(26:Int)+4*(i:Int)+2=((26+4*i+2:Nat):Int):=by omega
 refine Call.of_wp (I.free _ rfl) Tryz.func194 rfl rfl (zg rfl ?_)
 refine au.bP s rfl rfl rfl (dG rfl rfl) (fun p4 h s => ?_)
 refine zk 4 rfl (zb rfl (by exact iE (az (by omega) (by omega))) ?_)
 refine zb rfl (by exact aW (az (by omega) (by omega))) ?_
 refine zk 4 rfl (zl rfl (s.cK (k:=0) rfl b_ bI) (zk 2 rfl (zo rfl (bO rfl (by exact gB bF bM (eB (by omega) (by omega)))) ?_)))
 rw[J]
 refine zc rfl (pT (a:=26+4*i) (z:=2) (n:=f) I (s.ae [1]) (by decide) (by decide) (by omega) (by omega)) ?_
 rintro r h ⟨rfl,s⟩
 have s:=s.ae [1,0]
 refine zk 2 rfl (zl rfl (s.cK (k:=0) rfl b_ bI) (zm rfl (zo rfl (aq (r:=.int .i64 ((26+4*i+2:Nat):Int)) rfl rfl (by rw[←e2,←J];exact aW (az (by omega) (by omega)))) ?_)))
 refine zm rfl (zo rfl (bO rfl (by exact gB bF bM (eB (by omega) (by omega)))) ?_)
 refine zc rfl (pT (a:=26+4*i+2) (z:=2) (n:=z) I (s.ae [1]) (by decide) (by decide) (by omega) (by omega)) ?_
 rintro r h ⟨rfl,s⟩
 exact zv ⟨aa,_,rfl,rfl,s.del 1⟩
theorem Eu (hT:W told)(s:Sat h S)(hk:getA S k=some X)(hX:cD X (cE v b))(J:dX b kd link extra cs)(hc:cs[i]?=some c):
  Call ⟨Tryz.prog,told⟩ 202 [.agg [v],.int .i64 (i:Int)] h fun r h'=>∃f,r=slR3 v f (f+c.length) (f+c.length)∧cD X (cE r c)∧Sat h' S:=by
 have hv:=s.aI hk hX
 have hl:=J.len
 have hi:=(List.getElem?_eq_some_iff.1 hc).1
 have fu:=J.fits
 have tM:=J.low
 obtain⟨s1,s2,s3⟩:=J.slot i c hc
 have Fs:=ou (cs:=cs) (i:=i+1)
 have Pn:=m_ hc
 have I:=J.cell hc
 generalize hf:dH b i=f at s1 s3 I
 obtain⟨pi,po,pc,rfl⟩:=gU hv (by omega)
 refine Call.of_wp (hT.free _ rfl) Tryz.func202 rfl rfl (zg rfl ?_)
 refine au.bP s rfl rfl rfl (dG rfl rfl) (fun p2 h s => ?_)
 refine zk 4 rfl (zl rfl (s.cK (k:=0) rfl b_ bI) (zm rfl (zc rfl (AI hT s (mw hk) hX hl (by omega)) ?_)))
 rintro r h' ⟨rfl,s⟩
 rw[hf,s2]
 refine zk 8 rfl (zY s 0 gH b8 rfl (zk 3 rfl (zb rfl (by exact aW (az (by omega) (by omega))) ?_)))
 refine zk 2 rfl (zb rfl (by exact aW (az (by omega) (by omega))) ?_)
 have e1:(f:Int)+(c.length:Int)=((f+c.length:Nat):Int):=by omega
 have jT:=Ba (s.aI (mw hk) hX) (a:=f) (b:=f+c.length) (c:=f+c.length) (by omega) (aQ _) (by omega) (by omega)
 rw[e1]
 refine zo rfl (cj (p:=some (.int .i64 (f:Int))) (q:=some (.int .i64 ((f+c.length:Nat):Int))) (m:=some (.int .i64 ((f+c.length:Nat):Int))) (p':=some f) (q':=some (f+c.length)) (m':=some (f+c.length)) rfl rfl rfl rfl (by rw[cF (by omega)];rfl) (by rw[cF (by omega)];rfl) (by rw[cF (by omega)];rfl) jT) ?_
 refine zk 2 rfl (WP.ret ⟨aa,_,rfl,?_⟩)
 refine⟨f,rfl,?_,s.drop⟩
 have:=Fe hX (a:=f) (b:=f+c.length) (c:=f+c.length) (by omega) (aQ _) (by omega) (by omega)
 rw[sO,show f+c.length-f=c.length by omega,I] at this
 exact this
theorem Vr (J:W told)(s:Sat h S)(hk:getA S k=some X)(hX:cD X (cE v b))(I:dX b kd link extra cs):
  Call ⟨Tryz.prog,told⟩ 196 [.agg [v]] h fun r h'=>r=.int .i64 (486-(4*(cs.length:Int)+(tot cs:Int)))∧Sat h' S:=by
 have hv:=s.aI hk hX
 have hl:=I.len
 have fu:=I.fits
 have tM:=I.low
 obtain⟨pi,po,pc,rfl⟩:=gU hv (by omega)
 refine Call.of_wp (J.free _ rfl) Tryz.func196 rfl rfl (zg rfl ?_)
 refine au.bP s rfl rfl rfl (dG rfl rfl) (fun p1 h s => ?_)
 refine zk 3 rfl ?_
 have s0:=s
 refine WP.drawn [none,none,some (1,2),some (0,2),af,af,af,af] rfl (by kernel_rfl) (by kernel_rfl) ?_
 refine zL rfl (s.cK (k:=0) rfl b_ bI) (ax.any rfl rfl rfl rfl (OpR.call rfl rfl rfl rfl (Hw J s (mw hk) hX hl)) ?_)
 rintro r h' ⟨rfl,s⟩
 have s1:=s
 refine zO rfl (aq rfl rfl (by exact g9 (az (by omega) (by omega)))) ?_
 refine zL rfl (s.cK (k:=0) rfl b_ bI) (ax.any rfl rfl rfl rfl (OpR.call rfl rfl rfl rfl (kQ J s (mw hk) hX hl)) ?_)
 rintro r h' ⟨rfl,s⟩
 rw[I.dc]
 refine zO rfl (aq rfl rfl (by exact iE (az (by omega) (by omega)))) ?_
 refine zO rfl (aq rfl rfl (by exact g9 (az (by omega) (by omega)))) ?_
 refine zA rfl ?_
 refine ax.nil ⟨⟨aa,aa,fun _ _=>.inr ⟨rfl,⟨_,aq rfl rfl (by exact g9 (az (by omega) (by omega)))⟩,aB _ rfl⟩,dJ (.inr ⟨rfl,⟨_,aH rfl (s0.cK (k:=0) rfl b_ bI)⟩,aB _ rfl⟩) (.inr ⟨rfl,⟨_,aH rfl (s1.cK (k:=0) rfl b_ bI)⟩,aB _ rfl⟩),aa,aa,aa,aa,aa⟩,?_⟩
 refine WP.ret ⟨aa,_,rfl,?_⟩
 exact⟨iZ (V.int .i64) (by omega),s.drop⟩
noncomputable def pfL : Code:=cm [1,1,0,1,0,0] ((Tryz.f195.body).getD .skip)
theorem MB (hT:W told){p1:Nat}(hX:cD X (cE x b))(EY:x.cells=[x])(J:dX b kd link extra cs): ∀(m i:Nat) (h:H) (E:List (Nat×V)) (Q:Ex→List (Nat×V)→H→Prop),i+m=cs.length →
  Sat h (pt p1 (.cells 1 [x] false)::X::S)→Has E [(1,.ptr p1 0),(3,.int .i64 (486-(4*(cs.length:Int)+(tot (cs.take i):Int)))),(12,.int .i64 (cs.length:Int)),(13,.int .i64 (i:Int))] →
  (∀E' h',Has E' [(3,.int .i64 (486-(4*(cs.length:Int)+(tot cs:Int))))]→Sat h' (pt p1 (.cells 1 [x] false)::X::S)→Q (.exit 0) E' h')→WP ⟨Tryz.prog,told⟩ 27 (.loop pfL) E h Q:=by
 have hl:=J.len
 have fu:=J.fits
 intro m
 induction m with
 |zero =>
  intro i h E Q hi s hE hq
  refine WP.loop (WP.has hE (zg rfl (zC rfl aT (by simp<;>omega) ?_)))
  refine zk 3 rfl (WP.exit ?_)
  refine hq _ _ ⟨?_,aa⟩ s
  rw[show cs.take i=cs from gC (by omega)]
  rfl
 |succ m ih =>
  intro i h E Q hi s hE hq
  have I:cs[i]?=some (cs[i]'(by omega)):=bw _
  generalize (cs[i]'(by omega))=c at I
  obtain⟨s1,s2,s3⟩:=J.slot i c I
  have Fs:=ou (cs:=cs) (i:=i+1)
  have Pn:=m_ I
  refine WP.loop (WP.has hE (zg rfl (zB rfl aT (by simp<;>omega) ?_)))
  refine zk 5 rfl (WP.block (zK 7 rfl (zl rfl (s.cK (k:=0) rfl b_ bI) (zm rfl (zc rfl (AI hT (i:=i) s (k:=1) rfl hX hl (by omega)) ?_)))))
  rintro r h' ⟨rfl,s⟩
  rw[s2]
  refine zk 9 rfl (zb rfl (by exact g9 (az (by omega) (by omega))) ?_)
  refine za rfl (zv (zr rfl (zb rfl (by exact aW (az (by omega) (by omega))) ?_)))
  refine zm rfl (zv ?_)
  refine ih (i+1) _ _ Q (by omega) s ⟨rfl,?_,rfl,rfl,aa⟩ hq
  exact iZ (fun z=>some (V.int .i64 z)) (by omega)
theorem Sg (J:W told)(s:Sat h (X::S))(hX:cD X (cE v b))(I:dX b kd link extra cs):
  Call ⟨Tryz.prog,told⟩ 195 [.agg [v]] h fun r h'=>r=.int .i64 (486-(4*(cs.length:Int)+(tot cs:Int)))∧Sat h' (X::S):=by
 have hv:=s.aI (k:=0) rfl hX
 have hl:=I.len
 have fu:=I.fits
 obtain⟨pi,po,pc,rfl⟩:=gU hv (by omega)
 refine Call.of_wp (J.free _ rfl) Tryz.func195 rfl rfl (zg rfl ?_)
 refine au.bP s rfl rfl rfl (dG rfl rfl) (fun p1 h s => ?_)
 refine zk 4 rfl (zl rfl (s.cK (k:=0) rfl b_ bI) (zc rfl (kQ J s (k:=1) rfl hX hl) ?_))
 rintro r h' ⟨rfl,s⟩
 rw[I.dc]
 refine zb rfl (by exact iE (az (by omega) (by omega))) ?_
 refine zb rfl (by exact g9 (az (by omega) (by omega))) ?_
 refine zk 5 rfl (zl rfl (s.cK (k:=0) rfl b_ bI) (zc rfl (kQ J s (k:=1) rfl hX hl) ?_))
 rintro r h' ⟨rfl,s⟩
 rw[I.dc]
 refine zk 2 rfl (WP.block ?_)
 refine MB J hX rfl I cs.length 0 _ _ _ (by omega) s ⟨rfl,?_,rfl,rfl,aa⟩ (fun E' h' hE s' => ?_)
 ·exact iZ (fun z=>some (V.int .i64 z)) (by have:tot (cs.take 0)=0:=rfl;omega)
 have s:=s'
 exact WP.has hE (zK 5 rfl (WP.ret ⟨aa,_,rfl,rfl,s.del 0⟩))
theorem Sh (I:W told)(s:Sat h (bp v b::X::S))(J:cD X (cE x c))(hl:b.length=512)(hi:30+4*i≤512)(rR:iG b=lo+c.length)(acB:lo+c.length≤512):
  Call ⟨Tryz.prog,told⟩ 198 [.agg [v],.int .i64 (i:Int),x] h fun r h'=>r=.aO []∧Sat h' (bp v (y7 (bH (bH b lo c) 16 (le 2 lo)) i lo c.length)::X::S):=by
 have hle:∀n,(le 2 n).length=2:=fun n=>cq 2 n
 have l1:(bH b lo c).length=512:=by rw[c5 (by omega),hl]
 have l2:(bH (bH b lo c) 16 (le 2 lo)).length=512:=by rw[c5 (by rw[hle];omega),l1]
 obtain⟨lM,_,cap,_,rfl,_⟩:=s.fF (by omega)
 have hxv:=s.aI (k:=1) rfl J
 have hx:=hxv.cells
 refine Call.of_wp (I.free _ rfl) Tryz.func198 rfl rfl (zg rfl ?_)
 refine au.bP s rfl rfl rfl (dG rfl rfl) (fun p3 h s => ?_)
 refine zk 3 rfl (zl rfl (s.cK (k:=0) rfl b_ bI) (zc rfl (Hw I s (k:=1) rfl (aY _ _) hl) ?_))
 rintro r h' ⟨rfl,s⟩
 rw[rR]
 refine zm rfl (zo rfl (a_ rfl rfl rfl (bA aN (s.aI (k:=2) rfl J))) (zo rfl (aq (r:=.int .i64 (lo:Int)) rfl rfl (by rw[show((lo:Nat):Int)=((lo+c.length:Nat):Int)-(c.length:Int) by omega];exact g9 (az (by omega) (by omega)))) ?_))
 refine zk 4 rfl (zY s 0 gH b8 rfl (zm rfl ?_))
 have jT:=gj (s.aI (k:=1) rfl (aY _ _)) (a:=lo) (by omega)
 refine zo rfl (cj (p:=some (.int .i64 (lo:Int))) (q:=none) (m:=none) (p':=some lo) (q':=none) (m':=none) rfl rfl rfl rfl (by rw[cF (by omega)];rfl) rfl rfl jT.1) ?_
 refine zm rfl (au.any rfl rfl rfl (OpR.T2 rfl (s.ae [1,1]) J rfl rfl rfl rfl (by omega) (aQ _) (by omega)) ?_)
 intro r h s
 rw[gC (by omega)] at s
 have s:=s.ae [2,0,0]
 refine zk 3 rfl (zl rfl (s.cK (k:=0) rfl b_ bI) (zm rfl (zo rfl (bO rfl (by exact gB bF bM (eB (by omega) (by omega)))) ?_)))
 refine zc rfl (pT (a:=16) (z:=2) (n:=lo) I (s.ae [1]) (by decide) (by decide) (by omega) (by omega)) ?_
 rintro r h ⟨rfl,s⟩
 have s:=s.ae [1,0,0]
 refine zk 2 rfl (zl rfl (s.cK (k:=0) rfl b_ bI) (zk 3 rfl (zo rfl (a_ rfl rfl rfl (bA aN (s.aI (k:=2) rfl J))) (zc rfl (C5 (i:=i) (f:=lo) (z:=c.length) I (s.ae [1]) l2 hi (by omega) (by omega)) ?_))))
 rintro r h ⟨rfl,s⟩
 exact zv ⟨aa,_,rfl,rfl,s.del 1⟩
end
end Go.Proofs.YtiojppeahfoiaaaGreat.Am
