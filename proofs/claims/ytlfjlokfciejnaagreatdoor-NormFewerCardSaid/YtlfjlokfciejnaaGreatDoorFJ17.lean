/- Texts of ours, joined and written short by a program of ours. -/
import Derived.Test.YtlfjlokfciejnaaGreatDoorFJ15
set_option maxRecDepth 20000
set_option maxHeartbeats 4000000
set_option linter.unusedVariables false
set_option linter.unusedSimpArgs false
namespace Go.Gr
open Go.Abs Go.Proofs
def Yj:MC:=(λx(_:x=gC tt [] [] [] (gB Tryz.f7))=>x) _ (by dsimp[Tryz.f7])
theorem zCb:WT Pg 7 55 Yj [.tmp 0]:=wT gy Tryz.func7 (by kernel_rfl)
def Yk:MC:=(λx(_:x=gC tt [] [] [] (iP 0 (gB Tryz.f4)))=>x) _ (by dsimp[Tryz.f4])
def Yl:MC:=(λx(_:x=gC tt [] [] [(0,Yk)] (gB Tryz.f4))=>x) _ (by dsimp[Tryz.f4])
theorem zMf:WT Pg 4 100 Yl [.tmp 2]:=wT gy Tryz.func4 (by kernel_rfl)
def O4:MC:=(λx(_:x=gC tt [] [] [] (iP 0 (gB Tryz.f12)))=>x) _ (by dsimp[Tryz.f12])
def Ym:MC:=(λx(_:x=gC tt [] [] [(0,O4)] (gB Tryz.f12))=>x) _ (by dsimp[Tryz.f12])
theorem zMp:WT Pg 12 63 Ym [.tmp 2,.tmp 3]:=wT gy Tryz.func12 (by kernel_rfl)
def Yn:MC:=(λx(_:x=gC tt [] [] [] (iP 0 (gB Tryz.f13)))=>x) _ (by dsimp[Tryz.f13])
def Yo:MC:=(λx(_:x=gC tt [] [] [(0,Yn)] (gB Tryz.f13))=>x) _ (by dsimp[Tryz.f13])
theorem zMq:WT Pg 13 20 Yo [.tmp 2]:=wT gy Tryz.func13 (by kernel_rfl)
def O5:MC:=(λx(_:x=gC tt [] [(8,[0,1,0,0,8,0,56,120,248,0,1016,2047,4095,8191])] [] (iP 0 (gB Tryz.f9)))=>x) _ (by dsimp[Tryz.f9])
def Yp:MC:=(λx(_:x=gC tt [(0,2),(3,9),(4,32)] [] [(0,O5)] (gB Tryz.f9))=>x) _ (by dsimp[Tryz.f9])
theorem zCc:WT Pg 9 33 Yp [.cell 4 true 3]:=wT gy Tryz.func9 (by kernel_rfl)
def Yq:MC:=(λx(_:x=gC tt [] [(3,[0,1,3,7,0,16,48,112,0,256,768,1792,4095,0,8192,24576,57344,131071,262143])] [] (gB Tryz.f19))=>x) _ (by dsimp[Tryz.f19])
theorem zCd:WT Pg 19 25 Yq [.cell 2 true 8]:=wT gy Tryz.func19 (by kernel_rfl)
def Yr:MC:=(λx(_:x=gC tt [(0,1)] [(4,[0,1,3,7,0,16,48,112,0,0,783,2047]),(6,[0,1,3,7,0,31,0,64,192,448,63,2047])] [] (gB Tryz.f20))=>x) _ (by dsimp[Tryz.f20])
theorem zAV:WT Pg 20 39 Yr [.cell 2 true 8]:=wT gy Tryz.func20 (by kernel_rfl)
def Yt:MC:=(λx(_:x=gC tt [] [(5,[0,1,0,0,0,24,63,127])] [] (iP 0 (gB Tryz.f21)))=>x) _ (by dsimp[Tryz.f21])
def Yu:MC:=(λx(_:x=gC tt [(0,2),(3,9),(4,28)] [] [(0,Yt)] (gB Tryz.f21))=>x) _ (by dsimp[Tryz.f21])
theorem zCe:WT Pg 21 30 Yu [.cell 4 true 8]:=wT gy Tryz.func21 (by kernel_rfl)
def Yv:MC:=(λx(_:x=gC tt [] [] [] (gB Tryz.f35))=>x) _ (by dsimp[Tryz.f35])
theorem zE3:WT Pg 35 10 Yv [.cell 4 true 8]:=wT gy Tryz.func35 (by kernel_rfl)
def Am:MC:=(λx(_:x=gC tt [] [(3,[0,0,3,7])] [] (gB Tryz.f38))=>x) _ (by dsimp[Tryz.f38])
theorem zCf:WT Pg 38 40 Am [.tmp 4]:=wT gy Tryz.func38 (by kernel_rfl)
def Yw:MC:=(λx(_:x=gC tt [] [] [] (gB Tryz.f36))=>x) _ (by dsimp[Tryz.f36])
theorem zz2:WT Pg 36 28 Yw [.cell 6 true 5]:=wT gy Tryz.func36 (by kernel_rfl)
def Yx:MC:=(λx(_:x=gC tt [] [] [] (gB Tryz.f61))=>x) _ (by dsimp[Tryz.f61])
theorem zyk:WT Pg 61 17 Yx [.tmp 2]:=wT gy Tryz.func61 (by kernel_rfl)
def O6:MC:=(λx(_:x=gC tt [(3,75),(3,84),(4,85)] [(13,[0,1,3,7,0,16,48,112,0,256,1023,0,2048,6144,14336,0,32768,98304,229376,0,1048575,2097151])] [] (iP 0 (gB Tryz.f62)))=>x) _ (by dsimp[Tryz.f62])
def O7:MC:=(λx(_:x=gC tt [(3,15)] [] [(0,O6)] (gB Tryz.f62))=>x) _ (by dsimp[Tryz.f62])
theorem zz3:WT Pg 62 87 O7 [.cell 6 true 5]:=wT gy Tryz.func62 (by kernel_rfl)
def J4:MC:=(λx(_:x=gC tt [] [] [] (gB Tryz.f98))=>x) _ (by dsimp[Tryz.f98])
theorem O8:WT Pg 98 30 J4 [.cell 4 true 4,.tmp 5,.tmp 6]:=wT gy Tryz.func98 (by kernel_rfl)
def Yy:MC:=(λx(_:x=gC tt [] [] [] (gB Tryz.f97))=>x) _ (by dsimp[Tryz.f97])
theorem zgI:WT Pg 97 6 Yy [.tmp 2]:=wT gy Tryz.func97 (by kernel_rfl)
def O9:MC:=(λx(_:x=gC tt [] [] [] (iP 0 (gB Tryz.f100)))=>x) _ (by dsimp[Tryz.f100])
def Oa:MC:=(λx(_:x=gC tt [] [(15,[0,0,0,4,0,28,60,0,128,0,896,1920,0,8188,16383])] [] (iP 2 (gB Tryz.f100)))=>x) _ (by dsimp[Tryz.f100])
def Yz:MC:=(λx(_:x=gC tt [(5,39),(3,97),(4,97)] [] [(0,O9),(2,Oa)] (gB Tryz.f100))=>x) _ (by dsimp[Tryz.f100])
theorem zxk:WM Pg 100 98 Yz []:=wM gy Tryz.func100 (by kernel_rfl)
def J5:MC:=(λx(_:x=gC tt [(1,1)] [] [] (gB Tryz.f66))=>x) _ (by dsimp[Tryz.f66])
theorem zCg:WT Pg 66 3 J5 [.cell 0 true 5]:=wT gy Tryz.func66 (by kernel_rfl)
theorem zAW:WM Pg 66 3 J5 [.cell 0 true 5]:=wM gy Tryz.func66 (by kernel_rfl)
def ZA:MC:=(λx(_:x=gC tt [] [(1,[0,0,3,7])] [] (gB Tryz.f102))=>x) _ (by dsimp[Tryz.f102])
theorem zz4:WT Pg 102 6 ZA [.tmp 2]:=wT gy Tryz.func102 (by kernel_rfl)
def ZB:MC:=(λx(_:x=gC tt [] [] [] (gB Tryz.f37))=>x) _ (by dsimp[Tryz.f37])
theorem zxl:WT Pg 37 17 ZB [.cell 4 true 5]:=wT gy Tryz.func37 (by kernel_rfl)
def Ob:MC:=(λx(_:x=gC tt [] [] [] (iP 0 (gB Tryz.f64)))=>x) _ (by dsimp[Tryz.f64])
def Oc:MC:=(λx(_:x=gC tt [] [] [] (iP 2 (gB Tryz.f64)))=>x) _ (by dsimp[Tryz.f64])
def Od:MC:=(λx(_:x=gC tt [] [(25,[0,0,0,0,8,0,56,120,252,511])] [] (iP 4 (gB Tryz.f64)))=>x) _ (by dsimp[Tryz.f64])
def J6:MC:=(λx(_:x=gC tt [(3,19),(4,41),(3,111),(4,112),(3,143)] [(31,[0,0,3,0,0,31,63])] [(0,Ob),(2,Oc),(4,Od)] (gB Tryz.f64))=>x) _ (by dsimp[Tryz.f64])
theorem Oe:WT Pg 64 145 J6 [.cell 4 true 5]:=wT gy Tryz.func64 (by kernel_rfl)
def Og:MC:=(λx(_:x=gC tt [] [] [] (iP 0 (gB Tryz.f63)))=>x) _ (by dsimp[Tryz.f63])
def Oh:MC:=(λx(_:x=gC tt [] [(16,[0,1,3,7,15,7,39,127,255,7,519,7,3591,7687,16383,32767,65535,131071,262143,524287,1048575,2097151,4194303,8388607,16777215,33554431])] [] (iP 2 (gB Tryz.f63)))=>x) _ (by dsimp[Tryz.f63])
def ZC:MC:=(λx(_:x=gC tt [] [] [(0,Og),(2,Oh)] (gB Tryz.f63))=>x) _ (by dsimp[Tryz.f63])
theorem zAX:WT Pg 63 147 ZC [.tmp 2]:=wT gy Tryz.func63 (by kernel_rfl)
def ZE:MC:=(λx(_:x=gC tt [] [] [] (gB Tryz.f65))=>x) _ (by dsimp[Tryz.f65])
theorem zz5:WT Pg 65 38 ZE [.tmp 4]:=wT gy Tryz.func65 (by kernel_rfl)
def ZF:MC:=(λx(_:x=gC tt [] [(3,[0,1,3,7,0,16,48,112,15,511])] [] (gB Tryz.f106))=>x) _ (by dsimp[Tryz.f106])
theorem zz6:WT Pg 106 18 ZF [.cell 2 true 5,.cell 3 true 5]:=wT gy Tryz.func106 (by kernel_rfl)
def Oi:MC:=(λx(_:x=gC tt [] [] [] (gB Tryz.f99))=>x) _ (by dsimp[Tryz.f99])
theorem ZG:WM Pg 99 20 Oi []:=wM gy Tryz.func99 (by kernel_rfl)
def Oj:List Nat:=[0,5,10,11,12]
def ZH:MC:=(λx(_:x=gC tt [(3,18)] [] [] (iP 0 (gB Tryz.f104)))=>x) _ (by dsimp[Tryz.f104])
def ZI:MC:=(λx(_:x=gC tt [(3,9)] [] [(0,ZH)] (gB Tryz.f104))=>x) _ (by dsimp[Tryz.f104])
theorem zyW:WT Pg 104 26 ZI [.tmp 4]:=wT gy Tryz.func104 (by kernel_rfl)
def ZJ:MC:=(λx(_:x=gC tt [] [] [] (gB Tryz.f149))=>x) _ (by dsimp[Tryz.f149])
theorem zxm:WT Pg 149 9 ZJ [.tmp 3]:=wT gy Tryz.func149 (by kernel_rfl)
def EK:List Nat:=[0,1,9,10,11]
def Ol:MC:=(λx(_:x=gC tt [] [(5,[0,0,0,4,12,28,0,64,252,0,512,1536,3584,0,8192,32764,65533,131069,262141,524287,1048575,2097151])] [] (iP 0 (gB Tryz.f105)))=>x) _ (by dsimp[Tryz.f105])
def Om:MC:=(λx(_:x=gC tt [(3,8),(5,8),(3,9)] [] [(0,Ol)] (gB Tryz.f105))=>x) _ (by dsimp[Tryz.f105])
theorem ZK:WM Pg 105 42 Om []:=wM gy Tryz.func105 (by kernel_rfl)
def ZL:MC:=(λx(_:x=gC tt [] [] [] (gB Tryz.f95))=>x) _ (by dsimp[Tryz.f95])
theorem zjm:WT Pg 95 24 ZL [.cell 2 true 4,.tmp 3]:=wT gy Tryz.func95 (by kernel_rfl)
def Oo:MC:=(λx(_:x=gC tt [] [] [] (iP 0 (gB Tryz.f143)))=>x) _ (by dsimp[Tryz.f143])
def GU:MC:=(λx(_:x=gC tt [(5,17),(4,50),(4,58),(4,65)] [] [(0,Oo)] (gB Tryz.f143))=>x) _ (by dsimp[Tryz.f143])
theorem J7:WT Pg 143 70 GU [.cell 2 true 4,.tmp 3]:=wT gy Tryz.func143 (by kernel_rfl)
def ZM:MC:=(λx(_:x=gC tt [] [] [] (gB Tryz.f141))=>x) _ (by dsimp[Tryz.f141])
theorem zhB:WT Pg 141 5 ZM [.tmp 2]:=wT gy Tryz.func141 (by kernel_rfl)
def ZN:MC:=(λx(_:x=gC tt [] [] [] (iP 0 (gB Tryz.f165)))=>x) _ (by dsimp[Tryz.f165])
def Oq:MC:=(λx(_:x=gC tt [] [] [(0,ZN)] (gB Tryz.f165))=>x) _ (by dsimp[Tryz.f165])
theorem ZO:WT Pg 165 26 Oq [.tmp 4]:=wT gy Tryz.func165 (by kernel_rfl)
def ZP:MC:=(λx(_:x=gC tt [] [] [] (iP 0 (gB Tryz.f142)))=>x) _ (by dsimp[Tryz.f142])
def ZQ:MC:=(λx(_:x=gC tt [] [] [(0,ZP)] (gB Tryz.f142))=>x) _ (by dsimp[Tryz.f142])
theorem zjn:WT Pg 142 22 ZQ [.tmp 2]:=wT gy Tryz.func142 (by kernel_rfl)
def ZR:MC:=(λx(_:x=gC tt [] [] [] (gB Tryz.f96))=>x) _ (by dsimp[Tryz.f96])
theorem zjo:WT Pg 96 31 ZR [.tmp 4]:=wT gy Tryz.func96 (by kernel_rfl)
def GV:MC:=(λx(_:x=gC tt [] [] [] (gB Tryz.f145))=>x) _ (by dsimp[Tryz.f145])
theorem zhC:WT Pg 145 29 GV [.cell 4 true 4,.tmp 5]:=wT gy Tryz.func145 (by kernel_rfl)
def ZT:MC:=(λx(_:x=gC tt [] [(1,[0,1,0,7,15])] [] (gB Tryz.f169))=>x) _ (by dsimp[Tryz.f169])
theorem zgJ:WT Pg 169 8 ZT [.tmp 3]:=wT gy Tryz.func169 (by kernel_rfl)
def ZU:MC:=(λx(_:x=gC tt [] [] [] (gB Tryz.f170))=>x) _ (by dsimp[Tryz.f170])
theorem zj4:WT Pg 170 14 ZU [.tmp 2]:=wT gy Tryz.func170 (by kernel_rfl)
def Ot:MC:=(λx(_:x=gC tt [(2,36)] [] [] (iP 2 (gB Tryz.f167)))=>x) _ (by dsimp[Tryz.f167])
def ZV:MC:=(λx(_:x=gC tt [] [] [(2,Ot)] (iP 0 (gB Tryz.f167)))=>x) _ (by dsimp[Tryz.f167])
def ZW:MC:=(λx(_:x=gC tt [(5,43)] [(21,[0,1,0,4,12,28,63,127,255])] [] (iP 4 (gB Tryz.f167)))=>x) _ (by dsimp[Tryz.f167])
def ZX:MC:=(λx(_:x=gC tt [(5,43)] [(25,[0,0,2,6,14,1,63])] [(0,ZV),(4,ZW)] (gB Tryz.f167))=>x) _ (by dsimp[Tryz.f167])
theorem ziA:WT Pg 167 70 ZX [.cell 2 true 4,.tmp 3]:=wT gy Tryz.func167 (by kernel_rfl)
def ZY:MC:=(λx(_:x=gC tt [] [(6,[0,0,2,6,14,30,63,127])] [] (gB Tryz.f186))=>x) _ (by dsimp[Tryz.f186])
theorem zgK:WM Pg 186 22 ZY [.tmp 3]:=wM gy Tryz.func186 (by kernel_rfl)
def Ou:MC:=(λx(_:x=gC tt [] [] [] (iP 0 (gB Tryz.f166)))=>x) _ (by dsimp[Tryz.f166])
def Ov:MC:=(λx(_:x=gC tt [] [(16,[0,1,3,7,7,23,63,127,255,7,519,2047,4095]),(18,[0,1,0,4,12,31,0,64,0,256,768,2047,255,8191,16383,32767])] [] (iP 2 (gB Tryz.f166)))=>x) _ (by dsimp[Tryz.f166])
def ZZ:MC:=(λx(_:x=gC tt [(5,23),(3,45),(4,46),(5,47)] [] [(0,Ou),(2,Ov)] (gB Tryz.f166))=>x) _ (by dsimp[Tryz.f166])
theorem zhD:WT Pg 166 84 ZZ [.cell 4 true 4,.tmp 5]:=wT gy Tryz.func166 (by kernel_rfl)
def Z0:MC:=(λx(_:x=gC tt [] [] [] (gB Tryz.f182))=>x) _ (by dsimp[Tryz.f182])
theorem zkX:WT Pg 182 28 Z0 [.tmp 2]:=wT gy Tryz.func182 (by kernel_rfl)
def Z4:MC:=(λx(_:x=gC tt [] [] [] (gB Tryz.f193))=>x) _ (by dsimp[Tryz.f193])
theorem zjq:WT Pg 193 21 Z4 [.tmp 2]:=wT gy Tryz.func193 (by kernel_rfl)
def Z5:MC:=(λx(_:x=gC tt [] [] [] (iP 0 (gB Tryz.f194)))=>x) _ (by dsimp[Tryz.f194])
def Z6:MC:=(λx(_:x=gC tt [] [] [(0,Z5)] (gB Tryz.f194))=>x) _ (by dsimp[Tryz.f194])
theorem zlT:WT Pg 194 21 Z6 [.tmp 4]:=wT gy Tryz.func194 (by kernel_rfl)
def Z7:MC:=(λx(_:x=gC tt [] [] [] (gB Tryz.f195))=>x) _ (by dsimp[Tryz.f195])
theorem zj5:WT Pg 195 9 Z7 [.tmp 2]:=wT gy Tryz.func195 (by kernel_rfl)
def Z8:MC:=(λx(_:x=gC tt [] [] [] (gB Tryz.f212))=>x) _ (by dsimp[Tryz.f212])
theorem zj6:WT Pg 212 9 Z8 [.tmp 2]:=wT gy Tryz.func212 (by kernel_rfl)
def Z9:MC:=(λx(_:x=gC tt [] [] [] (gB Tryz.f197))=>x) _ (by dsimp[Tryz.f197])
theorem zj7:WT Pg 197 2 Z9 [.tmp 0]:=wT gy Tryz.func197 (by kernel_rfl)
def Za:MC:=(λx(_:x=gC tt [] [] [] (gB Tryz.f196))=>x) _ (by dsimp[Tryz.f196])
theorem zb1:WT Pg 196 9 Za [.tmp 4]:=wT gy Tryz.func196 (by kernel_rfl)
def Zb:MC:=(λx(_:x=gC tt [] [] [] (iP 0 (gB Tryz.f146)))=>x) _ (by dsimp[Tryz.f146])
def Zc:MC:=(λx(_:x=gC tt [] [] [(0,Zb)] (gB Tryz.f146))=>x) _ (by dsimp[Tryz.f146])
theorem zcj:WT Pg 146 19 Zc [.tmp 4]:=wT gy Tryz.func146 (by kernel_rfl)
def Zd:MC:=(λx(_:x=gC tt [] [] [] (iP 0 (gB Tryz.f168)))=>x) _ (by dsimp[Tryz.f168])
def Ze:MC:=(λx(_:x=gC tt [] [] [(0,Zd)] (gB Tryz.f168))=>x) _ (by dsimp[Tryz.f168])
theorem zbD:WT Pg 168 19 Ze [.tmp 4]:=wT gy Tryz.func168 (by kernel_rfl)
def Ow:List Nat:=[1,2,15,16,17]
def Zf:MC:=(λx(_:x=gC tt [] [] [] (iP 0 (gB Tryz.f144)))=>x) _ (by dsimp[Tryz.f144])
def Zg:MC:=(λx(_:x=gC tt [] [] [(0,Zf)] (gB Tryz.f144))=>x) _ (by dsimp[Tryz.f144])
theorem zaX:WT Pg 144 32 Zg [.tmp 6]:=wT gy Tryz.func144 (by kernel_rfl)
def J8:MC:=(λx(_:x=gC tt [(7,0)] [] [] (gB Tryz.f103))=>x) _ (by dsimp[Tryz.f103])
theorem zro:WT Pg 103 8 J8 [.tmp 2]:=wT gy Tryz.func103 (by kernel_rfl)
theorem zra:WM Pg 103 8 J8 [.tmp 2]:=wM gy Tryz.func103 (by kernel_rfl)
def Ox:List Nat:=[0,1,12,13]
def Zh:MC:=(λx(_:x=gC tt [] [(6,[0,0,3,7,0,0,48,112,255])] [] (iP 0 (gB Tryz.f107)))=>x) _ (by dsimp[Tryz.f107])
def Zi:MC:=(λx(_:x=gC tt [] [] [(0,Zh)] (gB Tryz.f107))=>x) _ (by dsimp[Tryz.f107])
theorem ztK:WT Pg 107 26 Zi [.tmp 4]:=wT gy Tryz.func107 (by kernel_rfl)
def Oy:List Nat:=[0,1,12,13]
def Zj:MC:=(λx(_:x=gC tt [] [(6,[0,0,3,7,0,0,48,112,255])] [] (iP 0 (gB Tryz.f109)))=>x) _ (by dsimp[Tryz.f109])
def Zk:MC:=(λx(_:x=gC tt [] [] [(0,Zj)] (gB Tryz.f109))=>x) _ (by dsimp[Tryz.f109])
theorem zck:WT Pg 109 26 Zk [.tmp 4]:=wT gy Tryz.func109 (by kernel_rfl)
def Oz:List Nat:=[0,1,12,13]
def Zl:MC:=(λx(_:x=gC tt [] [(6,[0,0,3,7,0,0,48,112,255])] [] (iP 0 (gB Tryz.f108)))=>x) _ (by dsimp[Tryz.f108])
def Zm:MC:=(λx(_:x=gC tt [] [] [(0,Zl)] (gB Tryz.f108))=>x) _ (by dsimp[Tryz.f108])
theorem zrp:WT Pg 108 26 Zm [.tmp 4]:=wT gy Tryz.func108 (by kernel_rfl)
def PD:List Nat:=[1,2,15,16,17]
def Zn:MC:=(λx(_:x=gC tt [] [] [] (iP 0 (gB Tryz.f110)))=>x) _ (by dsimp[Tryz.f110])
def Zo:MC:=(λx(_:x=gC tt [] [] [(0,Zn)] (gB Tryz.f110))=>x) _ (by dsimp[Tryz.f110])
theorem zp0:WT Pg 110 32 Zo [.tmp 6]:=wT gy Tryz.func110 (by kernel_rfl)
def Zp:MC:=(λx(_:x=gC tt [] [] [] (gB Tryz.f101))=>x) _ (by dsimp[Tryz.f101])
theorem zwz:WT Pg 101 8 Zp [.tmp 4]:=wT gy Tryz.func101 (by kernel_rfl)
def Zq:MC:=(λx(_:x=gC tt [(8,171)] [] [] (gB Tryz.f147))=>x) _ (by dsimp[Tryz.f147])
theorem zrq:WT Pg 147 8 Zq [.tmp 4]:=wT gy Tryz.func147 (by kernel_rfl)
def Zr:MC:=(λx(_:x=gC tt [] [] [] (gB Tryz.f148))=>x) _ (by dsimp[Tryz.f148])
theorem zqt:WT Pg 148 9 Zr [.tmp 4]:=wT gy Tryz.func148 (by kernel_rfl)
def PE:List Nat:=[0,1,7,8]
def Zt:MC:=(λx(_:x=gC tt [] [] [] (iP 0 (gB Tryz.f172)))=>x) _ (by dsimp[Tryz.f172])
def Zu:MC:=(λx(_:x=gC tt [] [] [(0,Zt)] (gB Tryz.f172))=>x) _ (by dsimp[Tryz.f172])
theorem zqL:WT Pg 172 19 Zu [.tmp 4]:=wT gy Tryz.func172 (by kernel_rfl)
def Zv:MC:=(λx(_:x=gC tt [(0,1)] [] [] (gB Tryz.f151))=>x) _ (by dsimp[Tryz.f151])
theorem zqe:WM Pg 151 4 Zv [.tmp 2]:=wM gy Tryz.func151 (by kernel_rfl)
end Go.Gr
namespace Go.Gr.P
open Go.Abs Go.Proofs List
@[simp] theorem zKA(l:List (fE × Int))(k:Nat):(iI l)[k]?=(l[k]?).map λx=>[.str x.1,.int .i64 x.2]:=by simp[iI]
theorem zFk(a b:List Int):gU Pg 107 [.one (.sl false 1 (encI a)),.one (.sl false 1 (encI b))] (.one (.bool (decide (a=b)))):=by
 refine ztK (by simp) λo c hN hp=>?_;have hl:a.length<=zah:=by have:=o.1;simp only[DV.ok,D.ok]at this;simpa[encI]using this.1
 unfold zah at hl;unfold Zi;simp;apply gM<;>intro h
 ·simp at h;intro e;rw[e]at h;exact h rfl
 ·simp at h;refine fP gy hp Ox [13] (λj:Nat=>j<=a.length/\a.take j=b.take j) (λj=>[.c (.d (.int .i64 j))]) (λ_=>[]) (λj=>a.length-j) 0 [] (by simp) (by simp[Ox]) λj ⟨h1,h2⟩=>?_;unfold Zh Ox;simp;apply gM<;>intro h
  ·have hj:j<a.length:=by simpa using h
   have hj':j<b.length:=by omega
   simp[aA hj,aA hj'];refine⟨by decide,gM (λh=>?_) (λh=>?_)⟩
   ·simp at h;intro e;subst e;exact h rfl
   ·simp at h;refine fF (j+1) [] ⟨by omega,?_⟩ (by omega) (by simp;exact wI);rw[aJ hj,aJ hj',h2,h]
  ·have hj:j=a.length:=by simp at h;omega
   subst hj;rw[bO,aG (by omega)]at h2;exact h2
theorem Zw(a b:List fE):gU Pg 109 [.one (.sl false 1 (encS a)),.one (.sl false 1 (encS b))] (.one (.bool (decide (a=b)))):=by
 refine zck (by simp) λo c hN hp=>?_;have hl:a.length<=zah:=by have:=o.1;simp only[DV.ok,D.ok]at this;simpa[encS]using this.1
 unfold zah at hl;unfold Zk;simp;apply gM<;>intro h
 ·simp at h;intro e;rw[e]at h;exact h rfl
 ·simp at h;refine fP gy hp Oy [13] (λj:Nat=>j<=a.length/\a.take j=b.take j) (λj=>[.c (.d (.int .i64 j))]) (λ_=>[]) (λj=>a.length-j) 0 [] (by simp) (by simp[Oy]) λj ⟨h1,h2⟩=>?_;unfold Zj Oy;simp;apply gM<;>intro h
  ·have hj:j<a.length:=by simpa using h
   have hj':j<b.length:=by omega
   simp[aA hj,aA hj'];refine⟨by decide,gM (λh=>?_) (λh=>?_)⟩
   ·simp at h;intro e;subst e;exact h rfl
   ·simp at h;refine fF (j+1) [] ⟨by omega,?_⟩ (by omega) (by simp;exact wI);rw[aJ hj,aJ hj',h2,h]
  ·have hj:j=a.length:=by simp at h;omega
   subst hj;rw[bO,aG (by omega)]at h2;exact h2
theorem zDW(a b:List (fE × Int)):gU Pg 108 [.one (.sl false 2 (iI a)),.one (.sl false 2 (iI b))] (.one (.bool (decide (a=b)))):=by
 refine zrp (by simp) λo c hN hp=>?_;have hl:a.length<=zah:=by have:=o.1;simp only[DV.ok,D.ok]at this;simpa[iI]using this.1
 unfold zah at hl;unfold Zm;simp;apply gM<;>intro h
 ·simp at h;intro e;rw[e]at h;exact h rfl
 ·simp at h;refine fP gy hp Oz [13] (λj:Nat=>j<=a.length/\a.take j=b.take j) (λj=>[.c (.d (.int .i64 j))]) (λ_=>[]) (λj=>a.length-j) 0 [] (by simp) (by simp[Oz]) λj ⟨h1,h2⟩=>?_;unfold Zl Oz;simp;apply gM<;>intro h
  ·have hj:j<a.length:=by simpa using h
   have hj':j<b.length:=by omega
   simp[aA hj,aA hj'];refine⟨by decide,gM (λh=>?_) (λh=>?_)⟩
   ·simp at h;intro e;subst e;simp at h
   ·simp at h;refine fF (j+1) [] ⟨by omega,?_⟩ (by omega) (by simp;exact wI);rw[aJ hj,aJ hj',h2,Prod.ext h.1 h.2]
  ·have hj:j=a.length:=by simp at h;omega
   subst hj;rw[bO,aG (by omega)]at h2;exact h2
theorem J9:gU Pg 66 [] (.agg idC.enc):=by
 refine zCg (by simp) λo c hN hp=>?_;unfold J5;simp[idC,gY.enc,encI,iI,encS,gY.encs]
def lD{α:Type}(q:α->α->Bool):List α->List α->Bool
|[],[]=>true
|a::l,b::k=>q a b&&lD q l k
|_,_=>false
theorem Cf{α:Type}(q:α->α->Bool):∀{a b:List α},a.length≠b.length->lD q a b=false
|[],[],h=>by simp at h
|[],_::_,h=>rfl
|_::_,[],h=>rfl
|a::l,b::k,h=>by simp only[lD];rw[Cf q (a:=l) (b:=k) (by simpa using h)];simp
theorem Zx(a b:List gY)(g:FuncId)(caps:List D)(q:gY->gY->Bool)(H:∀x,x∈a->∀y,gU Pg g (.agg x.enc::.agg y.enc::caps.map .one) (.one (.bool (q x y)))):
  gU Pg 110 [.one (.sl false 5 (a.map gY.enc)),.one (.sl false 5 (b.map gY.enc)),.one (.fn (.func g) caps)] (.one (.bool (lD q a b))):=by
 refine zp0 (by simp) λo c hN hp=>?_;have hl:a.length<=zah:=by have:=o.1;simp only[DV.ok,D.ok]at this;simpa using this.1
 unfold zah at hl;unfold Zo;simp;apply gM<;>intro h
 ·simp at h;exact Cf q (by omega)
 ·simp at h;refine fP gy hp PD [17] (λj:Nat=>j<=a.length/\lD q (a.drop j) (b.drop j)=lD q a b) (λj=>[.c (.d (.int .i64 j))]) (λ_=>[]) (λj=>a.length-j) 0 [] (by simp) (by simp[PD]) λj ⟨h1,h2⟩=>?_;unfold Zn PD;simp;apply gM<;>intro h
  ·have hj:j<a.length:=by simpa using h
   have hj':j<b.length:=by omega
   rw[aD hj,aD hj',lD]at h2;simp[aA hj,aA hj'];refine gQ (H _ (aR hj) _) ?_;simp;apply gM<;>intro h
   ·simp at h;rw[h,Bool.false_and]at h2;exact h2.symm
   ·simp at h;rw[h,Bool.true_and]at h2;exact fF (j+1) [] ⟨by omega,h2⟩ (by omega) (by simp;exact wI)
  ·have hj:j=a.length:=by simp at h;omega
   subst hj;rw[aO,bE (by omega)]at h2;rw[<-h2];try rfl
theorem GD:∀(a b:List gY),tY a b=lD jW a b
|[],[]=>by simp[tY,lD]
|[],_::_=>by simp[tY,lD]
|_::_,[]=>by simp[tY,lD]
|a::l,b::k=>by simp[tY,lD,GD l k]
theorem Nw(a b:gY):jW a b=(decide (a.tags=b.tags)&&(decide (a.needs=b.needs)&&(decide (a.names=b.names)&&(lD jW a.fields b.fields&&lD jW a.fn b.fn)))):=by
 cases a;cases b;simp only[jW,GD];rfl
theorem zGn(a b:gY)(ih:∀x,x∈a.fields\/x∈a.fn->∀y,gU Pg 65 [.agg x.enc,.agg y.enc] (.one (.bool (jW x y)))):gU Pg 65 [.agg a.enc,.agg b.enc] (.one (.bool (jW a b))):=by
 have e:=Nw a b;rw[gY.enc_eq a,gY.enc_eq b];refine zz5 (by simp) λo c hN hp=>?_;unfold ZE;simp;refine gQ (zFk _ _) ?_;generalize decide (a.tags=b.tags)=p1 at e⊢;simp;apply gM<;>intro h1
 ·refine gQ (zDW _ _) ?_;generalize decide (a.needs=b.needs)=p2 at e⊢;simp;apply gM<;>intro h2
  ·refine gQ (Zw _ _) ?_;generalize decide (a.names=b.names)=p3 at e⊢;simp;apply gM<;>intro h3
   ·refine gQ (Zx _ _ 65 [] jW λx hx y=>ih x (.inl hx) y) ?_;generalize lD jW a.fields b.fields=p4 at e⊢;simp;apply gM<;>intro h4
    ·refine gQ (Zx _ _ 65 [] jW λx hx y=>ih x (.inr hx) y) ?_;simp[e,h1,h2,h3,h4]
    ·simp at h4;simp[e,h4]
   ·simp at h3;simp[e,h3]
  ·simp at h2;simp[e,h2]
 ·simp at h1;simp[e,h1]
mutual
theorem PG:∀(a b:gY),gU Pg 65 [.agg a.enc,.agg b.enc] (.one (.bool (jW a b)))
|.mk t n s f g,b=>zGn _ b λx hx y=>hx.elim (λh=>PI f x h y) (λh=>PI g x h y)
theorem PI:∀(l:List gY) (x:gY),x∈l->∀y,gU Pg 65 [.agg x.enc,.agg y.enc] (.one (.bool (jW x y)))
|c::l,x,h,y=>by
 cases aN.1 h with
 |inl e=>rw[e];exact PG c y
 |inr e=>exact PI l x e y
end
end Go.Gr.P
namespace Go.Gr.P
open Go.Abs Go.Proofs
theorem yD(a:gY):gU Pg 102 [.agg a.enc] (.one (.bool (jW a idC))):=by
 refine zz4 (by simp) λo c hN hp=>?_;unfold ZA;simp;refine gQ J9 ?_;simp;refine gQ (PG a idC) ?_;simp;decide
theorem zDZ(a b:fE):gU Pg 101 [.one (.str a),.one (.str b)] (.one (.int .i64 (Lib.compareBytes a.data.toList b.data.toList))):=by
 have h:gU Pg 147 [.one (.str a),.one (.str b)] (.one (.int .i64 (Lib.compareBytes a.data.toList b.data.toList))):=by
  refine zrq (by simp) λo c hN hp=>?_;unfold Zq;simp
 refine zwz (by simp) λo c hN hp=>?_;unfold Zp;simp;refine gQ h ?_;simp
end Go.Gr.P
namespace Go.Gr.P
open Go.Abs Go.Proofs List
theorem Ja{c:Ctx}(hp:c.pure)(d:gY)(hl:d.needs.length<=zah){Q:Exit->St->Prop}{S:St}{g}(l0:List Nat)
  (h0:iM l0 S [(62,.c (.d (.int .i64 0))),(1,.c (.d (.rp d.enc 0))),(60,.c (.d (.sl false 2 (iI d.needs)))),(61,.c (.d (.int .i64 d.needs.length))),(3,.c (.map 0))] [.map []])
  (hQ:∀T b x,vY [] d.needs=true->Abs.look T 1=.c (.d (.rp d.enc 0))->Q (.exit 0) ⟨T,hpOf [b],x⟩)
  (hR:∀T m x,vY [] d.needs=false->Abs.look T 2=.c (.d (.bool false))->Q .ret ⟨T,m,x⟩):mW Pg c Og Q g S:=by
 unfold zah at hl;refine fO gy hp (λj:Nat=>j<=d.needs.length/\GG d.needs j) (λj=>[(62,.c (.d (.int .i64 j))),(1,.c (.d (.rp d.enc 0))),(60,.c (.d (.sl false 2 (iI d.needs)))),(61,.c (.d (.int .i64 d.needs.length))),(3,.c (.map 0))]) (λj=>[.map (nS (d.needs.take j))]) (λj=>d.needs.length-j) 0 l0 ⟨by simp,λi h hj=>by omega⟩ h0 λj ⟨g1,g2⟩=>?_;unfold Og;simp;apply gM<;>intro h
 ·have hj:j<d.needs.length:=by simpa using h
  simp[aA hj];apply gM<;>intro h
  ·simp at h;by_cases hm:∃x,x∈d.needs.take j/\d.needs[j].1=x.1
   ·obtain⟨k,hk⟩:=XW _ _ 0 hm;simp[hk];refine hR _ _ _ (XQ λH=>?_) (by simp);obtain⟨x,hx,e⟩:=hm;obtain⟨i,hi,rfl⟩:=bJ hx;simp at hi;rw[getElem_take]at e;exact(H j hj hj).2 i (by omega) e.symm
   ·have hk:=XV d.needs[j].1 (d.needs.take j) 0 λx hx e=>hm ⟨x,hx,e⟩;simp[hk];refine fF (j+1) [0] ⟨by omega,λi hi hij=>?_⟩ (by omega) ?_
    ·by_cases e:i=j
     ·subst e;refine⟨h,λk hk e=>hm ⟨d.needs[k],?_,e.symm⟩⟩;exact List.mem_iff_getElem.2 ⟨k,by simp;omega,by rw[getElem_take]⟩
     ·exact g2 i hi (by omega)
    ·simp;exact⟨wI,by rw[zGX,aJ hj,zCj],λa b hab=>zH7 hab⟩
  ·simp at h;exact hR _ _ _ (XQ λH=>(H j hj hj).1 h) (by simp)
 ·have hj:j=d.needs.length:=by simp at h;omega
  subst hj;exact hQ _ _ _ (zjT g2) (by simp)
theorem Jb{c:Ctx}(hp:c.pure)(d:gY)(hn:d.names.length=d.fields.length)(hl:d.fields.length<=zah){Q:Exit->St->Prop}{S:St}{g}
  (ih:∀x,x∈d.fields\/x∈d.fn->gU Pg 63 [.agg x.enc] (.one (.bool (iY x))))
  (h0:iM [] S [(82,.c (.d (.int .i64 0))),(1,.c (.d (.rp d.enc 0))),(80,.c (.d (.sl false 5 (d.fields.map gY.enc)))),(81,.c (.d (.int .i64 d.fields.length)))] [])
  (hQ:∀T m x,(wU d.names&&d.fields.all λc=>iY c&& !jW c idC)=true->Abs.look T 1=.c (.d (.rp d.enc 0))->Q (.exit 2) ⟨T,m,x⟩)
  (hR:∀T m x,(wU d.names&&d.fields.all λc=>iY c&& !jW c idC)=false->Abs.look T 2=.c (.d (.bool false))->Q .ret ⟨T,m,x⟩):mW Pg c Oh Q g S:=by
 unfold zah at hl;refine fO gy hp (λj:Nat=>j<=d.fields.length/\(∀i (h:i+1<d.names.length),i+1<j->Bb d.names[i+1] d.names[i]=false)/\((d.fields.drop j).all λc=>iY c&& !jW c idC)=d.fields.all λc=>iY c&& !jW c idC) (λj=>[(82,.c (.d (.int .i64 j))),(1,.c (.d (.rp d.enc 0))),(80,.c (.d (.sl false 5 (d.fields.map gY.enc)))),(81,.c (.d (.int .i64 d.fields.length)))]) (λj=>[]) (λj=>d.fields.length-j) 0 [] ⟨by simp,λi h hj=>by omega,by simp⟩ h0 λj ⟨g1,g2,g3⟩=>?_;unfold Oh;simp;apply gM<;>intro h
 ·have hj:j<d.fields.length:=by simpa using h
  have hj':j<d.names.length:=by omega
  rw[aD hj,all_cons]at g3;simp[aA hj];cases j with
  | zero=>
   simp;refine gQ (ih _ (.inl (aR hj))) ?_;simp;apply gM<;>intro h1
   ·simp at h1;refine gQ (yD _) ?_;simp;refine⟨by decide,gM (λh2=>?_) (λh2=>?_)⟩
    ·refine hR _ _ _ ?_ (by simp);rw[<-g3,h1,h2];simp
    ·simp at h2;rw[h1,h2]at g3;exact fF (0+1) [] ⟨by omega,λi hi hij=>by omega,by simpa using g3⟩ (by omega) (by simp;exact wI)
   ·simp at h1;refine⟨by decide,hR _ _ _ ?_ (by simp)⟩;rw[<-g3,h1];simp
  | succ k=>
   have hk:k<d.names.length:=by omega
   have hw:IntKind.i64.wrap (k:Int)=k:=wI;simp[hw,aA hk,aA hj',show(0:Int)<(k:Int)+1 by omega];refine gQ (zDZ _ _) ?_;have hcmp:=zIv d.names[k+1] d.names[k];simp;rw[<-hcmp];apply gM<;>intro hle
   ·refine gQ (ih _ (.inl (aR hj))) ?_;simp;apply gM<;>intro h1
    ·simp at h1;refine gQ (yD _) ?_;simp;refine⟨by decide,gM (λh2=>?_) (λh2=>?_)⟩
     ·refine hR _ _ _ ?_ (by simp);rw[<-g3,h1,h2];simp
     ·simp at h2;rw[h1,h2]at g3;exact fF ((k+1)+1) [] ⟨by omega,λi hi hij=>by
       by_cases e:i=k
       ·subst e;exact hle
       ·exact g2 i hi (by omega),by simpa using g3⟩ (by omega) (by simp;exact wI)
    ·simp at h1;refine⟨by decide,hR _ _ _ ?_ (by simp)⟩;rw[<-g3,h1];simp
   ·refine⟨by decide,hR _ _ _ ?_ (by simp)⟩;rw[XO (by omega) hle];try rfl
 ·have hj:j=d.fields.length:=by simp at h;omega
  subst hj;refine hQ _ _ _ ?_ (by simp);rw[XP λi h=>g2 i h (by omega),<-g3,aO];try rfl
theorem zHd (d:gY) (ih:∀x,x∈d.fields\/x∈d.fn->gU Pg 63 [.agg x.enc] (.one (.bool (iY x)))):gU Pg 63 [.agg d.enc] (.one (.bool (iY d))):=by
 have e:=XT d;refine zAX (by simp) λo c hN hp=>?_;have hl:d.needs.length<=zah/\d.fields.length<=zah/\d.fn.length<=zah:=by
  have:=o.1;rw[gY.enc_eq]at this;simp only[DV.ok,D.okL,D.ok,SY,S9,Di,aU]at this;exact⟨this.2.1.1,this.2.2.2.1.1,this.2.2.2.2.1.1⟩
 have hl3:=hl.2.2;unfold zah at hl3;unfold ZC;by_cases k1:d.tags.length=6;rotate_left
 ·simp[show¬((d.tags.length:Int)=6) by omega,e,vZ,k1]
 by_cases k2:d.names.length=d.fields.length;rotate_left
 ·simp[k1,show¬((d.names.length:Int)=(d.fields.length:Int)) by omega,e,vZ,k2]
 have k2i:((d.names.length:Int)=(d.fields.length:Int))=True:=eq_true (by omega);have k1i:(d.tags.length:Int)=6:=by omega
 have ht4:d.tags[4]?=some (iE d 4):=by unfold iE;rw[getD,aA (by omega)];try rfl
 have ht5:d.tags[5]?=some (iE d 5):=by unfold iE;rw[getD,aA (by omega)];try rfl
 have fin:(d.fn.length=0\/d.fn.length=2)->¬(iE d 4≠0/\0<d.names.length\/iE d 5≠0/\0<d.fn.length)->iY d=(vY [] d.needs&&((wU d.names&&d.fields.all λc=>iY c&& !jW c idC)&&Ag d.fn)):=λh h'=>by
  rw[e];unfold vZ;rw[dJ ⟨k1,k2,h⟩,dJ h'];simp[Bool.and_assoc]
 have fon:¬(d.fn.length=0\/d.fn.length=2)\/(iE d 4≠0/\0<d.names.length\/iE d 5≠0/\0<d.fn.length)->iY d=false:=λh=>by
  rw[e];unfold vZ;rcases h with h|h
  ·rw[bX (λx=>h x.2.2)];try rfl
  ·rw[bX (p:=¬_) (λx=>x h)];simp
 have kn:d.names.length=0\/0<d.names.length:=by omega
 have kf:(d.fn=[]\/∃x y,d.fn=[x,y])\/¬(d.fn.length=0\/d.fn.length=2):=by
  match d.fn with
  |[]=>simp
  |[_]=>simp
  |[x,y]=>simp
  |_::_::_::_=>simp
 rcases kf with k3|k3;rotate_right
 ·have hf:=fon (.inl k3);have a2:((d.fn.length:Int).tmod 2=0)->(2<(d.fn.length:Int)):=by
   intro h;have h2:((d.fn.length:Int).tmod 2)=(d.fn.length:Int)%2:=Int.tmod_eq_emod_of_nonneg (by omega);omega
  simp[k1i,k2i];apply gM<;>intro h
  ·have h3:=a2 (by simpa using h);simp[h3,hf]
  ·simp[hf]
 rcases k3 with k3|⟨x0,y0,k3⟩
 ·have k3l :d.fn.length=0:=by rw[k3];try rfl
  by_cases k4:iE d 4=0;rotate_left
  ·rcases kn with kn|kn;rotate_left
   ·have hf:=fon (.inr (.inl ⟨k4,kn⟩));simp[k1i,k2i,k3,ht4,ht5,k4,kn,show(0:Int)<d.names.length by omega,hf]
   ·have kn':((0:Int)=d.fields.length)=True:=eq_true (by omega);by_cases k5:iE d 5=0
    all_goals
     first
       | (
         have hf:=fin (by omega) (by omega);simp[k1i,k2i,k3,ht4,ht5,k4,kn,kn',k5];refine Ja hp d hl.1 [0] (by simp) (λT b x H e1=>?_) (λT m x H e2=>?_)
         ·simp[e1];refine Jb hp d k2 hl.2.1 ih (by simp[e1]) (λT m x H' e1=>?_) (λT m x H' e2=>?_)
          ·simp[e1,k3];simp[hf,H,H',k3,Ag]
          ·simp[e2,hf,H,H']
         ·simp[e2,hf,H])
       | (
         have hf:=fon (.inr (.inr ⟨k5,by omega⟩))
         simp[k1i,k2i,k3,ht4,ht5,k4,kn,kn',k5,hf])
  ·by_cases k5:iE d 5=0
   all_goals
    first
      | (
        have hf:=fin (by omega) (by omega);simp[k1i,k2i,k3,ht4,ht5,k4,k5];refine Ja hp d hl.1 [0] (by simp) (λT b x H e1=>?_) (λT m x H e2=>?_)
        ·simp[e1];refine Jb hp d k2 hl.2.1 ih (by simp[e1]) (λT m x H' e1=>?_) (λT m x H' e2=>?_)
         ·simp[e1,k3];simp[hf,H,H',k3,Ag]
         ·simp[e2,hf,H,H']
        ·simp[e2,hf,H])
      | (
        have hf:=fon (.inr (.inr ⟨k5,by omega⟩))
        simp[k1i,k2i,k3,ht4,ht5,k4,k5,hf])
 ·have k3l : d.fn.length=2:=by rw[k3];try rfl
  by_cases k4:iE d 4=0;rotate_left
  ·rcases kn with kn|kn;rotate_left
   ·have hf:=fon (.inr (.inl ⟨k4,kn⟩));simp[k1i,k2i,k3,ht4,ht5,k4,kn,show(0:Int)<d.names.length by omega,hf]
   ·have kn' :((0:Int)=d.fields.length)=True:=eq_true (by omega);by_cases k5:iE d 5=0
    all_goals
     first
       | (
         have hf:=fin (by omega) (by omega);simp[k1i,k2i,k3,ht4,ht5,k4,kn,kn',k5];refine Ja hp d hl.1 [0] (by simp) (λT b x H e1=>?_) (λT m x H e2=>?_)
         ·simp[e1];refine Jb hp d k2 hl.2.1 ih (by simp[e1]) (λT m x H' e1=>?_) (λT m x H' e2=>?_)
          ·simp[e1,k3];rw[H,H',k3,Ag]at hf;refine gQ (ih x0 (.inr (by simp[k3]))) ?_;simp[e1,k3];apply gM<;>intro m1
           ·refine gQ (ih y0 (.inr (by simp[k3]))) ?_;simp[e1,k3];apply gM<;>intro m2
            ·refine gQ (yD x0) ?_;simp[e1,k3];apply gM<;>intro m3
             ·refine gQ (yD y0) ?_;simp;rw[hf,m1,m2,m3];simp
             ·simp at m3;rw[hf,m1,m2,m3];simp
            ·simp at m2;rw[hf,m1,m2];simp
           ·simp at m1;rw[hf,m1];simp
          ·simp[e2,hf,H,H']
         ·simp[e2,hf,H])
       | (
         have hf:=fon (.inr (.inr ⟨k5,by omega⟩))
         simp[k1i,k2i,k3,ht4,ht5,k4,kn,kn',k5,hf])
  ·by_cases k5:iE d 5=0
   all_goals
    first
      | (
        have hf:=fin (by omega) (by omega);simp[k1i,k2i,k3,ht4,ht5,k4,k5];refine Ja hp d hl.1 [0] (by simp) (λT b x H e1=>?_) (λT m x H e2=>?_)
        ·simp[e1];refine Jb hp d k2 hl.2.1 ih (by simp[e1]) (λT m x H' e1=>?_) (λT m x H' e2=>?_)
         ·simp[e1,k3];rw[H,H',k3,Ag]at hf;refine gQ (ih x0 (.inr (by simp[k3]))) ?_;simp[e1,k3];apply gM<;>intro m1
          ·refine gQ (ih y0 (.inr (by simp[k3]))) ?_;simp[e1,k3];apply gM<;>intro m2
           ·refine gQ (yD x0) ?_;simp[e1,k3];apply gM<;>intro m3
            ·refine gQ (yD y0) ?_;simp;rw[hf,m1,m2,m3];simp
            ·simp at m3;rw[hf,m1,m2,m3];simp
           ·simp at m2;rw[hf,m1,m2];simp
          ·simp at m1;rw[hf,m1];simp
         ·simp[e2,hf,H,H']
        ·simp[e2,hf,H])
      | (
        have hf:=fon (.inr (.inr ⟨k5,by omega⟩))
        simp[k1i,k2i,k3,ht4,ht5,k4,k5,hf])
mutual
theorem PK:∀(a:gY),gU Pg 63 [.agg a.enc] (.one (.bool (iY a)))
|.mk t n s f g=>zHd _ λx hx=>hx.elim (λh=>PL f x h) (λh=>PL g x h)
theorem PL:∀(l:List gY) (x:gY),x∈l->gU Pg 63 [.agg x.enc] (.one (.bool (iY x)))
|c::l,x,h=>by
 cases aN.1 h with
 |inl e=>rw[e];exact PK c
 |inr e=>exact PL l x e
end
theorem yj{ts:List (Nat × Nat)}(h:ts.length=([]:List Blk).length):ts=[]:=by simpa using h
theorem mD{ts:List (Nat × Nat)}{b:Blk}(h:ts.length=[b].length):∃t,ts=[t]:=by
 match ts,h with
 |[t],_=>exact⟨t,rfl⟩
theorem F4{ts:List (Nat × Nat)}{b c:Blk}(h:ts.length=[b,c].length):∃t u,ts=[t,u]:=by
 match ts,h with
 |[t,u],_=>exact⟨t,u,rfl⟩
theorem GX:MCall Pg 66 [] [] (.ag [.msl 1 0 0 6,.d (.sl true 2 []),.d (.sl true 1 []),.d (.sl true 5 []),.d (.sl true 5 [])]) [.arr 1 ((encI qd).map (·.map .d))]:=by
 refine zAW ⟨by simp,by simp,by simp,by simp,by simp,by simp[encI,qd,live],by simp[encI,qd]⟩ λts hts ok hb c hN hp=>?_;obtain rfl:=yj hts;unfold J5;simp;exact fM [1] [] (by simp[encI,qd])
theorem zFw(l:List (fE × Int))(hl:l.length<=1073741824):MCall Pg 103 [.c (.d (.sl false 2 (iI l)))] [] (.c (.msl 2 0 0 l.length)) [.arr 2 ((iI l).map (·.map .d))]:=by
 refine zra ⟨by simp,by simp,by simp,by simp,by simp,by simp[iI,live],by simp[iI]⟩ λts hts ok hb c hN hp=>?_;obtain rfl:=yj hts;unfold J8;cases l with
 | nil=>
  simp[iI];refine⟨fU [.t 2] ?_,fU [] ?_⟩
  ·simp;exact fK [0] []
  ·simp;exact fK [0] []
 |cons x l=>
  simp[iI];refine⟨by simp at hl;omega,?_⟩;refine fU [] ?_;simp;exact fK [0] []
theorem zFx(l:List (fE × Int))(g:FuncId)(caps:List D)(q:fE × Int->Bool)(H:∀x,x∈l->gU Pg g (.agg (zX x)::caps.map .one) (.one (.bool (q x)))):
  gU Pg 172 [.one (.sl false 2 (iI l)),.one (.fn (.func g) caps)] (.one (.int .i64 (ix q 0 l))):=by
 refine zqL (by simp) λo c' hN hp=>?_;have hl:l.length<=zah:=by
  have:=o.1;simp only[DV.ok,D.ok]at this;simpa using this.1
 unfold zah at hl;unfold Zu;simp;refine fP gy hp PE [8] (λj:Nat=>j<=l.length/\ix q j (l.drop j)=ix q 0 l) (λj=>[.c (.d (.int .i64 j))]) (λ_=>[]) (λj=>l.length-j) 0 [] ⟨by simp,by simp⟩ (by simp[PE]) λj ⟨h1,h2⟩=>?_;unfold Zt PE;simp;apply gM<;>intro h
 ·simp at h;have hj:j<l.length:=by omega
  simp[aA hj];rw[aD hj,ix]at h2;refine gQ (H _ (aR hj)) ?_;simp;refine gM (λh'=>?_) (λh'=>?_)
  ·rw[aC h']at h2;exact h2
  ·rw[Bool.not_true]at h';rw[aB (by rw[h'];simp)]at h2;refine fF (j+1) [] ⟨by omega,h2⟩ (by omega) ?_;simp;exact wI
 ·have hj:j=l.length:=by simp at h;omega
  rw[<-h2,hj];simp[ix]
theorem zBy(l:List (fE × Int))(g:FuncId)(caps:List D)(q:fE × Int->Bool)(H:∀x,x∈l->gU Pg g (.agg (zX x)::caps.map .one) (.one (.bool (q x)))):
  gU Pg 148 [.one (.sl false 2 (iI l)),.one (.fn (.func g) caps)] (.one (.bool (l.any q))):=by
 refine zqt (by simp) λo c' hN hp=>?_;unfold Zr;simp;refine gQ (zFx l g caps q H) ?_;simp[XX]
theorem zFy(m n:fE × Int):gU Pg 149 [.agg (zX m),.one (.rp (zX n) 0)] (.one (.bool (decide (m.1=n.1)))):=by
 refine zxm (by simp) λo c' hN hp=>?_;unfold ZJ;simp[zX]
theorem Zy(a b:List (fE × Int))(ha:a.length<=1073741824)(hb:b.length<=1073741824):gU Pg 104 [.one (.sl false 2 (iI a)),.one (.sl false 2 (iI b))] (.one (.sl false 2 (iI (oZ a b)))):=by
 refine zyW (by simp) λo c' hN hp=>?_;unfold ZI;simp;refine gN [] (zFw a ha) ?_;simp;have K:∀j,(b.take j).length<=1073741824:=λj=>by rw[bI];omega
 refine fP gy hp Oj [12,5] (λj:Nat=>j<=b.length) (λj=>[.c (.d (.int .i64 j)),.c (.msl 2 0 0 (oZ a (b.take j)).length)]) (λj=>[.arr 2 ((iI (oZ a (b.take j))).map (·.map .d))]) (λj=>b.length-j) 0 [0] (by simp) (by simp[Oj,oZ]) λj h1=>?_;unfold ZH Oj;simp;apply gM<;>intro h
 ·have hj:j<b.length:=by simpa using h
  simp[aA hj];have hc:gU Pg 148 [.one (.sl false 2 (iI a)),.one (.fn (.func 149) [.rp (zX b[j]) 0])] (.one (.bool (a.any λm=>decide (m.1=b[j].1)))):=zBy a 149 [.rp (zX b[j]) 0] (λm=>decide (m.1=b[j].1)) λm hm=>zFy m b[j];have hs:oZ a (b.take (j+1))=if(a.any λm=>decide (m.1=b[j].1))=true then oZ a (b.take j)else oZ a (b.take j)++[b[j]]:=by
   unfold oZ;rw[aJ hj,dH];by_cases hq:(a.any λm=>decide (m.1=b[j].1))=true<;>simp[hq]
  generalize (a.any λm=>decide (m.1=b[j].1))=t at hc hs;refine gP [1] (MCall.frzB (bs:=[.box ((zX b[j]).map .d)]) (args:=[.c (.d (.sl false 2 (iI a))),.c (.fn (.func 149) [.ptr 0 0])]) hc (by simp) (by simp) (by simp)) (by simp[zX]) ?_;simp[zX];have hlen:(oZ a (b.take j)).length<=2147483648:=by
   unfold oZ;have:=bS (λn:fE × Int=> !a.any λm=>decide (m.1=n.1)) (b.take j);have:=K j;simp only[aX];omega
  apply gM<;>intro h
  ·simp at h;refine⟨by omega,?_⟩;rw[h]at hs;simp at hs;refine fF (j+1) [2] (by omega) (by omega) ?_;simp[hs];exact⟨wI,by rw[aG (by simp)];simp[iI]⟩
  ·simp at h;rw[h]at hs;simp at hs;refine fF (j+1) [0] (by omega) (by omega) ?_;simp[hs];exact wI
 ·have hj:j=b.length:=by simp at h;omega
  subst hj;simp;rw[aG (by simp)]
theorem EL(c:gY)(h:c.fn.length=0\/c.fn.length=2):gU Pg 106 [.agg c.enc] (.tup [.agg (jO c).1.enc,.agg (jO c).2.enc]):=by
 refine zz6 (by simp) λo c' hN hp=>?_;unfold ZF;simp;apply gM<;>intro h1
 ·have h0:c.fn=[]:=by simpa using h1
  refine gQ J9 ?_;simp;refine gQ J9 ?_;simp[jO,h0]
 ·have h0:c.fn≠[]:=by simpa using h1
  have h2:c.fn.length=2:=h.resolve_left λe=>h0 (aT.1 e);obtain⟨x,y,hxy⟩:∃x y,c.fn=[x,y]:=by
   match c.fn,h2 with
   |[x,y],_=>exact⟨x,y,rfl⟩
  simp[hxy,jO];decide
theorem PM(a b s x:D)(h1:a.one=true)(f g:gY):MCall Pg 99 [.c (.ptr 0 0),.ag (f.enc.map .d),.ag (g.enc.map .d)] [.box [.d a,.d b,.d s,.d x,.d (.sl true 5 [])]] (.tup []) [.box [.d a,.d b,.d s,.d x,.d (.sl true 5 ((nC f g).map gY.enc))]]:=by
 refine ZG mX λts hts ok hb c hN hp=>?_;obtain⟨t,rfl⟩:=mD hts;unfold Oi;simp;refine gQ (yD f) ?_;simp;apply gM<;>intro h2
 ·simp at h2;refine gQ (yD g) ?_;simp;apply gM<;>intro h3
  ·simp at h3;exact fM [0] [1] (by simp[nC,h2,h3])
  ·simp at h3;exact fM [0] [1] (by simp[nC,h2,h3])
 ·simp at h2;exact fM [0] [1] (by simp[nC,h2])
end Go.Gr.P
