/- Facts about the program's code and types. No condition. -/
import Derived.Test.YtgpmgondjppmmaaGreatDoorA5
import Derived.Test.YtgpmgondjppmmaaGreatDoorProg
set_option linter.unusedSectionVars false
set_option linter.unusedSimpArgs false
set_option linter.unusedVariables false
set_option maxRecDepth 1000000
namespace Go.Proofs.Tryz
open Go Go.Pi
def annTab:List (Nat × Ann) := [(2,⟨[],[],[],false,[]⟩),
(3,⟨[0,1,2],[],[(6,[0,1,3,0,8,31,31,127,255,511]),(13,[0,1,0,0,8,24,60,0,255,511]),(15,[0,1,0,0,8,24,60,0,0,256,768,1920,3968]),(17,[0,1,0,0,8,24,60,0,255,511,1023]),(19,[0,1,0,0,8,24,60,127,255]),(20,[0,0,0,0,8,24,56,0,248,509,1021,2045,4095,8191,16383]),(21,[0,0,3,0,0,31,63,127])],false,[(15,3)]⟩),
(4,⟨[],[],[(10,[0,0,0,0,15,31,63,127,127,127,127,2047,4095,8191,16383,32767,32767,32767,262143,524287,1048575,2097151,4194303,4194303,4194303,33554431,67108863,134217727,268435455,536870911,536870911,536870911,536870911,4831838207,17179869183,34359738367,68719476735,137438953471,274877906943,274877906943,274877906943,274877906943,2473901162495,8796093022207,17592186044415,35184372088831,70368744177663])],false,[]⟩),
(5,⟨[0],[],[],false,[]⟩),
(6,⟨[0,1],[],[],false,[]⟩),
(7,⟨[0],[],[],false,[]⟩),
(8,⟨[0],[(15,[41,40,5,39,1]),(26,[68,9,67,66,1])],[],false,[]⟩),
(9,⟨[0],[],[],false,[]⟩),
(10,⟨[0,1],[(3,[15,5,14,13,2,3])],[(5,[0,1,0,4,12,0,32,96,252,508,1023,2047,4095])],false,[]⟩),
(11,⟨[0],[],[],false,[]⟩),
(12,⟨[0],[],[],false,[]⟩),
(13,⟨[0,1,2],[],[(5,[0,0,3,0,0,24,63,127])],false,[]⟩),
(14,⟨[1,0],[],[(3,[0,0,2,6,0,16,62,0,128,511,1023])],false,[]⟩),
(15,⟨[0,1],[],[],false,[]⟩),
(16,⟨[0,1],[],[(8,[0,1,0,0,8,28,63])],false,[]⟩),
(17,⟨[0,1,2,3],[],[],false,[]⟩),
(18,⟨[0],[(3,[8,3,0,2]),(9,[35,5,34,33,2])],[(11,[0,1,0,4,12,28,0,0,128,384,960,2044,4092,8191,16383,32767])],false,[]⟩),
(19,⟨[0,1,2,3],[],[],false,[]⟩),
(20,⟨[3,0,1,2],[],[],false,[]⟩),
(21,⟨[0,1],[],[],false,[]⟩),
(22,⟨[0],[],[],false,[]⟩),
(23,⟨[0,1],[(2,[8,7,1,0])],[],false,[]⟩),
(24,⟨[0],[(4,[12,11,10,0])],[(12,[0,0,3,0,8,31,63,127,127,255,1023])],false,[]⟩),
(25,⟨[0,1],[],[],false,[]⟩),
(26,⟨[0],[],[],false,[]⟩),
(27,⟨[0],[(6,[15,14,13])],[],false,[]⟩),
(28,⟨[0,2,1],[(12,[37,8,36])],[(20,[0,1,3,7,15,31,63,15,143,399,1023,2047,4095])],false,[]⟩),
(29,⟨[0],[(6,[34,5,33,32,1]),(11,[1,5,54,53,52]),(15,[67,66,10,65,1,9,5,54,53,52]),(21,[1,10,85,84,13,83,9,5,54,53,52]),(25,[14,92,1,10,91,16,90,13,85,84,9,5,54,53,52,83])],[(8,[0,0,2,6,14,0,32,96,224,510,1023,2047,4095]),(17,[0,0,2,0,8,24,56,120,120,255,767]),(27,[0,0,3,7,0,16,0,112,240,496,0,1024,4080,8176,16383,0,65535]),(28,[0,0,3,7,0,16,0,112,240,496,0,1024,4080,8176,16383,0,65535]),(29,[0,0,0,6,0,0,62,126,254,511,1023]),(34,[0,0,0,4,12,28,0,64,252,0,512,1536,3584,0,8192,32764,65533,131069,262141,524287,1048575,2097151])],false,[]⟩),
(30,⟨[1,2,0,3,4],[(6,[48,0,47,4])],[(0,[0,1,3,7,7,31,7,71,255,511]),(4,[0,1,0,0,15,0,63,127,255,511,1023]),(8,[0,0,0,4,0,16,62,0,128,510])],false,[(8,1)]⟩),
(31,⟨[0,1],[(3,[13,1,12,5,11,0])],[(6,[0,1,3,7,15,0,63,127,0,0,768,1792,4095,8191,16383,32767])],false,[]⟩),
(32,⟨[0,1],[(2,[15,14,0,1])],[],false,[]⟩),
(33,⟨[0,1,2,3,4],[(3,[26,0,25,4])],[(7,[0,1,3,7,7,31,7,71,255,511,1023]),(5,[0,0,0,4,0,16,62,0,128,510])],false,[(5,1)]⟩),
(34,⟨[0],[(3,[8,7,3,6])],[],false,[]⟩),
(35,⟨[0],[],[],false,[]⟩),
(36,⟨[0],[],[(3,[0,1,3,7,0,16,55,127,255])],false,[]⟩),
(37,⟨[0,1],[(4,[21,20,5,19,4])],[(6,[0,1,0,4,0,16,48,112,240,240,511,1535])],false,[]⟩),
(38,⟨[0,1],[(4,[19,18,2,17,3]),(10,[42,3,2,41])],[(15,[0,1,0,0,8,28,63,127])],false,[]⟩),
(39,⟨[0,1,2,3],[(5,[20,19,10,18,2,3,4,5]),(15,[62,61,2,4,5,3])],[(10,[0,1,0,0,0,16,48,0,252,511,1023]),(17,[0,0,0,0,8,0,32,120,255,511,1023,1023,2047,8191])],false,[]⟩),
(40,⟨[0],[],[],false,[]⟩),
(41,⟨[0],[],[],false,[]⟩),
(42,⟨[1,0],[],[],false,[]⟩),
(43,⟨[1,0,4,5,2,3],[(10,[41,0,40,5])],[(4,[0,1,0,4,15]),(12,[0,0,0,4,0,16,62,0,128,510])],false,[(12,2)]⟩),
(44,⟨[0,1],[(4,[13,12,0,1])],[(6,[0,0,3,7,0,0,48,112,255])],false,[]⟩),
(45,⟨[1,2,0,3],[],[(5,[0,1,3,7,15,31,63,127,255,511,1023,511,511,6655,16383,32767,65535,131071,262143,131071,655359,2097151,4194303,8388607])],false,[]⟩),
(46,⟨[0,1],[],[(6,[0,1,0,4,15,31,0,0,128,448,960,2047,4095,8191])],false,[]⟩),
(47,⟨[0,1,2,3],[],[(7,[0,0,3,0,0,31,63,127])],false,[]⟩),
(48,⟨[0,1,2,3],[],[],false,[]⟩),
(49,⟨[0],[(3,[7,3,6,2])],[],false,[]⟩),
(50,⟨[0],[(3,[7,3,6,2])],[],false,[]⟩),
(51,⟨[0],[],[],false,[]⟩),
(52,⟨[0,1],[],[(3,[0,0,0,4,12,28,60,124,252,124,636,2044,4092,125,8319,32767])],false,[]⟩),
(53,⟨[0],[],[],false,[]⟩),
(54,⟨[0,1,2,3,4],[],[],false,[]⟩),
(55,⟨[0,1,2],[(5,[29,2,28,9,27,1]),(16,[91,90,17,89,9])],[(12,[0,0,0,0,12,30,62,127,255]),(21,[0,0,2,6,14,0,32,96,224,510,1022,2047,4095])],false,[]⟩),
(56,⟨[2,1,0],[(6,[23,8,22,7,21,1,0]),(15,[50,7,49,48,8])],[(12,[0,0,0,6,14,0,62,127,255]),(19,[0,1,0,0,8,24,60,124,255,511]),(21,[0,0,2,0,0,16,48,120,248,510,1023,2047])],false,[]⟩),
(57,⟨[0],[],[],false,[]⟩),
(58,⟨[2,0,1],[(4,[16,1,2,15,14])],[(9,[0,0,2,6,0,0,32,96,240,496,0,1024,0,0,12288,28672,65520,131071,262143]),(11,[0,0,2,6,0,0,32,96,240,496,0,1024,0,0,12288,28672,61440,131056,262143,524287])],false,[]⟩),
(59,⟨[0,1],[(2,[8,7,1,0])],[],false,[]⟩),
(60,⟨[0],[],[],false,[]⟩),
(61,⟨[0],[],[],false,[]⟩),
(62,⟨[1,0],[],[],false,[]⟩),
(63,⟨[0,1],[(2,[8,7,1,0])],[],false,[]⟩),
(64,⟨[0],[],[],false,[]⟩),
(65,⟨[0,1],[],[],false,[]⟩),
(66,⟨[0],[],[],false,[]⟩),
(67,⟨[0,1],[],[(3,[0,1,0,4,15,0,32,0,159,511,1023,2047])],false,[]⟩),
(68,⟨[0,1],[(5,[6,0,5,1,4])],[(7,[0,0,0,6,14,0,63,127])],false,[]⟩),
(69,⟨[0,1],[],[],false,[]⟩),
(70,⟨[0,1],[],[(3,[0,1,0,4,15,0,63,0,255,511,1023,2047])],false,[]⟩),
(71,⟨[0,1],[],[],false,[]⟩),
(72,⟨[0,1],[],[],false,[]⟩),
(73,⟨[0,1,2],[],[(1,[0,0,0,7,0,16,48,112,240,0,1008,2032,0,0,12303,32767])],false,[]⟩),
(74,⟨[0],[],[],false,[]⟩),
(75,⟨[0],[],[(1,[0,1,3,7,15,31,63,31,255,511,1023,2047])],false,[]⟩),
(76,⟨[0],[(5,[4,3,1])],[],false,[]⟩),
(77,⟨[0],[],[],false,[]⟩),
(78,⟨[0,1,3,2],[],[],false,[]⟩),
(79,⟨[0,1],[(3,[12,5,1,11,10])],[],false,[]⟩),
(80,⟨[0,1,2,3],[],[(2,[0,1,3,7,15,31,63,127,255,511,1023,511,511,6655,16383,32767,65535,131071,262143,131071,655359,2097151,4194303,8388607])],false,[]⟩),
(81,⟨[1,0],[(4,[18,17,16,0])],[],false,[]⟩),
(82,⟨[0,1],[(2,[10,9,8,2,1])],[(4,[0,1,0,4,0,28,60,124,255])],false,[]⟩),
(83,⟨[0,1],[(3,[24,5,23,22,2,4]),(10,[5,9,8,42,41,4]),(13,[11,5,9,10,8,42,41,4]),(16,[12,5,11,9,10,8,42,41,4]),(28,[5,86,8,9,85,4]),(31,[17,5,16,8,9,86,85,4]),(35,[98,97,18,17,16,96,8,86,85,5,4,9])],[(5,[0,1,0,4,0,28,60,127,255,511]),(41,[0,1,0,4,0,28,60,0,128,0,896,1920,4092,8188,16383,32767,65535])],false,[]⟩),
(84,⟨[0,1],[(2,[12,4,5,11,10,3])],[(6,[0,0,1,7]),(7,[0,0,3,0,0,31,63,127]),(9,[0,0,1,7])],false,[]⟩),
(85,⟨[0,1],[(3,[12,11,4,5,10,3])],[(5,[0,1,0,7,0,16,63,127])],false,[]⟩),
(86,⟨[0],[],[],false,[]⟩),
(87,⟨[0],[],[],false,[]⟩),
(88,⟨[0,1,2,3],[(4,[9,27,26,3,8,25,4,5,6,10])],[(8,[0,0,3,0,0,31,0,0,255,0,0,0,4095,8191,16383]),(12,[0,0,3,0,0,31,0,0,255,511]),(16,[0,0,1,5,15,31,63]),(17,[0,1,0,7,0,16,0,127,63,511,1023,2047])],false,[]⟩),
(89,⟨[0,1],[],[(1,[0,0,3,0,15,31])],false,[]⟩),
(90,⟨[0,1],[],[(3,[0,1,0,4,15,0,32,0,159,511,1023,0,4095,0,16383,32767,65535,131071])],false,[]⟩),
(91,⟨[0,1],[],[(1,[0,1,0,4,12,28,63,0,128,0,512,1536,3584,8191,16383,32767])],false,[]⟩),
(92,⟨[0,1],[],[(1,[0,0,2,7,15])],false,[]⟩),
(93,⟨[0,1,2],[],[(1,[0,1,0,4,0,28,63,0,128,0,512,0,3711,8191,16383,32767])],false,[]⟩),
(94,⟨[0],[],[(1,[0,1,3,0,8,31,63])],false,[]⟩),
(95,⟨[0,1],[],[],false,[]⟩),
(96,⟨[0],[],[],false,[]⟩),
(97,⟨[0,1],[],[],false,[]⟩),
(98,⟨[0],[],[],false,[]⟩),
(99,⟨[0,1],[],[],false,[]⟩),
(100,⟨[0,1],[],[],false,[]⟩),
(101,⟨[0,1],[],[],false,[]⟩),
(102,⟨[0,1],[],[(15,[0,1,3,7,7,31,63,127,255,511,511,2047,4095,8191,16383,32767])],false,[]⟩),
(103,⟨[0,1],[],[],false,[]⟩),
(104,⟨[0,1],[(3,[5,22,3,21,20,2,4]),(7,[30,8,5,6,29,28,7,3,22,21,2,4,20])],[],false,[]⟩),
(105,⟨[0],[],[],false,[]⟩),
(106,⟨[0,1],[],[(2,[0,1,0,7,15,31]),(4,[0,0,3,7])],false,[]⟩),
(107,⟨[0,2,1],[(3,[36,7,1,35,34,6]),(9,[57,10,56,55,7,36,35,6,34,1])],[(1,[0,1,3,7,0,31,63,0,128,384,896,0,3968,8064,16383,0,65535]),(11,[0,1,0,4,15,0,32,0,128,511,1023,2047]),(13,[0,1,0,4,15,0,32,0,128,511,1023,2047])],false,[]⟩),
(108,⟨[1,0],[],[],false,[]⟩),
(109,⟨[0],[],[],false,[]⟩),
(110,⟨[],[],[],false,[]⟩),
(111,⟨[0,1],[(4,[8,7,1,6,0])],[],false,[]⟩),
(112,⟨[0],[],[],false,[]⟩),
(113,⟨[1,0],[(38,[9,7,8])],[],false,[]⟩),
(114,⟨[0],[(1,[2,3,0])],[(3,[0,0,0,0,0,0,48,112,0,0,768,1792,4083,8179,16383,32767])],false,[]⟩),
(115,⟨[0,1],[(12,[41,5,40,39,0,1]),(22,[65,8,64,63,1])],[],false,[]⟩),
(116,⟨[0,1,2],[(3,[3,1,33,6,7,2,32]),(9,[53,52,9,3,1,8,6,7,33,32,2]),(15,[74,11,12,73,3,1,72,8,6,7,33,32,2])],[(1,[0,1,0,7,15,31,0,64,0,448,960,1984,63,8191]),(13,[0,0,0,0,8,24,63,127,255,255,0,0,3583,8191]),(18,[0,0,3,0,0,31,63,127]),(20,[0,0,3,0,0,31,63,127]),(22,[0,0,1,7])],false,[]⟩),
(117,⟨[0,1],[],[],false,[]⟩),
(118,⟨[0,1],[(7,[146,9,3,13,10,11,4])],[(1,[0,1,3,0,8,24,0,64,192,0,512,1536,7,4159,12799,32767]),(9,[0,0,2,6,14,0,32,126,0,256,768,1792,0,4096,16128,32766,0,65536,196608,458752,0,1048576,4128768,8388606,16777214,0,67108862,0,134217728,402653184,1073741822,2147483647,4294967295])],false,[]⟩),
(119,⟨[0,1],[],[],false,[]⟩),
(120,⟨[0,1,2,3],[],[],false,[]⟩),
(121,⟨[0,2,1,3],[(8,[58,57,11,12,15,56,13,14,8])],[(1,[0,1,0,7,15,0,32,0,224,480,1023,0,2048,0,14336,30720,0,65536,0,458752,983040,2097151,4194303,0,16777215]),(4,[0,0,2,0,14,30,63,0,255]),(10,[0,0,3,0,15]),(18,[0,0,3,0,15,31,63])],false,[]⟩),
(122,⟨[0,1],[],[(1,[0,1,0,4,15,0,32,0,128,511,0,1024,0,4096,16383,32767,65535])],false,[]⟩),
(123,⟨[0,1],[],[(1,[0,1,0,4,15,0,32,0,128,511,0,1024,0,4096,16383,32767,65535,131071])],false,[]⟩),
(124,⟨[0,1],[(3,[15,14,6,13,1])],[],false,[]⟩),
(125,⟨[0,1],[(3,[20,19,5,18,2,3]),(8,[33,5,32,31,3]),(11,[40,39,5,38,9,33,32,31,3])],[],false,[]⟩),
(126,⟨[0,1],[],[],false,[]⟩),
(127,⟨[0,1],[(3,[9,2,3,5,4])],[(6,[0,0,2,6,0,16,48,126,0,256,768,0,2048,6144,16382,32766,65535,131071])],false,[]⟩),
(128,⟨[0,1],[],[(2,[0,1,0,4,0,16,60,127,255]),(4,[0,1,0,4,0,16,60,127,255]),(5,[0,1,0,4,0,16,60,127,255])],false,[]⟩),
(129,⟨[0,1],[],[(1,[0,1,0,4,15,0,32,0,128,511,0,1024,0,4096,16383,32767,65535])],false,[]⟩),
(130,⟨[0,1],[],[(1,[0,1,0,7,0,16,0,127,0,256,0,2047,4095,8191])],false,[]⟩),
(131,⟨[0],[],[],false,[]⟩),
(132,⟨[0,1],[(2,[8,7,1,0])],[],false,[]⟩),
(133,⟨[0,1],[],[],false,[]⟩),
(134,⟨[0,1,2],[(3,[16,15,14,1])],[],false,[]⟩),
(135,⟨[0],[],[],false,[]⟩),
(136,⟨[0,1],[(9,[33,32,31,1,2])],[(13,[0,1,3,7,15,7,39,127,255,511,7,1031,4095,8191])],false,[]⟩),
(137,⟨[0],[],[],false,[]⟩),
(138,⟨[0,1],[],[],false,[]⟩),
(139,⟨[0],[],[],false,[]⟩),
(140,⟨[0,1],[],[],false,[]⟩),
(141,⟨[0,1],[],[(4,[0,0,2,7,0,16,63,127])],false,[]⟩),
(142,⟨[0],[(9,[4,6,5,2]),(13,[48,47,8,4,7,6,5,2])],[],false,[]⟩),
(143,⟨[0,1],[(2,[6,5,4])],[(1,[0,1,0,4,3,31])],false,[]⟩),
(144,⟨[0,1],[(6,[5,0,1])],[(8,[0,0,3,7,0,0,48,112,255]),(9,[0,0,3,7,0,0,48,112,255])],false,[]⟩),
(145,⟨[0,1],[],[(4,[0,1,0,4,15,0,63,0,128,0,1023,2047,4095]),(6,[0,0,3,0,0,31,63,127]),(7,[0,0,1,7,15])],false,[]⟩),
(146,⟨[0],[(1,[0])],[],false,[]⟩),
(147,⟨[0],[],[],false,[]⟩),
(148,⟨[0,1],[],[],false,[]⟩),
(149,⟨[0,1],[],[],false,[]⟩),
(150,⟨[0,1],[],[(3,[0,1,3,7,15,0,32,96,224,480,1023,0,4095])],false,[]⟩),
(151,⟨[0,1],[],[],false,[]⟩),
(152,⟨[0],[],[],false,[]⟩),
(153,⟨[0],[],[(1,[0,1,3,7,15,0,32,96,224,480,1023,2047])],false,[]⟩),
(154,⟨[0,2,3,1],[],[(1,[0,1,3,0,15,31,0,127,255,0,512,0,3584,7680,15872,0,65024,130560,0,0,786943,2097151]),(2,[0,0,2,6,0,30,62,126,0,256,1022,2046,4095,0,16383]),(3,[0,0,2,6,0,30,62,126,0,256,1022,2046,4095,0,16383]),(4,[0,0,3,0,0,31,63,127])],false,[]⟩),
(155,⟨[0,1],[(2,[8,7,1,0])],[],false,[]⟩),
(156,⟨[0],[(3,[8,3,7,6,2])],[],false,[]⟩),
(157,⟨[0],[(3,[11,3,10,9,0]),(11,[27,26,6,25])],[],false,[]⟩),
(158,⟨[0,1],[],[(3,[0,1,0,4,15,0,63,0,128,511,1023,2047,4095])],false,[]⟩),
(159,⟨[0,1],[(6,[22,6,1,21,5,20,0])],[],false,[]⟩),
(160,⟨[0,1],[(4,[15,1,14,5,13,6])],[],false,[]⟩),
(161,⟨[0,1,2],[(2,[10,1,2])],[],false,[]⟩),
(162,⟨[0,1],[],[],false,[]⟩),
(163,⟨[0,1],[],[(3,[0,0,3,0,0,0,32,112,248,7,1023,2047])],false,[]⟩),
(164,⟨[0,1],[],[],false,[]⟩),
(165,⟨[0,1],[(1,[0,1])],[],false,[]⟩),
(166,⟨[0,1],[(1,[0,1])],[],false,[]⟩),
(167,⟨[0],[(2,[4,2,0])],[],false,[]⟩),
(168,⟨[0,1],[(1,[0,1])],[],false,[]⟩),
(169,⟨[0,1],[(1,[0,1])],[],false,[]⟩),
(170,⟨[0,1],[(1,[0,1])],[],false,[]⟩),
(171,⟨[0,1],[(1,[0,1])],[],false,[]⟩),
(172,⟨[0,1],[],[],false,[]⟩),
(173,⟨[0],[],[],false,[]⟩),
(174,⟨[0,1,2],[],[],false,[]⟩),
(175,⟨[0,2,1],[(4,[19,8,18,7,17,1,0])],[],false,[]⟩),
(176,⟨[0,1],[(10,[11,10,4,9,8])],[],false,[]⟩),
(177,⟨[0,1],[],[(1,[0,0,2,7,15])],false,[]⟩),
(178,⟨[1,0],[],[],false,[]⟩),
(179,⟨[0,1],[],[],false,[]⟩),
(180,⟨[0,1],[],[],false,[]⟩),
(181,⟨[0,1],[],[],false,[]⟩),
(182,⟨[0],[],[],false,[]⟩),
(183,⟨[0,1],[],[(0,[0,1,3,7,15,31,0,127,255,0,512,1536,3584,7680,16383,32767])],false,[]⟩),
(184,⟨[1,0],[],[],false,[]⟩),
(185,⟨[0,1],[(2,[8,7,1,0])],[],false,[]⟩),
(186,⟨[1,0],[(15,[8,0,9,5,1,10,6,7])],[],false,[]⟩),
(187,⟨[0,1],[],[],false,[]⟩),
(188,⟨[0],[],[],false,[]⟩),
(189,⟨[0,1],[],[],false,[]⟩),
(190,⟨[0],[(10,[5,6,0,4])],[],false,[]⟩),
(191,⟨[0,1],[],[],false,[]⟩),
(192,⟨[0,1,2],[(36,[13,101,11,1,100,99,8,10,12,9])],[],false,[]⟩),
(193,⟨[4,0,1,3,2],[],[],false,[]⟩),
(194,⟨[0],[],[],false,[]⟩),
(195,⟨[0,1],[(3,[14,5,1,13,12])],[(5,[0,0,3,7,0,0,48,127,255,511])],false,[]⟩),
(196,⟨[1,0],[(4,[8,7,5,1,0]),(9,[86,9,0,85,10,7,84,5,1]),(25,[139,9,0,138,137,5,7])],[(2,[0,0,3,7,15,31,0,0,128,448,960,1984,4095,8191]),(3,[0,0,0,4,14,30,62,127,0,0,0,1024,3584,7680,15872,32512,255,131071]),(4,[0,1,3,7,15,31,63,63,63,319,959,1983,4031,8191,63,16447,63,63,131135,458815,983103,2031679,4177983,8388607,16777215,33554431])],false,[]⟩),
(197,⟨[0,1],[(3,[11,5,1,0,10])],[(7,[0,0,3,7,0,0,32,112,240,496,1008,0,4080,8176,16383,32767,65535])],false,[]⟩),
(198,⟨[0],[],[],false,[]⟩),
(199,⟨[0],[],[],false,[]⟩),
(200,⟨[0,1],[(1,[4,0,1])],[(7,[0,0,2,0,0,16,0,64,192,0,512,455,2503,8191,16383]),(8,[0,0,2,0,0,16,0,64,192,0,512,455,2503,8191,16383]),(9,[0,0,2,0,0,16,0,64,192,0,512,455,2503,8191,16383]),(10,[0,0,2,0,0,16,0,64,192,0,512,455,2503,8191,16383]),(17,[0,0,2,0,0,16,0,64,192,0,512,455,2503,8191,16383]),(18,[0,0,2,0,0,16,0,64,192,0,512,455,2503,8191,16383]),(23,[0,0,2,0,0,16,0,64,192,0,512,455,2503,8191,16383])],false,[]⟩),
(201,⟨[2,3,1,4,0],[(11,[1,13,15,12,16,14,3,4,10,0,11]),(18,[1,17,13,12,3,4,10,0,11])],[],false,[]⟩),
(204,⟨[0,1],[],[],false,[]⟩),
(206,⟨[0],[],[],false,[]⟩),
(207,⟨[1,0],[(5,[9,7,8,0,5,1,6]),(11,[10,0,8,7,6,5,1])],[],false,[]⟩),
(208,⟨[0],[],[],false,[]⟩),
(209,⟨[1,0],[(38,[175]),(5,[9,0,7,8]),(12,[12,7,9,8,0]),(25,[9,0,7,8,14,15]),(29,[16,7,9,8,0,14,15])],[(6,[0,0,3,0,0,24,63]),(7,[0,0,2,7,0,0,48,127,255]),(14,[0,0,0,6,15,0,0,0,192,480,1023]),(31,[0,0,0,6,15,0,0,0,192,480,1023])],false,[]⟩),
(210,⟨[0],[],[],false,[]⟩),
(211,⟨[0],[],[],false,[]⟩),
(212,⟨[0],[(10,[4,0,3,5])],[],false,[]⟩),
(213,⟨[0,1],[],[(1,[0,0,2,0,15,31,63])],false,[]⟩),
(214,⟨[0,1],[],[(1,[0,0,2,0,15,31,63])],false,[]⟩),
(215,⟨[0,1,2],[],[],false,[]⟩),
(216,⟨[0,1,2],[],[],false,[]⟩),
(217,⟨[0],[],[],false,[]⟩),
(218,⟨[0],[],[],false,[]⟩),
(219,⟨[0],[],[],false,[]⟩),
(220,⟨[0],[],[],false,[]⟩),
(221,⟨[0],[],[],false,[]⟩),
(222,⟨[0],[],[],false,[]⟩),
(223,⟨[0],[],[],false,[]⟩),
(225,⟨[0],[(3,[5,0,4]),(8,[8,7,6,4])],[],false,[]⟩),
(226,⟨[0,1],[],[],false,[]⟩),
(227,⟨[0],[],[],false,[]⟩),
(228,⟨[0],[],[],false,[]⟩),
(229,⟨[0],[],[],false,[]⟩),
(230,⟨[0],[],[],false,[]⟩),
(231,⟨[0],[],[],false,[]⟩),
(263,⟨[],[],[],false,[]⟩)]
def noGcTab:List (Nat × Ann) := annTab.map fun p => (p.1,⟨p.2.keep,p.2.loops,p.2.draws,true,p.2.lasts⟩)
noncomputable def A0:FuncId → Option Ann := Go.Pi.look annTab
noncomputable def A1:FuncId → Option Ann := Go.Pi.look noGcTab
def badAnn (P:Program) (p:Nat × Ann):Bool :=
 match P.funcs[p.1]? with
 | some fn => match fn.body with
  | some c => !(okCode fn.ntmps p.2 c && !(fn.name == "runtime.NumGoroutine"))
  | none => true
 | none => true
theorem annOk_of [Hole] {P:Program} {l:List (Nat × Ann)} (h:l.all (fun p => !badAnn P p) = true):AnnOk P (Go.Pi.look l) := by
 intro f a hf
 have := List.all_eq_true.1 h _ (look_mem _ _ _ hf)
 unfold badAnn at this
 simp only at this
 split at this
 ·rename_i fn hfn
  split at this
  ·rename_i c hc
   simp only [Bool.not_not,Bool.and_eq_true,Bool.not_eq_true',beq_eq_false_iff_ne] at this
   exact ⟨fn,c,hfn,hc,this.2,this.1⟩
  ·simp at this
 ·simp at this
theorem ann_all:annTab.all (fun p => !badAnn prog p) = true := by decide +kernel
theorem annOk0 [Hole]:AnnOk prog A0 := annOk_of ann_all
theorem bad_noGc (P:Program) (l:List (Nat × Ann)):(l.map fun p => (p.1,(⟨p.2.keep,p.2.loops,p.2.draws,true,p.2.lasts⟩:Ann))).all (fun p => !badAnn P p) = l.all (fun p => !badAnn P p) := by
 have h:∀ p:Nat × Ann,badAnn P (p.1,(⟨p.2.keep,p.2.loops,p.2.draws,true,p.2.lasts⟩:Ann)) = badAnn P p := by
  intro p
  unfold badAnn
  simp only [okCode_congr (a := (⟨p.2.keep,p.2.loops,p.2.draws,true,p.2.lasts⟩:Ann)) (b := p.2) rfl rfl]
 induction l with
 | nil => rfl
 | cons p l ih => simp only [List.map_cons,List.all_cons,ih,h]
theorem annOk [Hole]:AnnOk prog A1 := annOk_of ((bad_noGc prog annTab).trans ann_all)
theorem mixed:prog.follows .mixedOrders = true := by kernel_rfl
theorem und3:prog.underlying 3 = some (.int .i64) := by kernel_rfl
theorem size3:sizeT prog 3 = some 1 := by kernel_rfl
theorem agg3:isAggT prog 3 = false := by kernel_rfl
theorem bytes3:bytesT prog 3 = some 8 := by kernel_rfl
theorem zero3:zeroT prog 3 = some (.int .i64 0) := by kernel_rfl
theorem und4:prog.underlying 4 = some .bool := by kernel_rfl
theorem size4:sizeT prog 4 = some 1 := by kernel_rfl
theorem agg4:isAggT prog 4 = false := by kernel_rfl
theorem zero4:zeroT prog 4 = some (.bool false) := by kernel_rfl
theorem und5:prog.underlying 5 = some (.int .u8) := by kernel_rfl
theorem size5:sizeT prog 5 = some 1 := by kernel_rfl
theorem agg5:isAggT prog 5 = false := by kernel_rfl
theorem und9:prog.underlying 9 = some .string := by kernel_rfl
theorem size9:sizeT prog 9 = some 1 := by kernel_rfl
theorem agg9:isAggT prog 9 = false := by kernel_rfl
theorem bytes9:bytesT prog 9 = some 16 := by kernel_rfl
theorem zero9:zeroT prog 9 = some (.str ⟨#[]⟩) := by kernel_rfl
theorem und22:prog.underlying 22 = some (.slice 91) := by kernel_rfl
theorem size22:sizeT prog 22 = some 1 := by kernel_rfl
theorem agg22:isAggT prog 22 = false := by kernel_rfl
theorem und23:prog.underlying 23 = some (.slice 33) := by kernel_rfl
theorem size23:sizeT prog 23 = some 1 := by kernel_rfl
theorem agg23:isAggT prog 23 = false := by kernel_rfl
theorem und24:prog.underlying 24 = some (.slice 102) := by kernel_rfl
theorem size24:sizeT prog 24 = some 1 := by kernel_rfl
theorem agg24:isAggT prog 24 = false := by kernel_rfl
theorem size26:sizeT prog 26 = some 3 := by kernel_rfl
theorem agg26:isAggT prog 26 = true := by kernel_rfl
theorem und27:prog.underlying 27 = some .string := by kernel_rfl
theorem size27:sizeT prog 27 = some 1 := by kernel_rfl
theorem agg27:isAggT prog 27 = false := by kernel_rfl
theorem bytes27:bytesT prog 27 = some 16 := by kernel_rfl
theorem zero27:zeroT prog 27 = some (.str ⟨#[]⟩) := by kernel_rfl
theorem size29:sizeT prog 29 = some 3 := by kernel_rfl
theorem agg29:isAggT prog 29 = true := by kernel_rfl
theorem und33:prog.underlying 33 = some (.slice 185) := by kernel_rfl
theorem size33:sizeT prog 33 = some 1 := by kernel_rfl
theorem agg33:isAggT prog 33 = false := by kernel_rfl
theorem und37:prog.underlying 37 = some (.slice 3) := by kernel_rfl
theorem size37:sizeT prog 37 = some 1 := by kernel_rfl
theorem agg37:isAggT prog 37 = false := by kernel_rfl
theorem und38:prog.underlying 38 = some (.slice 49) := by kernel_rfl
theorem size38:sizeT prog 38 = some 1 := by kernel_rfl
theorem agg38:isAggT prog 38 = false := by kernel_rfl
theorem zero38:zeroT prog 38 = some (.nil) := by kernel_rfl
theorem size40:sizeT prog 40 = some 4 := by kernel_rfl
theorem agg40:isAggT prog 40 = true := by kernel_rfl
theorem zero40:zeroT prog 40 = some (.agg [.bool false,.nil,.int .i64 0,.nil]) := by kernel_rfl
theorem size46:sizeT prog 46 = some 1 := by kernel_rfl
theorem agg46:isAggT prog 46 = false := by kernel_rfl
theorem und47:prog.underlying 47 = some (.slice 27) := by kernel_rfl
theorem size47:sizeT prog 47 = some 1 := by kernel_rfl
theorem agg47:isAggT prog 47 = false := by kernel_rfl
theorem size49:sizeT prog 49 = some 4 := by kernel_rfl
theorem agg49:isAggT prog 49 = true := by kernel_rfl
theorem bytes49:bytesT prog 49 = some 64 := by kernel_rfl
theorem zero49:zeroT prog 49 = some (.agg [.nil,.int .i64 0,.int .i64 0,.nil]) := by kernel_rfl
theorem size91:sizeT prog 91 = some 4 := by kernel_rfl
theorem agg91:isAggT prog 91 = true := by kernel_rfl
theorem zero91:zeroT prog 91 = some (.agg [.str ⟨#[]⟩,.int .i64 0,.int .i64 0,.int .i64 0]) := by kernel_rfl
theorem und95:prog.underlying 95 = some (.slice 197) := by kernel_rfl
theorem size95:sizeT prog 95 = some 1 := by kernel_rfl
theorem agg95:isAggT prog 95 = false := by kernel_rfl
theorem size97:sizeT prog 97 = some 2 := by kernel_rfl
theorem agg97:isAggT prog 97 = true := by kernel_rfl
theorem und98:prog.underlying 98 = some (.slice 100) := by kernel_rfl
theorem size98:sizeT prog 98 = some 1 := by kernel_rfl
theorem agg98:isAggT prog 98 = false := by kernel_rfl
theorem size100:sizeT prog 100 = some 5 := by kernel_rfl
theorem agg100:isAggT prog 100 = true := by kernel_rfl
theorem size102:sizeT prog 102 = some 8 := by kernel_rfl
theorem agg102:isAggT prog 102 = true := by kernel_rfl
theorem zero102:zeroT prog 102 = some (.agg [.str ⟨#[]⟩,.int .i64 0,.str ⟨#[]⟩,.nil,.str ⟨#[]⟩,.nil,.str ⟨#[]⟩,.str ⟨#[]⟩]) := by kernel_rfl
theorem size104:sizeT prog 104 = some 1 := by kernel_rfl
theorem agg104:isAggT prog 104 = false := by kernel_rfl
theorem zero104:zeroT prog 104 = some (.nilPtr) := by kernel_rfl
theorem size112:sizeT prog 112 = some 1 := by kernel_rfl
theorem agg112:isAggT prog 112 = false := by kernel_rfl
theorem size114:sizeT prog 114 = some 2 := by kernel_rfl
theorem agg114:isAggT prog 114 = true := by kernel_rfl
theorem zero114:zeroT prog 114 = some (.agg [.bool false,.nil]) := by kernel_rfl
theorem size116:sizeT prog 116 = some 4 := by kernel_rfl
theorem agg116:isAggT prog 116 = true := by kernel_rfl
theorem bytes116:bytesT prog 116 = some 64 := by kernel_rfl
theorem zero116:zeroT prog 116 = some (.agg [.bool false,.nil,.bool false,.nil]) := by kernel_rfl
theorem size119:sizeT prog 119 = some 1 := by kernel_rfl
theorem agg119:isAggT prog 119 = false := by kernel_rfl
theorem size121:sizeT prog 121 = some 4 := by kernel_rfl
theorem agg121:isAggT prog 121 = true := by kernel_rfl
theorem zero121:zeroT prog 121 = some (.agg [.nil,.nil,.nil,.nil]) := by kernel_rfl
theorem size122:sizeT prog 122 = some 1 := by kernel_rfl
theorem agg122:isAggT prog 122 = false := by kernel_rfl
theorem size124:sizeT prog 124 = some 5 := by kernel_rfl
theorem agg124:isAggT prog 124 = true := by kernel_rfl
theorem bytes124:bytesT prog 124 = some 88 := by kernel_rfl
theorem zero124:zeroT prog 124 = some (.agg [.bool false,.nil,.bool false,.nil,.nil]) := by kernel_rfl
theorem size135:sizeT prog 135 = some 2 := by kernel_rfl
theorem agg135:isAggT prog 135 = true := by kernel_rfl
theorem bytes135:bytesT prog 135 = some 16 := by kernel_rfl
theorem zero135:zeroT prog 135 = some (.agg [.int .i64 0,.int .i64 0]) := by kernel_rfl
theorem size185:sizeT prog 185 = some 3 := by kernel_rfl
theorem agg185:isAggT prog 185 = true := by kernel_rfl
theorem zero185:zeroT prog 185 = some (.agg [.int .i64 0,.int .i64 0,.int .i64 0]) := by kernel_rfl
theorem zero187:zeroT prog 187 = some (.agg [.str ⟨#[]⟩,.str ⟨#[]⟩]) := by kernel_rfl
theorem size191:sizeT prog 191 = some 1 := by kernel_rfl
theorem agg191:isAggT prog 191 = false := by kernel_rfl
theorem zero193:zeroT prog 193 = some (.agg [.nil,.nil,.nil,.nil,.nil,.nil]) := by kernel_rfl
theorem size197:sizeT prog 197 = some 2 := by kernel_rfl
theorem agg197:isAggT prog 197 = true := by kernel_rfl
theorem zero197:zeroT prog 197 = some (.agg [.int .i64 0,.str ⟨#[]⟩]) := by kernel_rfl
theorem size198:sizeT prog 198 = some 1 := by kernel_rfl
theorem agg198:isAggT prog 198 = false := by kernel_rfl
theorem bytes198:bytesT prog 198 = some 24 := by kernel_rfl
theorem zero198:zeroT prog 198 = some (.nil) := by kernel_rfl
theorem size199:sizeT prog 199 = some 1 := by kernel_rfl
theorem agg199:isAggT prog 199 = false := by kernel_rfl
theorem bytes199:bytesT prog 199 = some 24 := by kernel_rfl
theorem zero199:zeroT prog 199 = some (.nil) := by kernel_rfl
theorem size202:sizeT prog 202 = some 8 := by kernel_rfl
theorem agg202:isAggT prog 202 = true := by kernel_rfl
theorem bytes202:bytesT prog 202 = some 128 := by kernel_rfl
theorem zero202:zeroT prog 202 = some (.agg [.bool false,.nil,.bool false,.nil,.bool false,.nil,.bool false,.nil]) := by kernel_rfl
theorem size244:sizeT prog 244 = some 1 := by kernel_rfl
theorem agg244:isAggT prog 244 = false := by kernel_rfl
theorem bytes244:bytesT prog 244 = some 4 := by kernel_rfl
theorem zero244:zeroT prog 244 = some (.int .u32 0) := by kernel_rfl
theorem ann3:A1 3 = some ⟨[0,1,2],[],[(6,[0,1,3,0,8,31,31,127,255,511]),(13,[0,1,0,0,8,24,60,0,255,511]),(15,[0,1,0,0,8,24,60,0,0,256,768,1920,3968]),(17,[0,1,0,0,8,24,60,0,255,511,1023]),(19,[0,1,0,0,8,24,60,127,255]),(20,[0,0,0,0,8,24,56,0,248,509,1021,2045,4095,8191,16383]),(21,[0,0,3,0,0,31,63,127])],true,[(15,3)]⟩ := by kernel_rfl
theorem ann5:A1 5 = some ⟨[0],[],[],true,[]⟩ := by kernel_rfl
theorem ann6:A1 6 = some ⟨[0,1],[],[],true,[]⟩ := by kernel_rfl
theorem ann7:A1 7 = some ⟨[0],[],[],true,[]⟩ := by kernel_rfl
theorem ann8:A1 8 = some ⟨[0],[(15,[41,40,5,39,1]),(26,[68,9,67,66,1])],[],true,[]⟩ := by kernel_rfl
theorem ann9:A1 9 = some ⟨[0],[],[],true,[]⟩ := by kernel_rfl
theorem ann10:A1 10 = some ⟨[0,1],[(3,[15,5,14,13,2,3])],[(5,[0,1,0,4,12,0,32,96,252,508,1023,2047,4095])],true,[]⟩ := by kernel_rfl
theorem ann11:A1 11 = some ⟨[0],[],[],true,[]⟩ := by kernel_rfl
theorem ann12:A1 12 = some ⟨[0],[],[],true,[]⟩ := by kernel_rfl
theorem ann13:A1 13 = some ⟨[0,1,2],[],[(5,[0,0,3,0,0,24,63,127])],true,[]⟩ := by kernel_rfl
theorem ann14:A1 14 = some ⟨[1,0],[],[(3,[0,0,2,6,0,16,62,0,128,511,1023])],true,[]⟩ := by kernel_rfl
theorem ann15:A1 15 = some ⟨[0,1],[],[],true,[]⟩ := by kernel_rfl
theorem ann16:A1 16 = some ⟨[0,1],[],[(8,[0,1,0,0,8,28,63])],true,[]⟩ := by kernel_rfl
theorem ann21:A1 21 = some ⟨[0,1],[],[],true,[]⟩ := by kernel_rfl
theorem ann22:A1 22 = some ⟨[0],[],[],true,[]⟩ := by kernel_rfl
theorem ann23:A1 23 = some ⟨[0,1],[(2,[8,7,1,0])],[],true,[]⟩ := by kernel_rfl
theorem ann24:A1 24 = some ⟨[0],[(4,[12,11,10,0])],[(12,[0,0,3,0,8,31,63,127,127,255,1023])],true,[]⟩ := by kernel_rfl
theorem ann25:A1 25 = some ⟨[0,1],[],[],true,[]⟩ := by kernel_rfl
theorem ann26:A1 26 = some ⟨[0],[],[],true,[]⟩ := by kernel_rfl
theorem ann27:A1 27 = some ⟨[0],[(6,[15,14,13])],[],true,[]⟩ := by kernel_rfl
theorem ann28:A1 28 = some ⟨[0,2,1],[(12,[37,8,36])],[(20,[0,1,3,7,15,31,63,15,143,399,1023,2047,4095])],true,[]⟩ := by kernel_rfl
theorem ann29:A1 29 = some ⟨[0],[(6,[34,5,33,32,1]),(11,[1,5,54,53,52]),(15,[67,66,10,65,1,9,5,54,53,52]),(21,[1,10,85,84,13,83,9,5,54,53,52]),(25,[14,92,1,10,91,16,90,13,85,84,9,5,54,53,52,83])],[(8,[0,0,2,6,14,0,32,96,224,510,1023,2047,4095]),(17,[0,0,2,0,8,24,56,120,120,255,767]),(27,[0,0,3,7,0,16,0,112,240,496,0,1024,4080,8176,16383,0,65535]),(28,[0,0,3,7,0,16,0,112,240,496,0,1024,4080,8176,16383,0,65535]),(29,[0,0,0,6,0,0,62,126,254,511,1023]),(34,[0,0,0,4,12,28,0,64,252,0,512,1536,3584,0,8192,32764,65533,131069,262141,524287,1048575,2097151])],true,[]⟩ := by kernel_rfl
theorem ann30:A1 30 = some ⟨[1,2,0,3,4],[(6,[48,0,47,4])],[(0,[0,1,3,7,7,31,7,71,255,511]),(4,[0,1,0,0,15,0,63,127,255,511,1023]),(8,[0,0,0,4,0,16,62,0,128,510])],true,[(8,1)]⟩ := by kernel_rfl
theorem ann31:A1 31 = some ⟨[0,1],[(3,[13,1,12,5,11,0])],[(6,[0,1,3,7,15,0,63,127,0,0,768,1792,4095,8191,16383,32767])],true,[]⟩ := by kernel_rfl
theorem ann32:A1 32 = some ⟨[0,1],[(2,[15,14,0,1])],[],true,[]⟩ := by kernel_rfl
theorem ann33:A1 33 = some ⟨[0,1,2,3,4],[(3,[26,0,25,4])],[(7,[0,1,3,7,7,31,7,71,255,511,1023]),(5,[0,0,0,4,0,16,62,0,128,510])],true,[(5,1)]⟩ := by kernel_rfl
theorem ann34:A1 34 = some ⟨[0],[(3,[8,7,3,6])],[],true,[]⟩ := by kernel_rfl
theorem ann35:A1 35 = some ⟨[0],[],[],true,[]⟩ := by kernel_rfl
theorem ann36:A1 36 = some ⟨[0],[],[(3,[0,1,3,7,0,16,55,127,255])],true,[]⟩ := by kernel_rfl
theorem ann37:A1 37 = some ⟨[0,1],[(4,[21,20,5,19,4])],[(6,[0,1,0,4,0,16,48,112,240,240,511,1535])],true,[]⟩ := by kernel_rfl
theorem ann38:A1 38 = some ⟨[0,1],[(4,[19,18,2,17,3]),(10,[42,3,2,41])],[(15,[0,1,0,0,8,28,63,127])],true,[]⟩ := by kernel_rfl
theorem ann39:A1 39 = some ⟨[0,1,2,3],[(5,[20,19,10,18,2,3,4,5]),(15,[62,61,2,4,5,3])],[(10,[0,1,0,0,0,16,48,0,252,511,1023]),(17,[0,0,0,0,8,0,32,120,255,511,1023,1023,2047,8191])],true,[]⟩ := by kernel_rfl
theorem ann40:A1 40 = some ⟨[0],[],[],true,[]⟩ := by kernel_rfl
theorem ann41:A1 41 = some ⟨[0],[],[],true,[]⟩ := by kernel_rfl
theorem ann42:A1 42 = some ⟨[1,0],[],[],true,[]⟩ := by kernel_rfl
theorem ann43:A1 43 = some ⟨[1,0,4,5,2,3],[(10,[41,0,40,5])],[(4,[0,1,0,4,15]),(12,[0,0,0,4,0,16,62,0,128,510])],true,[(12,2)]⟩ := by kernel_rfl
theorem ann44:A1 44 = some ⟨[0,1],[(4,[13,12,0,1])],[(6,[0,0,3,7,0,0,48,112,255])],true,[]⟩ := by kernel_rfl
theorem ann45:A1 45 = some ⟨[1,2,0,3],[],[(5,[0,1,3,7,15,31,63,127,255,511,1023,511,511,6655,16383,32767,65535,131071,262143,131071,655359,2097151,4194303,8388607])],true,[]⟩ := by kernel_rfl
theorem ann59:A1 59 = some ⟨[0,1],[(2,[8,7,1,0])],[],true,[]⟩ := by kernel_rfl
theorem ann60:A1 60 = some ⟨[0],[],[],true,[]⟩ := by kernel_rfl
theorem ann61:A1 61 = some ⟨[0],[],[],true,[]⟩ := by kernel_rfl
theorem ann62:A1 62 = some ⟨[1,0],[],[],true,[]⟩ := by kernel_rfl
theorem ann63:A1 63 = some ⟨[0,1],[(2,[8,7,1,0])],[],true,[]⟩ := by kernel_rfl
theorem ann64:A1 64 = some ⟨[0],[],[],true,[]⟩ := by kernel_rfl
theorem ann66:A1 66 = some ⟨[0],[],[],true,[]⟩ := by kernel_rfl
theorem ann67:A1 67 = some ⟨[0,1],[],[(3,[0,1,0,4,15,0,32,0,159,511,1023,2047])],true,[]⟩ := by kernel_rfl
theorem ann68:A1 68 = some ⟨[0,1],[(5,[6,0,5,1,4])],[(7,[0,0,0,6,14,0,63,127])],true,[]⟩ := by kernel_rfl
theorem ann69:A1 69 = some ⟨[0,1],[],[],true,[]⟩ := by kernel_rfl
theorem ann70:A1 70 = some ⟨[0,1],[],[(3,[0,1,0,4,15,0,63,0,255,511,1023,2047])],true,[]⟩ := by kernel_rfl
theorem ann71:A1 71 = some ⟨[0,1],[],[],true,[]⟩ := by kernel_rfl
theorem ann72:A1 72 = some ⟨[0,1],[],[],true,[]⟩ := by kernel_rfl
theorem ann73:A1 73 = some ⟨[0,1,2],[],[(1,[0,0,0,7,0,16,48,112,240,0,1008,2032,0,0,12303,32767])],true,[]⟩ := by kernel_rfl
theorem ann74:A1 74 = some ⟨[0],[],[],true,[]⟩ := by kernel_rfl
theorem ann75:A1 75 = some ⟨[0],[],[(1,[0,1,3,7,15,31,63,31,255,511,1023,2047])],true,[]⟩ := by kernel_rfl
theorem ann76:A1 76 = some ⟨[0],[(5,[4,3,1])],[],true,[]⟩ := by kernel_rfl
theorem ann77:A1 77 = some ⟨[0],[],[],true,[]⟩ := by kernel_rfl
theorem ann78:A1 78 = some ⟨[0,1,3,2],[],[],true,[]⟩ := by kernel_rfl
theorem ann79:A1 79 = some ⟨[0,1],[(3,[12,5,1,11,10])],[],true,[]⟩ := by kernel_rfl
theorem ann80:A1 80 = some ⟨[0,1,2,3],[],[(2,[0,1,3,7,15,31,63,127,255,511,1023,511,511,6655,16383,32767,65535,131071,262143,131071,655359,2097151,4194303,8388607])],true,[]⟩ := by kernel_rfl
theorem ann81:A1 81 = some ⟨[1,0],[(4,[18,17,16,0])],[],true,[]⟩ := by kernel_rfl
theorem ann87:A1 87 = some ⟨[0],[],[],true,[]⟩ := by kernel_rfl
theorem ann90:A1 90 = some ⟨[0,1],[],[(3,[0,1,0,4,15,0,32,0,159,511,1023,0,4095,0,16383,32767,65535,131071])],true,[]⟩ := by kernel_rfl
theorem ann97:A1 97 = some ⟨[0,1],[],[],true,[]⟩ := by kernel_rfl
theorem ann98:A1 98 = some ⟨[0],[],[],true,[]⟩ := by kernel_rfl
theorem ann99:A1 99 = some ⟨[0,1],[],[],true,[]⟩ := by kernel_rfl
theorem ann101:A1 101 = some ⟨[0,1],[],[],true,[]⟩ := by kernel_rfl
theorem ann102:A1 102 = some ⟨[0,1],[],[(15,[0,1,3,7,7,31,63,127,255,511,511,2047,4095,8191,16383,32767])],true,[]⟩ := by kernel_rfl
theorem ann103:A1 103 = some ⟨[0,1],[],[],true,[]⟩ := by kernel_rfl
theorem ann104:A1 104 = some ⟨[0,1],[(3,[5,22,3,21,20,2,4]),(7,[30,8,5,6,29,28,7,3,22,21,2,4,20])],[],true,[]⟩ := by kernel_rfl
theorem ann105:A1 105 = some ⟨[0],[],[],true,[]⟩ := by kernel_rfl
theorem ann106:A1 106 = some ⟨[0,1],[],[(2,[0,1,0,7,15,31]),(4,[0,0,3,7])],true,[]⟩ := by kernel_rfl
theorem ann107:A1 107 = some ⟨[0,2,1],[(3,[36,7,1,35,34,6]),(9,[57,10,56,55,7,36,35,6,34,1])],[(1,[0,1,3,7,0,31,63,0,128,384,896,0,3968,8064,16383,0,65535]),(11,[0,1,0,4,15,0,32,0,128,511,1023,2047]),(13,[0,1,0,4,15,0,32,0,128,511,1023,2047])],true,[]⟩ := by kernel_rfl
theorem ann108:A1 108 = some ⟨[1,0],[],[],true,[]⟩ := by kernel_rfl
theorem ann109:A1 109 = some ⟨[0],[],[],true,[]⟩ := by kernel_rfl
theorem ann110:A1 110 = some ⟨[],[],[],true,[]⟩ := by kernel_rfl
theorem ann111:A1 111 = some ⟨[0,1],[(4,[8,7,1,6,0])],[],true,[]⟩ := by kernel_rfl
theorem ann114:A1 114 = some ⟨[0],[(1,[2,3,0])],[(3,[0,0,0,0,0,0,48,112,0,0,768,1792,4083,8179,16383,32767])],true,[]⟩ := by kernel_rfl
theorem ann116:A1 116 = some ⟨[0,1,2],[(3,[3,1,33,6,7,2,32]),(9,[53,52,9,3,1,8,6,7,33,32,2]),(15,[74,11,12,73,3,1,72,8,6,7,33,32,2])],[(1,[0,1,0,7,15,31,0,64,0,448,960,1984,63,8191]),(13,[0,0,0,0,8,24,63,127,255,255,0,0,3583,8191]),(18,[0,0,3,0,0,31,63,127]),(20,[0,0,3,0,0,31,63,127]),(22,[0,0,1,7])],true,[]⟩ := by kernel_rfl
theorem ann117:A1 117 = some ⟨[0,1],[],[],true,[]⟩ := by kernel_rfl
theorem ann128:A1 128 = some ⟨[0,1],[],[(2,[0,1,0,4,0,16,60,127,255]),(4,[0,1,0,4,0,16,60,127,255]),(5,[0,1,0,4,0,16,60,127,255])],true,[]⟩ := by kernel_rfl
theorem ann131:A1 131 = some ⟨[0],[],[],true,[]⟩ := by kernel_rfl
theorem ann133:A1 133 = some ⟨[0,1],[],[],true,[]⟩ := by kernel_rfl
theorem ann135:A1 135 = some ⟨[0],[],[],true,[]⟩ := by kernel_rfl
theorem ann136:A1 136 = some ⟨[0,1],[(9,[33,32,31,1,2])],[(13,[0,1,3,7,15,7,39,127,255,511,7,1031,4095,8191])],true,[]⟩ := by kernel_rfl
theorem ann137:A1 137 = some ⟨[0],[],[],true,[]⟩ := by kernel_rfl
theorem ann138:A1 138 = some ⟨[0,1],[],[],true,[]⟩ := by kernel_rfl
theorem ann139:A1 139 = some ⟨[0],[],[],true,[]⟩ := by kernel_rfl
theorem ann142:A1 142 = some ⟨[0],[(9,[4,6,5,2]),(13,[48,47,8,4,7,6,5,2])],[],true,[]⟩ := by kernel_rfl
theorem ann143:A1 143 = some ⟨[0,1],[(2,[6,5,4])],[(1,[0,1,0,4,3,31])],true,[]⟩ := by kernel_rfl
theorem ann144:A1 144 = some ⟨[0,1],[(6,[5,0,1])],[(8,[0,0,3,7,0,0,48,112,255]),(9,[0,0,3,7,0,0,48,112,255])],true,[]⟩ := by kernel_rfl
theorem ann145:A1 145 = some ⟨[0,1],[],[(4,[0,1,0,4,15,0,63,0,128,0,1023,2047,4095]),(6,[0,0,3,0,0,31,63,127]),(7,[0,0,1,7,15])],true,[]⟩ := by kernel_rfl
theorem ann146:A1 146 = some ⟨[0],[(1,[0])],[],true,[]⟩ := by kernel_rfl
theorem ann154:A1 154 = some ⟨[0,2,3,1],[],[(1,[0,1,3,0,15,31,0,127,255,0,512,0,3584,7680,15872,0,65024,130560,0,0,786943,2097151]),(2,[0,0,2,6,0,30,62,126,0,256,1022,2046,4095,0,16383]),(3,[0,0,2,6,0,30,62,126,0,256,1022,2046,4095,0,16383]),(4,[0,0,3,0,0,31,63,127])],true,[]⟩ := by kernel_rfl
theorem ann159:A1 159 = some ⟨[0,1],[(6,[22,6,1,21,5,20,0])],[],true,[]⟩ := by kernel_rfl
theorem ann160:A1 160 = some ⟨[0,1],[(4,[15,1,14,5,13,6])],[],true,[]⟩ := by kernel_rfl
theorem ann161:A1 161 = some ⟨[0,1,2],[(2,[10,1,2])],[],true,[]⟩ := by kernel_rfl
theorem ann162:A1 162 = some ⟨[0,1],[],[],true,[]⟩ := by kernel_rfl
theorem ann163:A1 163 = some ⟨[0,1],[],[(3,[0,0,3,0,0,0,32,112,248,7,1023,2047])],true,[]⟩ := by kernel_rfl
theorem ann173:A1 173 = some ⟨[0],[],[],true,[]⟩ := by kernel_rfl
theorem ann175:A1 175 = some ⟨[0,2,1],[(4,[19,8,18,7,17,1,0])],[],true,[]⟩ := by kernel_rfl
theorem ann176:A1 176 = some ⟨[0,1],[(10,[11,10,4,9,8])],[],true,[]⟩ := by kernel_rfl
theorem ann177:A1 177 = some ⟨[0,1],[],[(1,[0,0,2,7,15])],true,[]⟩ := by kernel_rfl
theorem ann185:A1 185 = some ⟨[0,1],[(2,[8,7,1,0])],[],true,[]⟩ := by kernel_rfl
theorem ann186:A1 186 = some ⟨[1,0],[(15,[8,0,9,5,1,10,6,7])],[],true,[]⟩ := by kernel_rfl
theorem ann194:A1 194 = some ⟨[0],[],[],true,[]⟩ := by kernel_rfl
theorem ann195:A1 195 = some ⟨[0,1],[(3,[14,5,1,13,12])],[(5,[0,0,3,7,0,0,48,127,255,511])],true,[]⟩ := by kernel_rfl
theorem ann196:A1 196 = some ⟨[1,0],[(4,[8,7,5,1,0]),(9,[86,9,0,85,10,7,84,5,1]),(25,[139,9,0,138,137,5,7])],[(2,[0,0,3,7,15,31,0,0,128,448,960,1984,4095,8191]),(3,[0,0,0,4,14,30,62,127,0,0,0,1024,3584,7680,15872,32512,255,131071]),(4,[0,1,3,7,15,31,63,63,63,319,959,1983,4031,8191,63,16447,63,63,131135,458815,983103,2031679,4177983,8388607,16777215,33554431])],true,[]⟩ := by kernel_rfl
theorem ann197:A1 197 = some ⟨[0,1],[(3,[11,5,1,0,10])],[(7,[0,0,3,7,0,0,32,112,240,496,1008,0,4080,8176,16383,32767,65535])],true,[]⟩ := by kernel_rfl
theorem ann217:A1 217 = some ⟨[0],[],[],true,[]⟩ := by kernel_rfl
theorem ann218:A1 218 = some ⟨[0],[],[],true,[]⟩ := by kernel_rfl
end Go.Proofs.Tryz
